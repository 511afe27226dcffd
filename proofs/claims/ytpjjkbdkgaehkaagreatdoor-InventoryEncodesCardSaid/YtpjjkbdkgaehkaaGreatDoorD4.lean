/-
  Walks: versions of Debian packages valid and compared; Dotted versions parsed and compared.
  Walks: Dotted versions parsed and compared.
-/
import Derived.Test.YtpjjkbdkgaehkaaGreatDoorD0
import Derived.Test.YtpjjkbdkgaehkaaGreatDoorC2
import Derived.Test.YtpjjkbdkgaehkaaGreatDoorV5
namespace Go.Proofs.YtpjjkbdkgaehkaaGreatDoor
open Go.RowKit

theorem debTail_len {E v a b c : V.Bs} (h : V.debTail E v = some (a, b, c)) : a = E ∧ b.length ≤ v.length ∧ c.length ≤ v.length := by
  unfold V.debTail at h
  split at h
  · split at h
    · simp at h; obtain ⟨rfl, rfl, rfl⟩ := h; simp
    · cases h
  · split at h
    · split at h
      · simp at h; obtain ⟨rfl, rfl, rfl⟩ := h; simp; omega
      · cases h
    · cases h
theorem debParse_len {v a b c : V.Bs} (h : V.debParse v = some (a, b, c)) : a.length ≤ v.length ∧ b.length ≤ v.length ∧ c.length ≤ v.length := by
  unfold V.debParse at h
  have hl := cut1_len 58 v
  split at h
  · split at h
    · have := debTail_len h; obtain ⟨rfl, h1, h2⟩ := this; omega
    · cases h
  · have := debTail_len h; obtain ⟨rfl, h1, h2⟩ := this; simp; omega

set_option maxRecDepth 100000 in
set_option maxHeartbeats 3200000 in
theorem debCompare_any (s t : ByteArray) (x0 x1 x2 y0 y1 y2 : V.Bs) (w : World) (hm : MaxOk w) (hs : s.size ≤ 1000) (ht : t.size ≤ 1000)
    (hp : V.debParse s.data.toList = some (x0, x1, x2)) (hq : V.debParse t.data.toList = some (y0, y1, y2)) :
    Calls Tryz.prog 220 #[.agg #[], .string s, .string t] w fun e w' => e = .returned (.int .i64 (V.debCmp (x0, x1, x2) (y0, y1, y2))) ∧ Below w.heap.size w w' := by
  have HF : Hid (V.debCmp (x0, x1, x2) (y0, y1, y2) = V.orI [V.numbers x0 y0, V.textsC x1 y1, V.textsC x2 y2]) := rfl
  have hb0 : Below w.heap.size w (w.alloc (.cells #[] 164)) := (Below.refl _ w).alloc (Nat.le_refl _) _
  have hm0 := hm.below hb0
  have hlx := debParse_len hp
  have hly := debParse_len hq
  rw [bs_size] at hlx hly
  obtain ⟨lx0, lx1, lx2⟩ := hlx
  obtain ⟨ly0, ly1, ly2⟩ := hly
  have HP := Lib.hid hp
  have HQ := Lib.hid hq
  have HB0 := Lib.hid hb0
  clear hp hq hb0
  go_enter Tryz.func220, Tryz.ntmps220
  go_wp2_with fail
  refine (debParse_any s _ hm0 hs).mono ?_
  rintro e w1 h
  obtain ⟨rfl, hb1⟩ := debPost_some h HP.out
  have hB1 := HB0.out.trans (hb1.mono HB0.out.size)
  have HB1 := Lib.hid hB1
  have hm1 := hm.below hB1
  clear h hb1 hB1
  go_wp2_with fail
  have hbc : Below w1.heap.size w1 (w1.alloc (.cells #[.string ⟨x0.toArray⟩, .string ⟨x1.toArray⟩, .string ⟨x2.toArray⟩] 239)) := (Below.refl _ _).alloc (Nat.le_refl _) _
  refine (debParse_any t _ (hm1.below hbc) ht).mono ?_
  rintro e w2 h
  obtain ⟨rfl, hb2⟩ := debPost_some h HQ.out
  have hc2 : ∀ i, w2.cell? ⟨w1.heap.size, i, none⟩ = #[Value.string ⟨x0.toArray⟩, .string ⟨x1.toArray⟩, .string ⟨x2.toArray⟩][i]? := carry_cell hb2 (by simp) (fun i => by rw [cell_alloc, if_pos rfl])
  have hB2 := hbc.trans (hb2.mono hbc.size)
  have hz2 : w1.heap.size < w2.heap.size := Nat.lt_of_lt_of_le (by simp) hb2.size
  have HB2 := Lib.hid (HB1.out.trans (hB2.mono HB1.out.size))
  clear h hb2 hbc hB2
  go_wp2_with fail
  obtain ⟨W3, hW3⟩ : ∃ W3, W3 = w2.alloc (.cells #[.string ⟨y0.toArray⟩, .string ⟨y1.toArray⟩, .string ⟨y2.toArray⟩] 239) := ⟨_, rfl⟩
  rw [← hW3]
  have hb3 : Below w2.heap.size w2 W3 := by rw [hW3]; exact (Below.refl _ _).alloc (Nat.le_refl _) _
  have e : ∀ i, W3.cell? ⟨w1.heap.size, i, none⟩ = #[Value.string ⟨x0.toArray⟩, .string ⟨x1.toArray⟩, .string ⟨x2.toArray⟩][i]? := carry_cell hb3 hz2 hc2
  have g : ∀ i, W3.cell? ⟨w2.heap.size, i, none⟩ = #[Value.string ⟨y0.toArray⟩, .string ⟨y1.toArray⟩, .string ⟨y2.toArray⟩][i]? := fun i => by rw [hW3, cell_alloc, if_pos rfl]
  have e0 := e 0
  have e1 := e 1
  have e2 := e 2
  have g0 := g 0
  have g1 := g 1
  have g2 := g 2
  simp at e0 e1 e2 g0 g1 g2
  have HB3 := Lib.hid (HB2.out.trans (hb3.mono HB2.out.size))
  have hz3 : w2.heap.size < W3.heap.size := by rw [hW3]; simp
  have hz4 : w1.heap.size < W3.heap.size := by omega
  clear hW3 hb3 e g hc2 hm0 hm1 HB1 HB2 HB0
  go_region_held3 (fun W' => (W'.cell? ⟨w1.heap.size, 0, none⟩ = some (.string ⟨x0.toArray⟩) ∧ W'.cell? ⟨w1.heap.size, 1, none⟩ = some (.string ⟨x1.toArray⟩) ∧ W'.cell? ⟨w1.heap.size, 2, none⟩ = some (.string ⟨x2.toArray⟩) ∧
      W'.cell? ⟨w2.heap.size, 0, none⟩ = some (.string ⟨y0.toArray⟩) ∧ W'.cell? ⟨w2.heap.size, 1, none⟩ = some (.string ⟨y1.toArray⟩) ∧ W'.cell? ⟨w2.heap.size, 2, none⟩ = some (.string ⟨y2.toArray⟩)))
    (first
      | go_keep
      | (go_split_ands
         refine ⟨?_, ?_, ?_, ?_, ?_, ?_⟩ <;> (refine keep_cell hbq ?_; first | assumption | (simp only [World.cell?_drew]; assumption))))
    (first
      | (go_at_call 196; refine (numbers_any _ _ _).mono ?_; rintro e wq ⟨rfl, hbq⟩)
      | (go_at_call 224; refine (texts_at _ _ _ (by omega) (by omega)).mono ?_; rintro e wq ⟨rfl, hbq⟩)
      | (go_at_call 195; refine (or_any _ [V.numbers x0 y0, V.textsC x1 y1, V.textsC x2 y2] _ (by simp) (three_ints _ _ _ _ _)).mono ?_; rintro e wq ⟨rfl, rfl⟩))
  rename_i wa hba wb hbb hS
  have hbx : Below W3.heap.size W3 wq := ((Below.refl W3.heap.size W3).drew).trans (Below.trans (show Below W3.heap.size W3.drew wa from hba) ((hbb.trans (hbq.mono hbb.size)).mono hba.size))
  have HB4 := Lib.hid (HB3.out.trans (hbx.mono HB3.out.size))
  clear e0 e1 e2 g0 g1 g2 hba hbb hbq hbx hS HB3 hz2 hz3 hz4
  go_wp2
  go_ret
  exact ⟨ret_int HF.out.symm, HB4.out.alloc HB4.out.size _⟩
end Go.Proofs.YtpjjkbdkgaehkaaGreatDoor
namespace Go.Proofs.YtpjjkbdkgaehkaaGreatDoor
open Go.RowKit

def DotPost (l : List V.Bs) (w : World) (e : Ending) (w' : World) : Prop := ∃ v, e = .returned v ∧ Strs w' v l ∧ Below w.heap.size w w'

def lenOf : Value → Nat
  | .slice _ n _ => n
  | _ => 0

theorem strip_take {L : List V.Bs} {k : Nat} (hk : k < L.length) (h : (V.value (L.getD k [])).isEmpty = true) : V.stripEnd (L.take (k + 1)) = V.stripEnd (L.take k) := by
  rw [List.take_succ_eq_append_getElem hk]
  rw [getD_of hk] at h
  exact V.stripEnd_drop _ _ h
theorem strip_stop' {L : List V.Bs} {k : Nat} (hk : k < L.length) (h : (V.value (L.getD k [])).isEmpty = false) : V.stripEnd (L.take (k + 1)) = L.take (k + 1) := by
  rw [List.take_succ_eq_append_getElem hk]
  rw [getD_of hk] at h
  exact V.stripEnd_stop _ _ h

set_option maxRecDepth 100000 in
set_option maxHeartbeats 1600000 in
theorem dotParse_any (s : ByteArray) (w : World) (hm : MaxOk w) (hs : s.size ≤ 1000) :
    Calls Tryz.prog 235 #[.agg #[], .string s] w (DotPost (V.dotParse s.data.toList) w) := by
  have hb0 : Below w.heap.size w (w.alloc (.cells #[] 165)) := (Below.refl _ w).alloc (Nat.le_refl _) _
  have hm0 := hm.below hb0
  obtain ⟨L, hL⟩ : ∃ L, V.splitOn 46 s.data.toList = L := ⟨_, rfl⟩
  have HP : Hid (V.dotParse s.data.toList = V.stripEnd L) := Lib.hid (by unfold V.dotParse; rw [hL])
  have hlen : L.length ≤ s.size + 1 := by have := splitOn_le 46 s.data.toList; rw [hL, bs_size] at this; exact this
  have HL := Lib.hid hL
  have HB0 := Lib.hid hb0
  clear hL hb0
  go_enter Tryz.func235, Tryz.ntmps235
  go_wp2_with fail
  refine (split_any s 46 _ hm0 (by omega)).mono ?_
  rintro e w1 ⟨rfl, hw1⟩
  simp only [HL.out, World.size_alloc] at hw1 ⊢
  have hz : w.heap.size + 1 < w1.heap.size := by rw [hw1]; simp
  have hcs : ∀ j, j < L.length → w1.cell? ⟨w.heap.size + 1, j, none⟩ = some (.string ⟨(L.getD j []).toArray⟩) := fun j hj => by
    rw [hw1, cell_alloc, if_pos (by simp), strCells_at L j hj, getD_of hj]
  have HB1 : Hid (Below w.heap.size w w1) := Lib.hid (by rw [hw1]; exact HB0.out.alloc HB0.out.size _)
  have HCS := Lib.hid hcs
  clear hw1 hcs HB0 hm0
  go_wp2
  go_loop [5] (fun v => ∃ k : Nat, k ≤ L.length ∧ v = .slice (some ⟨w.heap.size + 1, 0, none⟩) k L.length ∧ V.stripEnd (L.take k) = V.stripEnd L) (fun v => lenOf v)
  case atStart => exact ⟨L.length, Nat.le_refl _, rfl, by rw [List.take_of_length_le (Nat.le_refl _)]⟩
  case round =>
    obtain ⟨k, hk, rfl, hst⟩ := hrel
    have HST := Lib.hid hst
    clear hst
    have FIN : Hid (∀ l, l = L.take k → V.stripEnd L = l → DotPost (V.dotParse s.data.toList) w (.returned (.slice (some ⟨w.heap.size + 1, 0, none⟩) k L.length)) w1) := Lib.hid (fun l hl hs => by
      refine ⟨_, rfl, ⟨some ⟨w.heap.size + 1, 0, none⟩, L.length, ?_, fun j hj => ⟨_, _, rfl, hz, ?_⟩⟩, HB1.out⟩
      · rw [HP.out, hs, hl, List.length_take, Nat.min_eq_left hk]
      · have hlt : j < L.length := by
          rw [HP.out, hs, hl, List.length_take] at hj; omega
        rw [Nat.zero_add, HCS.out j hlt, getD_of hlt]
        congr 3
        have e : V.dotParse s.data.toList = L.take k := by rw [HP.out, hs, hl]
        simp only [e, List.getElem_take])
    cases k with
    | zero =>
      have HF := Lib.hid (FIN.out (L.take 0) rfl (by rw [← HST.out]; rfl))
      go_wp2
      go_ret
      exact HF.out
    | succ k =>
      have hcell := HCS.out k (by omega)
      have hx1 : ((k + 1 : Nat) : Int) = (k : Int) + 1 := by omega
      rcases hv : (V.value (L.getD k [])).isEmpty with _ | _
      all_goals
        have HV := Lib.hid hv
        clear hv
        generalize hX : L.getD k [] = X at *
        have HX := Lib.hid hX
        clear hX
        go_wp2_with fail
        refine (value_any ⟨X.toArray⟩ _).mono ?_
        rintro e w' ⟨rfl, rfl⟩
        simp only 
        have hv := HV.out
        go_wp2
      · have HF := Lib.hid (FIN.out (L.take (k + 1)) rfl (by rw [← HST.out]; exact strip_stop' (by omega) (by rw [HX.out]; exact HV.out)))
        go_ret
        exact HF.out
      · go_round
        case rel => exact ⟨k, by omega, rfl, by rw [← strip_take (k := k) (by omega) (by rw [HX.out]; exact HV.out)]; exact HST.out⟩
        case measure => simp [lenOf]

theorem numbers_for (a b : V.Bs) (W : World) : Calls Tryz.prog 196 (#[.string ⟨a.toArray⟩, .string ⟨b.toArray⟩] ++ #[]) W fun e w' => e = .returned (.int .i64 (V.numbers a b)) ∧ Below W.heap.size W w' := by
  have h := numbers_any ⟨a.toArray⟩ ⟨b.toArray⟩ W
  simp only  at h
  exact h

theorem stripEnd_sub (l : List V.Bs) : ∀ x ∈ V.stripEnd l, x ∈ l := by
  intro x hx
  unfold V.stripEnd at hx
  have := (List.dropWhile_sublist (l := l.reverse) (fun x => (V.value x).isEmpty)).subset (List.mem_reverse.1 hx)
  exact List.mem_reverse.1 this
theorem stripEnd_len (l : List V.Bs) : (V.stripEnd l).length ≤ l.length := by
  unfold V.stripEnd
  have := (List.dropWhile_sublist (l := l.reverse) (fun x => (V.value x).isEmpty)).length_le
  simpa using this

set_option maxRecDepth 100000 in
set_option maxHeartbeats 1600000 in
theorem dotCompare_any (s t : ByteArray) (w : World) (hm : MaxOk w) (hs : s.size ≤ 1000) (ht : t.size ≤ 1000) :
    Calls Tryz.prog 232 #[.agg #[], .string s, .string t] w fun e w' => e = .returned (.int .i64 (V.dotCmp s.data.toList t.data.toList)) ∧ Below w.heap.size w w' := by
  have HF : Hid (V.dotCmp s.data.toList t.data.toList = V.listCmp V.numbers (V.dotParse s.data.toList) (V.dotParse t.data.toList)) := rfl
  have hb0 : Below w.heap.size w (w.alloc (.cells #[] 165)) := (Below.refl _ w).alloc (Nat.le_refl _) _
  have hm0 := hm.below hb0
  have sz : ∀ r : ByteArray, r.size ≤ 1000 → (V.dotParse r.data.toList).length ≤ 2000 ∧ ∀ x ∈ V.dotParse r.data.toList, x.length ≤ 1000 := fun r hr => by
    refine ⟨?_, fun x hx => ?_⟩
    · have h1 := stripEnd_len (V.splitOn 46 r.data.toList)
      have h2 := splitOn_le 46 r.data.toList
      rw [bs_size] at h2
      unfold V.dotParse; omega
    · have h1 := splitOn_mem 46 _ x (stripEnd_sub _ x hx)
      rw [bs_size] at h1; omega
  have SZ := Lib.hid sz
  have HB0 := Lib.hid hb0
  clear sz hb0
  go_enter Tryz.func232, Tryz.ntmps232
  go_wp2
  go_region_held3 (fun W' => MaxOk W' ∧ True)
    (first
      | (go_split_ands; exact ⟨MaxOk.below (by assumption) hbq, trivial⟩)
      | (exact ⟨hm0, trivial⟩)
      | go_keep)
    (first
      | (go_at_call 235; refine (dotParse_any _ _ (by first | assumption | exact And.left (b := True) (by assumption) | exact MaxOk.below (by assumption) (by assumption)) (by assumption)).mono ?_; rintro e wq ⟨vq, rfl, hsq, hbq⟩)
      | (go_at_call 198; refine (compareFunc_any _ _ (V.dotParse s.data.toList) (V.dotParse t.data.toList) _ #[] V.numbers _ (by first | assumption | exact Strs.below (by assumption) (by assumption)) (by first | assumption | exact Strs.below (by assumption) (by assumption)) (SZ.out s hs).1 (SZ.out t ht).1 (SZ.out s hs).2 (SZ.out t ht).2 (enters_of Tryz.func196 (by kernel_rfl) rfl) (fun x y W _ _ => numbers_for x y W)).mono ?_; rintro e wq ⟨rfl, hbq⟩))
  rename_i wa va hsa hba wb hbb hH
  have hbx : Below w.heap.size w wq := HB0.out.trans ((((Below.refl _ (w.alloc (.cells #[] 165))).drew).trans (Below.trans (show Below (w.alloc (.cells #[] 165)).heap.size (w.alloc (.cells #[] 165)).drew wa from hba) ((hbb.trans (hbq.mono hbb.size)).mono hba.size))).mono HB0.out.size)
  have HBX := Lib.hid hbx
  clear hsa hba hbb hH hsq hbq hbx
  go_wp2
  go_ret
  exact ⟨ret_int HF.out.symm, HBX.out⟩
end Go.Proofs.YtpjjkbdkgaehkaaGreatDoor
