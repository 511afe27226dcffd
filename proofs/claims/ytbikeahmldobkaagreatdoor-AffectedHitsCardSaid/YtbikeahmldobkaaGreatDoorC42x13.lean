/-
  Lemmas for the law.
-/
import Derived.Test.YtbikeahmldobkaaGreatDoorC42x07
import Derived.Test.YtbikeahmldobkaaGreatDoorC42x10
import Derived.Test.YtbikeahmldobkaaGreatDoorC42x04
import Derived.Test.YtbikeahmldobkaaGreatDoorC42x03
import Derived.Lib.BufSteps
import Derived.OwnWalk
set_option linter.all false
set_option maxRecDepth 100000
set_option maxHeartbeats 3200000
namespace Go.Proofs.YtbikeahmldobkaaGreatDoor
open Go.RowKit
theorem zg6 {E v a b c : V.Bs} (h : V.jf E v = some (a, b, c)) : a = E /\ b.length ≤ v.length /\ c.length ≤ v.length := by
 unfold V.jf at h
 split at h
 ·split at h
  ·simp at h; obtain ⟨rfl, rfl, rfl⟩ := h; simp
  ·cases h
 ·split at h
  ·split at h
   ·simp at h; obtain ⟨rfl, rfl, rfl⟩ := h; simp; omega
   ·cases h
  ·cases h
theorem zf0 {v a b c : V.Bs} (h : V.zy v = some (a, b, c)) : a.length ≤ v.length /\ b.length ≤ v.length /\ c.length ≤ v.length := by
 unfold V.zy at h
 have hl := yl 58 v
 split at h
 ·split at h
  ·have := zg6 h; obtain ⟨rfl, h1, h2⟩ := this; omega
  ·cases h
 ·have := zg6 h; obtain ⟨rfl, h1, h2⟩ := this; simp; omega
theorem zi7 (s t : ByteArray) (x0 x1 x2 y0 y1 y2 : V.Bs) (w : World) (hm : zk w) (hs : s.size ≤ 1000) (ht : t.size ≤ 1000)
  (hp : V.zy s.data.toList = some (x0, x1, x2)) (hq : V.zy t.data.toList = some (y0, y1, y2)) :
  Calls Tryz.prog 251 #[.agg #[], .string s, .string t] w fun e w' => e = .returned (.int .i64 (V.ug (x0, x1, x2) (y0, y1, y2))) /\ Below w.heap.size w w' := by
 have HF : Hid (V.ug (x0, x1, x2) (y0, y1, y2) = V.orI [V.numbers x0 y0, V.qj x1 y1, V.qj x2 y2]) := rfl
 have g6 : Below w.heap.size w (w.alloc (.cells #[] 204)) := (zv5 _ w).alloc (zv4 _) _
 have g8 := hm.below g6
 have g9 := zf0 hp
 have h0 := zf0 hq
 rw [zj] at g9 h0
 obtain ⟨lx0, lx1, lx2⟩ := g9
 obtain ⟨ly0, ly1, ly2⟩ := h0
 have HP := zv2 hp
 have HQ := zv2 hq
 have HB0 := zv2 g6
 clear hp hq g6
 go_enter Tryz.func251, Tryz.ntmps251
 go_wp2_with fail
 refine (zal s _ g8 hs).mono ?_
 rintro e w1 h
 obtain ⟨rfl, hb1⟩ := zck h HP.out
 have g7 := HB0.out.trans (hb1.mono HB0.out.size)
 have HB1 := zv2 g7
 have h1 := hm.below g7
 clear h hb1 g7
 go_wp2_with fail
 have g4 : Below w1.heap.size w1 (w1.alloc (.cells #[.string ⟨x0.toArray⟩, .string ⟨x1.toArray⟩, .string ⟨x2.toArray⟩] 280)) := (zv5 _ _).alloc (zv4 _) _
 refine (zal t _ (h1.below g4) ht).mono ?_
 rintro e w2 h
 obtain ⟨rfl, hb2⟩ := zck h HQ.out
 have h2 : ∀ i, w2.cell? ⟨w1.heap.size, i, none⟩ = #[Value.string ⟨x0.toArray⟩, .string ⟨x1.toArray⟩, .string ⟨x2.toArray⟩][i]? := jb hb2 (by simp) (fun i => by rw [zh, if_pos rfl])
 have h3 := g4.trans (hb2.mono g4.size)
 have h4 : w1.heap.size < w2.heap.size := Nat.lt_of_lt_of_le (by simp) hb2.size
 have HB2 := zv3 HB1 h3
 clear h hb2 g4 h3
 go_wp2_with fail
 obtain ⟨W3, g3⟩ : ∃ W3, W3 = w2.alloc (.cells #[.string ⟨y0.toArray⟩, .string ⟨y1.toArray⟩, .string ⟨y2.toArray⟩] 280) := ⟨_, rfl⟩
 rw [← g3]
 have hb3 : Below w2.heap.size w2 W3 := by rw [g3]; exact (zv5 _ _).alloc (zv4 _) _
 have e : ∀ i, W3.cell? ⟨w1.heap.size, i, none⟩ = #[Value.string ⟨x0.toArray⟩, .string ⟨x1.toArray⟩, .string ⟨x2.toArray⟩][i]? := jb hb3 h4 h2
 have g : ∀ i, W3.cell? ⟨w2.heap.size, i, none⟩ = #[Value.string ⟨y0.toArray⟩, .string ⟨y1.toArray⟩, .string ⟨y2.toArray⟩][i]? := fun i => by rw [g3, zh, if_pos rfl]
 have e0 := e 0
 have e1 := e 1
 have e2 := e 2
 have g0 := g 0
 have g1 := g 1
 have g2 := g 2
 simp at e0 e1 e2 g0 g1 g2
 have HB3 := zv3 HB2 hb3
 have h6 : w2.heap.size < W3.heap.size := by rw [g3]; simp
 have hz4 : w1.heap.size < W3.heap.size := by omega
 clear g3 hb3 e g h2 g8 h1 HB1 HB2 HB0
 go_region_held3 (fun W' => (W'.cell? ⟨w1.heap.size, 0, none⟩ = some (.string ⟨x0.toArray⟩) /\ W'.cell? ⟨w1.heap.size, 1, none⟩ = some (.string ⟨x1.toArray⟩) /\ W'.cell? ⟨w1.heap.size, 2, none⟩ = some (.string ⟨x2.toArray⟩) /\
     W'.cell? ⟨w2.heap.size, 0, none⟩ = some (.string ⟨y0.toArray⟩) /\ W'.cell? ⟨w2.heap.size, 1, none⟩ = some (.string ⟨y1.toArray⟩) /\ W'.cell? ⟨w2.heap.size, 2, none⟩ = some (.string ⟨y2.toArray⟩)))
  (first
    | go_keep
    | (go_split_ands
       refine ⟨?_, ?_, ?_, ?_, ?_, ?_⟩ <;> (refine zd3 g5 ?_; first | assumption | (simp only [World.cell?_drew]; assumption))))
  (first
    | (go_at_call 229; refine (vx _ _ _).mono ?_; rintro e wq ⟨rfl, g5⟩)
    | (go_at_call 255; refine (texts_at _ _ _ (by omega) (by omega)).mono ?_; rintro e wq ⟨rfl, g5⟩)
    | (go_at_call 152; refine (znm _ [V.numbers x0 y0, V.qj x1 y1, V.qj x2 y2] _ (by simp) (zjm _ _ _ _ _)).mono ?_; rintro e wq ⟨rfl, rfl⟩))
 rename_i wa hba wb hbb hS
 have h5 : Below W3.heap.size W3 wq := ((zv5 W3.heap.size W3).drew).trans (Below.trans (show Below W3.heap.size W3.drew wa from hba) ((hbb.trans (g5.mono hbb.size)).mono hba.size))
 have HB4 := zv3 HB3 h5
 clear e0 e1 e2 g0 g1 g2 hba hbb g5 h5 hS HB3 h4 h6 hz4
 go_wp2
 go_ret
 exact ⟨zv HF.out.symm, HB4.out.alloc HB4.out.size _⟩
def ztv (l : List V.Bs) (w : World) (e : Ending) (w' : World) : Prop := ∃ v, e = .returned v /\ Strs w' v l /\ Below w.heap.size w w'
def lenOf : Value -> Nat
 | .slice _ n _ => n
 | _ => 0
theorem zri {L : List V.Bs} {k : Nat} (hk : k < L.length) (h : (V.value (L.getD k [])).isEmpty = true) : V.qf (L.take (k + 1)) = V.qf (L.take k) := by
 rw [List.take_succ_eq_append_getElem hk]
 rw [jw hk] at h
 exact V.zkw _ _ h
theorem zqx {L : List V.Bs} {k : Nat} (hk : k < L.length) (h : (V.value (L.getD k [])).isEmpty = false) : V.qf (L.take (k + 1)) = L.take (k + 1) := by
 rw [List.take_succ_eq_append_getElem hk]
 rw [jw hk] at h
 exact V.zku _ _ h
theorem znv (s : ByteArray) (w : World) (hm : zk w) (hs : s.size ≤ 1000) :
  Calls Tryz.prog 266 #[.agg #[], .string s] w (ztv (V.jq s.data.toList) w) := by
 have g1 : Below w.heap.size w (w.alloc (.cells #[] 205)) := (zv5 _ w).alloc (zv4 _) _
 have g2 := hm.below g1
 obtain ⟨L, hL⟩ : ∃ L, V.zm 46 s.data.toList = L := ⟨_, rfl⟩
 have HP : Hid (V.jq s.data.toList = V.qf L) := zv2 (by unfold V.jq; rw [hL])
 have g5 : L.length ≤ s.size + 1 := by have := jl 46 s.data.toList; rw [hL, zj] at this; exact this
 have HL := zv2 hL
 have HB0 := zv2 g1
 clear hL g1
 go_enter Tryz.func266, Tryz.ntmps266
 go_wp2_with fail
 refine (kp s 46 _ g2 (by omega)).mono ?_
 rintro e w1 ⟨rfl, g0⟩
 simp only [HL.out, World.size_alloc] at g0 ⊢
 have hz : w.heap.size + 1 < w1.heap.size := by rw [g0]; simp
 have hcs : ∀ j, j < L.length -> w1.cell? ⟨w.heap.size + 1, j, none⟩ = some (.string ⟨(L.getD j []).toArray⟩) := fun j hj => by
  rw [g0, zh, if_pos (by simp), wg L j hj, jw hj]
 have HB1 : Hid (Below w.heap.size w w1) := zv2 (by rw [g0]; exact HB0.out.alloc HB0.out.size _)
 have g3 := zv2 hcs
 clear g0 hcs HB0 g2
 go_wp2
 go_loop [5] (fun v => ∃ k : Nat, k ≤ L.length /\ v = .slice (some ⟨w.heap.size + 1, 0, none⟩) k L.length /\ V.qf (L.take k) = V.qf L) (fun v => lenOf v)
 case atStart => exact ⟨L.length, zv4 _, rfl, by rw [List.take_of_length_le (zv4 _)]⟩
 case round =>
  obtain ⟨k, hk, rfl, g4⟩ := hrel
  have HST := zv2 g4
  clear g4
  have FIN : Hid (∀ l, l = L.take k -> V.qf L = l -> ztv (V.jq s.data.toList) w (.returned (.slice (some ⟨w.heap.size + 1, 0, none⟩) k L.length)) w1) := zv2 (fun l hl hs => by
    refine ⟨_, rfl, ⟨some ⟨w.heap.size + 1, 0, none⟩, L.length, ?_, fun j hj => ⟨_, _, rfl, hz, ?_⟩⟩, HB1.out⟩
    · rw [HP.out, hs, hl, List.length_take, Nat.min_eq_left hk]
    · have hlt : j < L.length := by
        rw [HP.out, hs, hl, List.length_take] at hj; omega
      rw [Nat.zero_add, g3.out j hlt, jw hlt]
      congr 3
      have e : V.jq s.data.toList = L.take k := by rw [HP.out, hs, hl]
      simp only [e, List.getElem_take])
  cases k with
  | zero =>
   have HF := zv2 (FIN.out (L.take 0) rfl (by rw [← HST.out]; rfl))
   go_wp2
   go_ret
   exact HF.out
  | succ k =>
   have hcell := g3.out k (by omega)
   have g6 : ((k + 1 : Nat) : Int) = (k : Int) + 1 := by omega
   rcases hv : (V.value (L.getD k [])).isEmpty with _ | _
   all_goals
    have HV := zv2 hv
    clear hv
    generalize hX : L.getD k [] = X at *
    have HX := zv2 hX
    clear hX
    go_wp2_with fail
    refine (zgt ⟨X.toArray⟩ _).mono ?_
    rintro e w' ⟨rfl, rfl⟩
    simp only
    have hv := HV.out
    go_wp2
   ·have HF := zv2 (FIN.out (L.take (k + 1)) rfl (by rw [← HST.out]; exact zqx (by omega) (by rw [HX.out]; exact HV.out)))
    go_ret
    exact HF.out
   ·go_round
    case rel => exact ⟨k, by omega, rfl, by rw [← zri (k := k) (by omega) (by rw [HX.out]; exact HV.out)]; exact HST.out⟩
    case measure => simp [lenOf]
theorem zq1 (a b : V.Bs) (W : World) : Calls Tryz.prog 229 (#[.string ⟨a.toArray⟩, .string ⟨b.toArray⟩] ++ #[]) W fun e w' => e = .returned (.int .i64 (V.numbers a b)) /\ Below W.heap.size W w' := by
 have h := vx ⟨a.toArray⟩ ⟨b.toArray⟩ W
 simp only  at h
 exact h
theorem zoj (l : List V.Bs) : ∀ x ∈ V.qf l, x ∈ l := by
 intro x hx
 unfold V.qf at hx
 have := (List.dropWhile_sublist (l := l.reverse) (fun x => (V.value x).isEmpty)).subset (List.mem_reverse.1 hx)
 exact List.mem_reverse.1 this
theorem znb (l : List V.Bs) : (V.qf l).length ≤ l.length := by
 unfold V.qf
 have := (List.dropWhile_sublist (l := l.reverse) (fun x => (V.value x).isEmpty)).length_le
 simpa using this
theorem zkd (s t : ByteArray) (w : World) (hm : zk w) (hs : s.size ≤ 1000) (ht : t.size ≤ 1000) :
  Calls Tryz.prog 263 #[.agg #[], .string s, .string t] w fun e w' => e = .returned (.int .i64 (V.za8 s.data.toList t.data.toList)) /\ Below w.heap.size w w' := by
 have HF : Hid (V.za8 s.data.toList t.data.toList = V.je V.numbers (V.jq s.data.toList) (V.jq t.data.toList)) := rfl
 have g1 : Below w.heap.size w (w.alloc (.cells #[] 205)) := (zv5 _ w).alloc (zv4 _) _
 have g3 := hm.below g1
 have sz : ∀ r : ByteArray, r.size ≤ 1000 -> (V.jq r.data.toList).length ≤ 2000 /\ ∀ x ∈ V.jq r.data.toList, x.length ≤ 1000 := fun r hr => by
  refine ⟨?_, fun x hx => ?_⟩
  ·have h1 := znb (V.zm 46 r.data.toList)
   have h2 := jl 46 r.data.toList
   rw [zj] at h2
   unfold V.jq; omega
  ·have h1 := kf 46 _ x (zoj _ x hx)
   rw [zj] at h1; omega
 have SZ := zv2 sz
 have HB0 := zv2 g1
 clear sz g1
 go_enter Tryz.func263, Tryz.ntmps263
 go_wp2
 go_region_held3 (fun W' => zk W' /\ True)
  (first
    | (go_split_ands; exact ⟨zk.below (by assumption) g0, trivial⟩)
    | (exact ⟨g3, trivial⟩)
    | go_keep)
  (first
    | (go_at_call 266; refine (znv _ _ (by first | assumption | exact And.left (b := True) (by assumption) | exact zk.below (by assumption) (by assumption)) (by assumption)).mono ?_; rintro e wq ⟨vq, rfl, g4, g0⟩)
    | (go_at_call 230; refine (zc6 _ _ (V.jq s.data.toList) (V.jq t.data.toList) _ #[] V.numbers _ (by first | assumption | exact Strs.below (by assumption) (by assumption)) (by first | assumption | exact Strs.below (by assumption) (by assumption)) (SZ.out s hs).1 (SZ.out t ht).1 (SZ.out s hs).2 (SZ.out t ht).2 (enters_of Tryz.func229 (by kernel_rfl) rfl) (fun x y W _ _ => zq1 x y W)).mono ?_; rintro e wq ⟨rfl, g0⟩))
 rename_i wa va hsa hba wb hbb hH
 have g2 : Below w.heap.size w wq := HB0.out.trans ((((zv5 _ (w.alloc (.cells #[] 205))).drew).trans (Below.trans (show Below (w.alloc (.cells #[] 205)).heap.size (w.alloc (.cells #[] 205)).drew wa from hba) ((hbb.trans (g0.mono hbb.size)).mono hba.size))).mono HB0.out.size)
 have HBX := zv2 g2
 clear hsa hba hbb hH g4 g0 g2
 go_wp2
 go_ret
 exact ⟨zv HF.out.symm, HBX.out⟩
open Go.RowKit
open Go.RowKit
theorem Strs.at {w : World} {a : Option Addr} {n cap : Nat} {l : List V.Bs} (h : Strs w (.slice a n cap) l) (j : Nat) (hj : j < l.length) :
  ∃ b off, a = some ⟨b, off, none⟩ /\ b < w.heap.size /\ w.cell? ⟨b, off + j, none⟩ = some (.string ⟨(l.getD j []).toArray⟩) := by
 obtain ⟨a', c, e, hc⟩ := h
 obtain ⟨b, off, ea, hb, hcell⟩ := hc j hj
 cases e
 refine ⟨b, off, ea, hb, ?_⟩
 rw [List.getD_eq_getElem?_getD, List.getElem?_eq_getElem hj]
 exact hcell
theorem Strs.slice {w : World} {v : Value} {l : List V.Bs} (h : Strs w v l) : ∃ a cap, v = .slice a l.length cap := by
 obtain ⟨a, c, e, _⟩ := h
 exact ⟨a, c, e⟩
theorem Strs.head {w : World} {v : Value} {l : List V.Bs} (h : Strs w v l) (h0 : 0 < l.length) :
  ∃ b off cap, v = .slice (some ⟨b, off, none⟩) l.length cap /\ b < w.heap.size /\ ∀ j, j < l.length -> w.cell? ⟨b, off + j, none⟩ = some (.string ⟨(l.getD j []).toArray⟩) := by
 obtain ⟨a, c, e, hc⟩ := h
 obtain ⟨b, off, rfl, hb, _⟩ := hc 0 h0
 refine ⟨b, off, c, e, hb, fun j hj => ?_⟩
 obtain ⟨b', off', ea, _, hcell⟩ := hc j hj
 cases ea
 rw [List.getD_eq_getElem?_getD, List.getElem?_eq_getElem hj]
 exact hcell
open Go.RowKit
theorem zvs (k : Nat) (w : World) : (method (k + 1) 203 (.agg #[]) "admission/version.compare").run Tryz.prog w = .ok (225, .agg #[]) w := by kernel_rfl
theorem zvn (k : Nat) (w : World) : (method (k + 1) 204 (.agg #[]) "admission/version.compare").run Tryz.prog w = .ok (251, .agg #[]) w := by kernel_rfl
theorem zvk (k : Nat) (w : World) : (method (k + 1) 205 (.agg #[]) "admission/version.compare").run Tryz.prog w = .ok (263, .agg #[]) w := by kernel_rfl
open Go.RowKit
def zq5 (T : Nat) (ok : Bool) (e : Ending) : Prop :=
 e = .returned (if ok then .tuple #[.func (.method "admission/version.compare") #[.iface T (.agg #[])] #[], .int .i64 0] else .tuple #[.nilFunc, .int .i64 1])
theorem zxo {P : Prop} (h : P := by
 have HF := zv2 (NEXT.out HVX.out)
 go_roundw
 case rel => exact ⟨k + 1, by omega, by go_num, HF.out, HB1.out⟩
 case measure => simp [intOf]; omega) : P := h
theorem zzd {P : Prop} (h : P := by
 have HF := zv2 (BAD.out HVX.out)
 go_ret2
 exact ⟨by rw [HF.out]; rfl, HB1.out⟩) : P := h
theorem zj9 (v : Value) (l : List V.Bs) (w : World) (hm : zk w) (hv : Strs w v l) (hl : l.length ≤ maxLen) (hx : ∀ x ∈ l, x.length ≤ maxLen) :
  Calls Tryz.prog 110 #[.int .i64 1, v] w fun e w' =>
   zq5 203 (l.all (V.valid 1)) e /\ Below w.heap.size w w' := by
 obtain ⟨a, cap, rfl, hc⟩ := hv
 unfold maxLen at hl
 have HC := zv2 hc
 have HX := zv2 hx
 have HM := zv2 hm
 clear hc hx hm
 go_enter Tryz.func110, Tryz.ntmps110
 go_wp2_with fail
 refine (zh4 _).mono ?_
 rintro e w' ⟨rfl, rfl⟩
 go_wp2
 go_loopw [15] (fun i wr => ∃ k : Nat, k ≤ l.length /\ i = .int .i64 k /\ (∀ j, j < k -> V.valid 1 (l.getD j []) = true) /\ Below w.heap.size w wr) (fun i _ => l.length - (intOf i).toNat)
 case atStart => exact ⟨0, Nat.zero_le _, rfl, fun j hj => by omega, zv5 _ _⟩
 case round =>
  obtain ⟨k, hk, rfl, hz, hB⟩ := hrel
  have HZ := zv2 hz
  have HB := zv2 hB
  clear hz hB
  by_cases hlt : k < l.length
  ·obtain ⟨b, o, ha, hb, hcell⟩ := HC.out k hlt
   have g1 := (HB.out.cell (p := ⟨b, o + k, none⟩) hb).trans hcell
   rw [← jw hlt] at g1
   have s1 := HX.out _ (List.getElem_mem hlt)
   rw [← jw hlt] at s1
   have BAD : Hid (V.valid 1 (l.getD k []) = false -> l.all (V.valid 1) = false) := zv2 (fun h => by
     rw [List.all_eq_false]
     exact ⟨l[k], List.getElem_mem hlt, by rw [← jw hlt, h]; simp⟩)
   have NEXT : Hid (V.valid 1 (l.getD k []) = true -> ∀ j, j < k + 1 -> V.valid 1 (l.getD j []) = true) := zv2 (fun h0 j hj => by
     by_cases e : j = k
     · subst e; exact h0
     · exact HZ.out j (by omega))
   subst ha
   clear hcell
   generalize l.getD k [] = x at *
   rcases g0 : V.valid 1 x with _ | _
   all_goals
    have HVX := zv2 g0
    clear g0
    go_wp2_with fail
    refine (zi9 ⟨x.toArray⟩ _ (HM.out.below HB.out) s1).mono ?_
    rintro e w1 ⟨rfl, hb1⟩
    simp only [HVX.out]
    have HB1 := zv3 HB hb1
    clear hb1
    go_wp2
   ·exact zzd
   ·exact zxo
  ·have HF : Hid (l.all (V.valid 1) = true) := zv2 (by
     rw [List.all_eq_true]
     intro x hx
     obtain ⟨j, hj, e⟩ := List.getElem_of_mem hx
     have := HZ.out j (by omega)
     rw [jw hj] at this
     rw [← e]; exact this)
   go_wp2
   go_ret2
   exact ⟨by rw [HF.out]; rfl, HB.out⟩
theorem ziv (v : Value) (l : List V.Bs) (w : World) (hm : zk w) (hv : Strs w v l) (hl : l.length ≤ maxLen) (hx : ∀ x ∈ l, x.length ≤ maxLen) :
  Calls Tryz.prog 110 #[.int .i64 2, v] w fun e w' =>
   zq5 204 (l.all (V.valid 2)) e /\ Below w.heap.size w w' := by
 obtain ⟨a, cap, rfl, hc⟩ := hv
 unfold maxLen at hl
 have HC := zv2 hc
 have HX := zv2 hx
 have HM := zv2 hm
 clear hc hx hm
 go_enter Tryz.func110, Tryz.ntmps110
 go_wp2_with fail
 refine (zhx _).mono ?_
 rintro e w' ⟨rfl, rfl⟩
 go_wp2
 go_loopw [15] (fun i wr => ∃ k : Nat, k ≤ l.length /\ i = .int .i64 k /\ (∀ j, j < k -> V.valid 2 (l.getD j []) = true) /\ Below w.heap.size w wr) (fun i _ => l.length - (intOf i).toNat)
 case atStart => exact ⟨0, Nat.zero_le _, rfl, fun j hj => by omega, zv5 _ _⟩
 case round =>
  obtain ⟨k, hk, rfl, hz, hB⟩ := hrel
  have HZ := zv2 hz
  have HB := zv2 hB
  clear hz hB
  by_cases hlt : k < l.length
  ·obtain ⟨b, o, ha, hb, hcell⟩ := HC.out k hlt
   have g1 := (HB.out.cell (p := ⟨b, o + k, none⟩) hb).trans hcell
   rw [← jw hlt] at g1
   have s1 := HX.out _ (List.getElem_mem hlt)
   rw [← jw hlt] at s1
   have BAD : Hid (V.valid 2 (l.getD k []) = false -> l.all (V.valid 2) = false) := zv2 (fun h => by
     rw [List.all_eq_false]
     exact ⟨l[k], List.getElem_mem hlt, by rw [← jw hlt, h]; simp⟩)
   have NEXT : Hid (V.valid 2 (l.getD k []) = true -> ∀ j, j < k + 1 -> V.valid 2 (l.getD j []) = true) := zv2 (fun h0 j hj => by
     by_cases e : j = k
     · subst e; exact h0
     · exact HZ.out j (by omega))
   subst ha
   clear hcell
   generalize l.getD k [] = x at *
   rcases g0 : V.valid 2 x with _ | _
   all_goals
    have HVX := zv2 g0
    clear g0
    go_wp2_with fail
    refine (zig ⟨x.toArray⟩ _ (HM.out.below HB.out) s1).mono ?_
    rintro e w1 ⟨rfl, hb1⟩
    simp only [HVX.out]
    have HB1 := zv3 HB hb1
    clear hb1
    go_wp2
   ·exact zzd
   ·exact zxo
  ·have HF : Hid (l.all (V.valid 2) = true) := zv2 (by
     rw [List.all_eq_true]
     intro x hx
     obtain ⟨j, hj, e⟩ := List.getElem_of_mem hx
     have := HZ.out j (by omega)
     rw [jw hj] at this
     rw [← e]; exact this)
   go_wp2
   go_ret2
   exact ⟨by rw [HF.out]; rfl, HB.out⟩
theorem zjk (v : Value) (l : List V.Bs) (w : World) (hm : zk w) (hv : Strs w v l) (hl : l.length ≤ maxLen) (hx : ∀ x ∈ l, x.length ≤ maxLen) :
  Calls Tryz.prog 110 #[.int .i64 3, v] w fun e w' =>
   zq5 205 (l.all (V.valid 3)) e /\ Below w.heap.size w w' := by
 obtain ⟨a, cap, rfl, hc⟩ := hv
 unfold maxLen at hl
 have HC := zv2 hc
 have HX := zv2 hx
 have HM := zv2 hm
 clear hc hx hm
 go_enter Tryz.func110, Tryz.ntmps110
 go_wp2_with fail
 refine (zhw _).mono ?_
 rintro e w' ⟨rfl, rfl⟩
 go_wp2
 go_loopw [15] (fun i wr => ∃ k : Nat, k ≤ l.length /\ i = .int .i64 k /\ (∀ j, j < k -> V.valid 3 (l.getD j []) = true) /\ Below w.heap.size w wr) (fun i _ => l.length - (intOf i).toNat)
 case atStart => exact ⟨0, Nat.zero_le _, rfl, fun j hj => by omega, zv5 _ _⟩
 case round =>
  obtain ⟨k, hk, rfl, hz, hB⟩ := hrel
  have HZ := zv2 hz
  have HB := zv2 hB
  clear hz hB
  by_cases hlt : k < l.length
  ·obtain ⟨b, o, ha, hb, hcell⟩ := HC.out k hlt
   have g1 := (HB.out.cell (p := ⟨b, o + k, none⟩) hb).trans hcell
   rw [← jw hlt] at g1
   have s1 := HX.out _ (List.getElem_mem hlt)
   rw [← jw hlt] at s1
   have BAD : Hid (V.valid 3 (l.getD k []) = false -> l.all (V.valid 3) = false) := zv2 (fun h => by
     rw [List.all_eq_false]
     exact ⟨l[k], List.getElem_mem hlt, by rw [← jw hlt, h]; simp⟩)
   have NEXT : Hid (V.valid 3 (l.getD k []) = true -> ∀ j, j < k + 1 -> V.valid 3 (l.getD j []) = true) := zv2 (fun h0 j hj => by
     by_cases e : j = k
     · subst e; exact h0
     · exact HZ.out j (by omega))
   subst ha
   clear hcell
   generalize l.getD k [] = x at *
   rcases g0 : V.valid 3 x with _ | _
   all_goals
    have HVX := zv2 g0
    clear g0
    go_wp2_with fail
    refine (zjz ⟨x.toArray⟩ _ (HM.out.below HB.out) s1).mono ?_
    rintro e w1 ⟨rfl, hb1⟩
    simp only [HVX.out]
    have HB1 := zv3 HB hb1
    clear hb1
    go_wp2
   ·exact zzd
   ·exact zxo
  ·have HF : Hid (l.all (V.valid 3) = true) := zv2 (by
     rw [List.all_eq_true]
     intro x hx
     obtain ⟨j, hj, e⟩ := List.getElem_of_mem hx
     have := HZ.out j (by omega)
     rw [jw hj] at this
     rw [← e]; exact this)
   go_wp2
   go_ret2
   exact ⟨by rw [HF.out]; rfl, HB.out⟩
theorem zsv (n : Int) (h1 : n ≠ 1) (h2 : n ≠ 2) (h3 : n ≠ 3) (v : Value) (w : World) :
  Calls Tryz.prog 110 #[.int .i64 n, v] w fun e w' => e = .returned (.tuple #[.nilFunc, .int .i64 14]) /\ w = w' := by
 go_enter Tryz.func110, Tryz.ntmps110
 go_wp2_with fail
 refine (zs7 n h1 h2 h3 _).mono ?_
 rintro e w' ⟨rfl, rfl⟩
 go_wp2
 go_ret2
 exact ⟨rfl, rfl⟩
theorem zi3 (s t : ByteArray) (w : World) : Strs (w.alloc (.cells #[.string s, .string t] 9)) (.slice (some ⟨w.heap.size, 0, none⟩) 2 2) [s.data.toList, t.data.toList] := by
 have h := Strs.split w [s.data.toList, t.data.toList] 9
 have e : xm [s.data.toList, t.data.toList] = #[.string s, .string t] := by
  unfold xm; simp
 rw [e] at h
 exact h
theorem zgg {s t : ByteArray} (hs : s.size ≤ maxLen) (ht : t.size ≤ maxLen) : ∀ x ∈ [s.data.toList, t.data.toList], x.length ≤ maxLen := by
 intro x hx
 simp at hx
 rcases hx with rfl | rfl
 ·rw [Array.length_toList]; exact hs
 ·rw [Array.length_toList]; exact ht
theorem valid_len {n : Int} {v : V.Bs} (h : V.valid n v = true) : v.length ≤ 64 := by
 unfold V.valid at h; simp at h; omega
theorem zl6 {v : V.Bs} (h : V.valid 1 v = true) : (V.zo v).isSome = true := by
 unfold V.valid V.yi at h; simp at h; exact h.2
theorem zlh {v : V.Bs} (h : V.valid 2 v = true) : (V.zy v).isSome = true := by
 unfold V.valid V.yi at h; simp at h; exact h.2
theorem zxm {P : Prop} (h : P := by
 rintro e w1 ⟨he, hb1⟩
 rw [HV.out] at he
 obtain rfl := he
 have HB1 := zv3 HB0 hb1
 clear hb1
 go_wp2
 go_ret2
 exact ⟨by rw [H1.out]; rfl, HB1.out⟩) : P := h
theorem zxz {P : Prop} (h : P := by
 rintro e w2 ⟨rfl, hb2⟩
 have HB2 := zv3 HB1 hb2
 clear hb2
 go_wp2
 go_ret2
 exact ⟨by rw [H1.out, HCV.out]; rfl, HB2.out⟩) : P := h
theorem zn5 (s t : ByteArray) (w : World) (hm : zk w) (hs : s.size ≤ maxLen) (ht : t.size ≤ maxLen) :
  Calls Tryz.prog 79 #[.int .i64 1, .string s, .string t] w fun e w' =>
   e = .returned (.tuple #[.int .i64 (V.qe 1 s.data.toList t.data.toList).1, .int .i64 (V.qe 1 s.data.toList t.data.toList).2]) /\ Below w.heap.size w w' := by
 have hS := zi3 s t w
 have g0 : Below w.heap.size w (w.alloc (.cells #[.string s, .string t] 9)) := (zv5 _ w).alloc (zv4 _) _
 have g1 := hm.below g0
 have HF : Hid (V.qe 1 s.data.toList t.data.toList = if V.valid 1 s.data.toList && V.valid 1 t.data.toList then (V.cmpV 1 s.data.toList t.data.toList, 0) else (0, 1)) := rfl
 have HS := zv2 hS
 have HB0 := zv2 g0
 clear hS g0
 rcases hv : (V.valid 1 s.data.toList && V.valid 1 t.data.toList) with _ | _
 ·rw [hv] at HF
  have HV : Hid ([s.data.toList, t.data.toList].all (V.valid 1) = false) := zv2 (by simpa using hv)
  have H1 := zv2 (show V.qe 1 s.data.toList t.data.toList = (0, 1) from HF.out)
  clear hv HF
  go_enter Tryz.func79, Tryz.ntmps79
  go_wp2_with fail
  refine (zj9 _ _ _ g1 HS.out (by show 2 ≤ _; unfold maxLen; omega) (zgg hs ht)).mono ?_
  exact zxm
 ·have HV : Hid ([s.data.toList, t.data.toList].all (V.valid 1) = true) := zv2 (by simpa using hv)
  rw [hv] at HF
  have H1 := zv2 (show V.qe 1 s.data.toList t.data.toList = (V.cmpV 1 s.data.toList t.data.toList, 0) from HF.out)
  rw [Bool.and_eq_true] at hv
  have g4 := valid_len hv.1
  have g5 := valid_len hv.2
  rw [zj] at g4 g5
  have g3 := zv2 hv
  clear hv HF
  obtain ⟨⟨la, pa⟩, hpa⟩ := Option.isSome_iff_exists.1 (zl6 g3.out.1)
  obtain ⟨⟨lb, pb⟩, g2⟩ := Option.isSome_iff_exists.1 (zl6 g3.out.2)
  have HCV : Hid (V.cmpV 1 s.data.toList t.data.toList = V.ji (la, pa) (lb, pb)) := zv2 (by unfold V.cmpV; rw [if_pos rfl, hpa, g2])
  have g6 := zv2 hpa
  have g7 := zv2 g2
  clear hpa g2
  have g9 := zvs
  go_enter Tryz.func79, Tryz.ntmps79
  go_wp2_with fail
  refine (zj9 _ _ _ g1 HS.out (by show 2 ≤ _; unfold maxLen; omega) (zgg hs ht)).mono ?_
  rintro e w1 ⟨he, hb1⟩
  rw [HV.out] at he
  obtain rfl := he
  have g8 := g1.below hb1
  have HB1 := zv3 HB0 hb1
  clear hb1
  go_wp2_with fail
  refine (zin s t la pa lb pb _ g8 (by omega) (by omega) g6.out g7.out).mono ?_
  exact zxz
theorem zn7 (s t : ByteArray) (w : World) (hm : zk w) (hs : s.size ≤ maxLen) (ht : t.size ≤ maxLen) :
  Calls Tryz.prog 79 #[.int .i64 2, .string s, .string t] w fun e w' =>
   e = .returned (.tuple #[.int .i64 (V.qe 2 s.data.toList t.data.toList).1, .int .i64 (V.qe 2 s.data.toList t.data.toList).2]) /\ Below w.heap.size w w' := by
 have hS := zi3 s t w
 have g0 : Below w.heap.size w (w.alloc (.cells #[.string s, .string t] 9)) := (zv5 _ w).alloc (zv4 _) _
 have g1 := hm.below g0
 have HF : Hid (V.qe 2 s.data.toList t.data.toList = if V.valid 2 s.data.toList && V.valid 2 t.data.toList then (V.cmpV 2 s.data.toList t.data.toList, 0) else (0, 1)) := rfl
 have HS := zv2 hS
 have HB0 := zv2 g0
 clear hS g0
 rcases hv : (V.valid 2 s.data.toList && V.valid 2 t.data.toList) with _ | _
 ·rw [hv] at HF
  have HV : Hid ([s.data.toList, t.data.toList].all (V.valid 2) = false) := zv2 (by simpa using hv)
  have H1 := zv2 (show V.qe 2 s.data.toList t.data.toList = (0, 1) from HF.out)
  clear hv HF
  go_enter Tryz.func79, Tryz.ntmps79
  go_wp2_with fail
  refine (ziv _ _ _ g1 HS.out (by show 2 ≤ _; unfold maxLen; omega) (zgg hs ht)).mono ?_
  exact zxm
 ·have HV : Hid ([s.data.toList, t.data.toList].all (V.valid 2) = true) := zv2 (by simpa using hv)
  rw [hv] at HF
  have H1 := zv2 (show V.qe 2 s.data.toList t.data.toList = (V.cmpV 2 s.data.toList t.data.toList, 0) from HF.out)
  rw [Bool.and_eq_true] at hv
  have g4 := valid_len hv.1
  have g5 := valid_len hv.2
  rw [zj] at g4 g5
  have g3 := zv2 hv
  clear hv HF
  obtain ⟨⟨x0, x1, x2⟩, hpa⟩ := Option.isSome_iff_exists.1 (zlh g3.out.1)
  obtain ⟨⟨y0, y1, y2⟩, g2⟩ := Option.isSome_iff_exists.1 (zlh g3.out.2)
  have HCV : Hid (V.cmpV 2 s.data.toList t.data.toList = V.ug (x0, x1, x2) (y0, y1, y2)) := zv2 (by unfold V.cmpV; rw [if_neg (by decide), if_pos rfl, hpa, g2])
  have g6 := zv2 hpa
  have g7 := zv2 g2
  clear hpa g2
  have g9 := zvn
  go_enter Tryz.func79, Tryz.ntmps79
  go_wp2_with fail
  refine (ziv _ _ _ g1 HS.out (by show 2 ≤ _; unfold maxLen; omega) (zgg hs ht)).mono ?_
  rintro e w1 ⟨he, hb1⟩
  rw [HV.out] at he
  obtain rfl := he
  have g8 := g1.below hb1
  have HB1 := zv3 HB0 hb1
  clear hb1
  go_wp2_with fail
  refine (zi7 s t x0 x1 x2 y0 y1 y2 _ g8 (by omega) (by omega) g6.out g7.out).mono ?_
  exact zxz
theorem znq (s t : ByteArray) (w : World) (hm : zk w) (hs : s.size ≤ maxLen) (ht : t.size ≤ maxLen) :
  Calls Tryz.prog 79 #[.int .i64 3, .string s, .string t] w fun e w' =>
   e = .returned (.tuple #[.int .i64 (V.qe 3 s.data.toList t.data.toList).1, .int .i64 (V.qe 3 s.data.toList t.data.toList).2]) /\ Below w.heap.size w w' := by
 have hS := zi3 s t w
 have g0 : Below w.heap.size w (w.alloc (.cells #[.string s, .string t] 9)) := (zv5 _ w).alloc (zv4 _) _
 have g1 := hm.below g0
 have HF : Hid (V.qe 3 s.data.toList t.data.toList = if V.valid 3 s.data.toList && V.valid 3 t.data.toList then (V.cmpV 3 s.data.toList t.data.toList, 0) else (0, 1)) := rfl
 have HS := zv2 hS
 have HB0 := zv2 g0
 clear hS g0
 rcases hv : (V.valid 3 s.data.toList && V.valid 3 t.data.toList) with _ | _
 ·rw [hv] at HF
  have HV : Hid ([s.data.toList, t.data.toList].all (V.valid 3) = false) := zv2 (by simpa using hv)
  have H1 := zv2 (show V.qe 3 s.data.toList t.data.toList = (0, 1) from HF.out)
  clear hv HF
  go_enter Tryz.func79, Tryz.ntmps79
  go_wp2_with fail
  refine (zjk _ _ _ g1 HS.out (by show 2 ≤ _; unfold maxLen; omega) (zgg hs ht)).mono ?_
  exact zxm
 ·have HV : Hid ([s.data.toList, t.data.toList].all (V.valid 3) = true) := zv2 (by simpa using hv)
  rw [hv] at HF
  have H1 := zv2 (show V.qe 3 s.data.toList t.data.toList = (V.cmpV 3 s.data.toList t.data.toList, 0) from HF.out)
  rw [Bool.and_eq_true] at hv
  have g2 := valid_len hv.1
  have g3 := valid_len hv.2
  rw [zj] at g2 g3
  have g6 := zv2 hv
  clear hv HF
  have HCV : Hid (V.cmpV 3 s.data.toList t.data.toList = V.za8 s.data.toList t.data.toList) := zv2 (by unfold V.cmpV; rw [if_neg (by decide), if_neg (by decide)])
  have g5 := zvk
  go_enter Tryz.func79, Tryz.ntmps79
  go_wp2_with fail
  refine (zjk _ _ _ g1 HS.out (by show 2 ≤ _; unfold maxLen; omega) (zgg hs ht)).mono ?_
  rintro e w1 ⟨he, hb1⟩
  rw [HV.out] at he
  obtain rfl := he
  have g4 := g1.below hb1
  have HB1 := zv3 HB0 hb1
  clear hb1
  go_wp2_with fail
  refine (zkd s t _ g4 (by omega) (by omega)).mono ?_
  exact zxz
theorem zog (n : Int) (h1 : n ≠ 1) (h2 : n ≠ 2) (h3 : n ≠ 3) (s t : ByteArray) (w : World) :
  Calls Tryz.prog 79 #[.int .i64 n, .string s, .string t] w fun e w' =>
   e = .returned (.tuple #[.int .i64 (V.qe n s.data.toList t.data.toList).1, .int .i64 (V.qe n s.data.toList t.data.toList).2]) /\ Below w.heap.size w w' := by
 have HF : Hid (V.qe n s.data.toList t.data.toList = (0, 14)) := zv2 (by unfold V.qe V.scheme; simp [h1, h2, h3])
 go_enter Tryz.func79, Tryz.ntmps79
 go_wp2_with fail
 refine (zsv n h1 h2 h3 _ _).mono ?_
 rintro e w' ⟨rfl, rfl⟩
 go_wp2
 go_ret2
 exact ⟨by rw [HF.out]; rfl, (zv5 _ _).alloc (zv4 _) _⟩
theorem zhl (n : Int) (s t : ByteArray) (w : World) (hm : zk w) (hs : s.size ≤ maxLen) (ht : t.size ≤ maxLen) :
  Calls Tryz.prog 79 #[.int .i64 n, .string s, .string t] w fun e w' =>
   e = .returned (.tuple #[.int .i64 (V.qe n s.data.toList t.data.toList).1, .int .i64 (V.qe n s.data.toList t.data.toList).2]) /\ Below w.heap.size w w' := by
 by_cases h1 : n = 1
 ·subst h1; exact zn5 s t w hm hs ht
 ·by_cases h2 : n = 2
  ·subst h2; exact zn7 s t w hm hs ht
  ·by_cases h3 : n = 3
   ·subst h3; exact znq s t w hm hs ht
   ·exact zog n h1 h2 h3 s t w
open Go.RowKit
end Go.Proofs.YtbikeahmldobkaaGreatDoor
