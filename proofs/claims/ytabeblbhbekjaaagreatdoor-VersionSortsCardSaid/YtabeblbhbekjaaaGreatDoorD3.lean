/-
  Walks: versions of Debian packages valid and compared; Dotted versions parsed and compared.
-/
import Derived.Test.YtabeblbhbekjaaaGreatDoorD2
import Derived.Test.YtabeblbhbekjaaaGreatDoorC2
import Derived.Test.YtabeblbhbekjaaaGreatDoorV5
namespace Go.Proofs.YtabeblbhbekjaaaGreatDoor
open Go.RowKit

theorem debPost_none {r : Option (V.Bs × V.Bs × V.Bs)} {w : World} {e : Ending} {w' : World} (h : DebPost r w e w') (hr : r = none) :
    e = .returned (.tuple #[.agg #[.string ⟨#[]⟩, .string ⟨#[]⟩, .string ⟨#[]⟩], .bool false]) ∧ Below w.heap.size w w' := by
  subst hr; exact ⟨h.2, h.1⟩
theorem debPost_some {r : Option (V.Bs × V.Bs × V.Bs)} {a b c : V.Bs} {w : World} {e : Ending} {w' : World} (h : DebPost r w e w') (hr : r = some (a, b, c)) :
    e = .returned (.tuple #[.agg #[.string ⟨a.toArray⟩, .string ⟨b.toArray⟩, .string ⟨c.toArray⟩], .bool true]) ∧ Below w.heap.size w w' := by
  subst hr; exact ⟨h.2, h.1⟩

set_option maxRecDepth 100000 in
set_option maxHeartbeats 800000 in
theorem debValid_any (s : ByteArray) (w : World) (hm : MaxOk w) (hs : s.size ≤ 1000) :
    Calls Tryz.prog 124 #[.agg #[], .string s] w fun e w' => e = .returned (.bool (V.debParse s.data.toList).isSome) ∧ Below w.heap.size w w' := by
  have hb0 : Below w.heap.size w (w.alloc (.cells #[] 64)) := (Below.refl _ w).alloc (Nat.le_refl _) _
  have hm0 := hm.below hb0
  rcases hp : V.debParse s.data.toList with _ | ⟨a, b, c⟩
  · have HP := Lib.hid hp
    have HB0 := Lib.hid hb0
    clear hp hb0
    go_enter Tryz.func124, Tryz.ntmps124
    go_wp2_with fail
    refine (debParse_any s _ hm0 hs).mono ?_
    rintro e w1 h
    obtain ⟨rfl, hb1⟩ := debPost_none h HP.out
    have HB1 := Lib.hid (HB0.out.trans (hb1.mono HB0.out.size))
    clear h hb1
    go_wp2
    go_ret
    refine ⟨ret_bool rfl, ?_⟩
    exact (HB1.out.alloc HB1.out.size _)
  · have HP := Lib.hid hp
    have HB0 := Lib.hid hb0
    clear hp hb0
    go_enter Tryz.func124, Tryz.ntmps124
    go_wp2_with fail
    refine (debParse_any s _ hm0 hs).mono ?_
    rintro e w1 h
    obtain ⟨rfl, hb1⟩ := debPost_some h HP.out
    have HB1 := Lib.hid (HB0.out.trans (hb1.mono HB0.out.size))
    clear h hb1
    go_wp2
    go_ret
    refine ⟨ret_bool rfl, ?_⟩
    exact (HB1.out.alloc HB1.out.size _)

theorem debTail_len {E v a b c : V.Bs} (h : V.debTail E v = some (a, b, c)) : a = E ∧ b.length ≤ v.length ∧ c.length ≤ v.length := by
  unfold V.debTail at h
  split at h
  · split at h
    · simp at h; obtain ⟨rfl, rfl, rfl⟩ := h; simp
    · cases h
  · split at h
    · split at h
      · simp at h; obtain ⟨rfl, rfl, rfl⟩ := h; simp; omega
      · cases h
    · cases h
theorem debParse_len {v a b c : V.Bs} (h : V.debParse v = some (a, b, c)) : a.length ≤ v.length ∧ b.length ≤ v.length ∧ c.length ≤ v.length := by
  unfold V.debParse at h
  have hl := cut1_len 58 v
  split at h
  · split at h
    · have := debTail_len h; obtain ⟨rfl, h1, h2⟩ := this; omega
    · cases h
  · have := debTail_len h; obtain ⟨rfl, h1, h2⟩ := this; simp; omega

set_option maxRecDepth 100000 in
set_option maxHeartbeats 3200000 in
theorem debCompare_any (s t : ByteArray) (x0 x1 x2 y0 y1 y2 : V.Bs) (w : World) (hm : MaxOk w) (hs : s.size ≤ 1000) (ht : t.size ≤ 1000)
    (hp : V.debParse s.data.toList = some (x0, x1, x2)) (hq : V.debParse t.data.toList = some (y0, y1, y2)) :
    Calls Tryz.prog 122 #[.agg #[], .string s, .string t] w fun e w' => e = .returned (.int .i64 (V.debCmp (x0, x1, x2) (y0, y1, y2))) ∧ Below w.heap.size w w' := by
  have HF : Hid (V.debCmp (x0, x1, x2) (y0, y1, y2) = V.orI [V.numbers x0 y0, V.textsC x1 y1, V.textsC x2 y2]) := rfl
  have hb0 : Below w.heap.size w (w.alloc (.cells #[] 64)) := (Below.refl _ w).alloc (Nat.le_refl _) _
  have hm0 := hm.below hb0
  have hlx := debParse_len hp
  have hly := debParse_len hq
  rw [bs_size] at hlx hly
  obtain ⟨lx0, lx1, lx2⟩ := hlx
  obtain ⟨ly0, ly1, ly2⟩ := hly
  have HP := Lib.hid hp
  have HQ := Lib.hid hq
  have HB0 := Lib.hid hb0
  clear hp hq hb0
  go_enter Tryz.func122, Tryz.ntmps122
  go_wp2_with fail
  refine (debParse_any s _ hm0 hs).mono ?_
  rintro e w1 h
  obtain ⟨rfl, hb1⟩ := debPost_some h HP.out
  have hB1 := HB0.out.trans (hb1.mono HB0.out.size)
  have HB1 := Lib.hid hB1
  have hm1 := hm.below hB1
  clear h hb1 hB1
  go_wp2_with fail
  have hbc : Below w1.heap.size w1 (w1.alloc (.cells #[.string ⟨x0.toArray⟩, .string ⟨x1.toArray⟩, .string ⟨x2.toArray⟩] 133)) := (Below.refl _ _).alloc (Nat.le_refl _) _
  refine (debParse_any t _ (hm1.below hbc) ht).mono ?_
  rintro e w2 h
  obtain ⟨rfl, hb2⟩ := debPost_some h HQ.out
  have hc2 : ∀ i, w2.cell? ⟨w1.heap.size, i, none⟩ = #[Value.string ⟨x0.toArray⟩, .string ⟨x1.toArray⟩, .string ⟨x2.toArray⟩][i]? := carry_cell hb2 (by simp) (fun i => by rw [cell_alloc, if_pos rfl])
  have hB2 := hbc.trans (hb2.mono hbc.size)
  have hz2 : w1.heap.size < w2.heap.size := Nat.lt_of_lt_of_le (by simp) hb2.size
  have HB2 := Lib.hid (HB1.out.trans (hB2.mono HB1.out.size))
  clear h hb2 hbc hB2
  go_wp2_with fail
  obtain ⟨W3, hW3⟩ : ∃ W3, W3 = w2.alloc (.cells #[.string ⟨y0.toArray⟩, .string ⟨y1.toArray⟩, .string ⟨y2.toArray⟩] 133) := ⟨_, rfl⟩
  rw [← hW3]
  have hb3 : Below w2.heap.size w2 W3 := by rw [hW3]; exact (Below.refl _ _).alloc (Nat.le_refl _) _
  have e : ∀ i, W3.cell? ⟨w1.heap.size, i, none⟩ = #[Value.string ⟨x0.toArray⟩, .string ⟨x1.toArray⟩, .string ⟨x2.toArray⟩][i]? := carry_cell hb3 hz2 hc2
  have g : ∀ i, W3.cell? ⟨w2.heap.size, i, none⟩ = #[Value.string ⟨y0.toArray⟩, .string ⟨y1.toArray⟩, .string ⟨y2.toArray⟩][i]? := fun i => by rw [hW3, cell_alloc, if_pos rfl]
  have e0 := e 0
  have e1 := e 1
  have e2 := e 2
  have g0 := g 0
  have g1 := g 1
  have g2 := g 2
  simp at e0 e1 e2 g0 g1 g2
  have HB3 := Lib.hid (HB2.out.trans (hb3.mono HB2.out.size))
  have hz3 : w2.heap.size < W3.heap.size := by rw [hW3]; simp
  have hz4 : w1.heap.size < W3.heap.size := by omega
  clear hW3 hb3 e g hc2 hm0 hm1 HB1 HB2 HB0
  go_region_held3 (fun W' => (W'.cell? ⟨w1.heap.size, 0, none⟩ = some (.string ⟨x0.toArray⟩) ∧ W'.cell? ⟨w1.heap.size, 1, none⟩ = some (.string ⟨x1.toArray⟩) ∧ W'.cell? ⟨w1.heap.size, 2, none⟩ = some (.string ⟨x2.toArray⟩) ∧
      W'.cell? ⟨w2.heap.size, 0, none⟩ = some (.string ⟨y0.toArray⟩) ∧ W'.cell? ⟨w2.heap.size, 1, none⟩ = some (.string ⟨y1.toArray⟩) ∧ W'.cell? ⟨w2.heap.size, 2, none⟩ = some (.string ⟨y2.toArray⟩)))
    (first
      | go_keep
      | (go_split_ands
         refine ⟨?_, ?_, ?_, ?_, ?_, ?_⟩ <;> (refine keep_cell hbq ?_; first | assumption | (simp only [World.cell?_drew]; assumption))))
    (first
      | (go_at_call 96; refine (numbers_any _ _ _).mono ?_; rintro e wq ⟨rfl, hbq⟩)
      | (go_at_call 126; refine (texts_at _ _ _ (by omega) (by omega)).mono ?_; rintro e wq ⟨rfl, hbq⟩)
      | (go_at_call 95; refine (or_any _ [V.numbers x0 y0, V.textsC x1 y1, V.textsC x2 y2] _ (by simp) (three_ints _ _ _ _ _)).mono ?_; rintro e wq ⟨rfl, rfl⟩))
  rename_i wa hba wb hbb hS
  have hbx : Below W3.heap.size W3 wq := ((Below.refl W3.heap.size W3).drew).trans (Below.trans (show Below W3.heap.size W3.drew wa from hba) ((hbb.trans (hbq.mono hbb.size)).mono hba.size))
  have HB4 := Lib.hid (HB3.out.trans (hbx.mono HB3.out.size))
  clear e0 e1 e2 g0 g1 g2 hba hbb hbq hbx hS HB3 hz2 hz3 hz4
  go_wp2
  go_ret
  exact ⟨ret_int HF.out.symm, HB4.out.alloc HB4.out.size _⟩
end Go.Proofs.YtabeblbhbekjaaaGreatDoor
