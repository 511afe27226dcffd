/-
  Walks: versions of Debian packages parsed.
  Walks: versions of Debian packages valid.
-/
import Derived.Test.YtnhfaincdabdkaaGreatDoorD1
import Derived.BigRegion
import Derived.Laws.EntriesVeiled
import Derived.Deep.DeepCutAuto
namespace Go.Proofs.YtnhfaincdabdkaaGreatDoor
open Go.RowKit

def DebPost (r : Option (V.Bs × V.Bs × V.Bs)) (w : World) (e : Ending) (w' : World) : Prop :=
  Below w.heap.size w w' ∧ match r with
  | none => e = .returned (.tuple #[.agg #[.string ⟨#[]⟩, .string ⟨#[]⟩, .string ⟨#[]⟩], .bool false])
  | some (a, b, c) => e = .returned (.tuple #[.agg #[.string ⟨a.toArray⟩, .string ⟨b.toArray⟩, .string ⟨c.toArray⟩], .bool true])

theorem results_deb (tmps : Array Value) (w : World) (b : Nat) (x : Bool) (v0 v1 v2 : Value) (h4 : tmps.getD 4 undef = .pointer (some ⟨b, 0, none⟩)) (h5 : tmps.getD 5 undef = .bool x)
    (c0 : w.cell? ⟨b, 0, none⟩ = some v0) (c1 : w.cell? ⟨b, 1, none⟩ = some v1) (c2 : w.cell? ⟨b, 2, none⟩ = some v2) :
    (results Tryz.f284 tmps).run Tryz.prog w = .ok (.tuple #[.agg #[v0, v1, v2], .bool x]) w := by
  have h4' : tmps[4]?.getD undef = .pointer (some ⟨b, 0, none⟩) := by simpa using h4
  have h5' : tmps[5]?.getD undef = .bool x := by simpa using h5
  simp [results, Tryz.results284, go_sem, h4', h5', c0, c1, c2]

theorem set3 (w : World) (b : Nat) (u0 u1 u2 v0 v1 v2 : Value) (c0 : w.cell? ⟨b, 0, none⟩ = some u0) (c1 : w.cell? ⟨b, 1, none⟩ = some u1) (c2 : w.cell? ⟨b, 2, none⟩ = some u2) :
    let W := ((w.setCell ⟨b, 0, none⟩ v0).setCell ⟨b, 1, none⟩ v1).setCell ⟨b, 2, none⟩ v2
    W.cell? ⟨b, 0, none⟩ = some v0 ∧ W.cell? ⟨b, 1, none⟩ = some v1 ∧ W.cell? ⟨b, 2, none⟩ = some v2 := by
  have o : ∀ (W : World) (i j : Nat) (v : Value), i ≠ j → (W.setCell ⟨b, i, none⟩ v).cell? ⟨b, j, none⟩ = W.cell? ⟨b, j, none⟩ := fun W i j v h => World.cell?_setCell_other _ _ _ _ (by simp )
  refine ⟨?_, ?_, ?_⟩
  · rw [o _ 2 0 _ (by omega), o _ 1 0 _ (by omega)]
    exact World.cell?_setCell_same _ _ _ c0
  · rw [o _ 2 1 _ (by omega)]
    exact World.cell?_setCell_same _ _ _ ((o _ 0 1 _ (by omega)).trans c1)
  · exact World.cell?_setCell_same _ _ _ ((o _ 1 2 _ (by omega)).trans ((o _ 0 2 _ (by omega)).trans c2))

theorem below_set3 {w0 w : World} (b : Nat) (h : Below w0.heap.size w0 w) (hb : w0.heap.size ≤ b) (v0 v1 v2 : Value) :
    Below w0.heap.size w0 (((w.setCell ⟨b, 0, none⟩ v0).setCell ⟨b, 1, none⟩ v1).setCell ⟨b, 2, none⟩ v2) :=
  ((h.setCell (p := ⟨b, 0, none⟩) hb _).setCell (p := ⟨b, 1, none⟩) hb _).setCell (p := ⟨b, 2, none⟩) hb _

theorem debTail_no {E V1 : V.Bs} (h : V.lastDash V1 < 0) : V.debTail E V1 = if V.only (V.kind [46, 43, 126, 45]) V1 && V.dig (V1.getD 0 0) then some (E, V1, []) else none := by
  unfold V.debTail; rw [if_pos h]
theorem debTail_bad {E V1 : V.Bs} {i : Nat} (h : V.lastDash V1 = i) (hb : V.only (V.kind V.allow) (V1.drop (i + 1)) = false) : V.debTail E V1 = none := by
  unfold V.debTail; rw [if_neg (by omega), h, Int.toNat_natCast, hb]; rfl
theorem debTail_yes {E V1 : V.Bs} {i : Nat} (h : V.lastDash V1 = i) (hb : V.only (V.kind V.allow) (V1.drop (i + 1)) = true) :
    V.debTail E V1 = if V.only (V.kind [46, 43, 126, 45]) (V1.take i) && V.dig ((V1.take i).getD 0 0) then some (E, V1.take i, V1.drop (i + 1)) else none := by
  unfold V.debTail; rw [if_neg (by omega), h, Int.toNat_natCast, hb]; rfl

theorem three_alloc (w : World) (c d e : Array Value) (t u v : TypeId) :
    let W := ((w.alloc (.cells c t)).alloc (.cells d u)).alloc (.cells e v)
    Below w.heap.size w W ∧ (∀ i, W.cell? ⟨w.heap.size + 1, i, none⟩ = d[i]?) ∧ (∀ i, W.frozen? ⟨w.heap.size + 1, i, none⟩ = false) ∧
    (∀ i, W.cell? ⟨w.heap.size + 2, i, none⟩ = e[i]?) ∧ (∀ i, W.frozen? ⟨w.heap.size + 2, i, none⟩ = false) ∧ W.heap.size = w.heap.size + 3 := by
  refine ⟨(((Below.refl _ _).alloc (Nat.le_refl _) _).alloc (by simp) _).alloc (by simp; omega) _, fun i => ?_, fun i => ?_, fun i => ?_, fun i => ?_, by simp⟩
  · rw [cell_alloc, if_neg (by simp), cell_alloc, if_pos (by simp)]
  · rw [frozen_alloc, if_neg (by simp), frozen_alloc, if_pos (by simp)]
  · rw [cell_alloc, if_pos (by simp)]
  · rw [frozen_alloc, if_pos (by simp)]

set_option maxRecDepth 100000 in
set_option maxHeartbeats 6400000 in
theorem debParse_any (s : ByteArray) (w : World) (hm : MaxOk w) (hs : s.size ≤ 1000) :
    Calls Tryz.prog 284 #[.agg #[], .string s] w (DebPost (V.debParse s.data.toList) w) := by
  obtain ⟨ep, re, H, hx1⟩ : ∃ a b c, V.cut1 58 s.data.toList = (a, b, c) := ⟨_, _, _, rfl⟩
  have HP : Hid (V.debParse s.data.toList = if H then if V.numb ep false then V.debTail ep re else none else V.debTail [] s.data.toList) := Lib.hid (by
    unfold V.debParse; rw [hx1])
  have hl1 : ep.length ≤ s.size ∧ re.length ≤ s.size := by
    have := cut1_len 58 s.data.toList
    rw [hx1, bs_size] at this
    exact this
  obtain ⟨hl1, hl2⟩ := hl1
  have HX1 := Lib.hid hx1
  clear hx1
  obtain ⟨W2, hW2⟩ : ∃ W2, W2 = ((w.alloc (.cells #[] 191)).alloc (.cells #[.string ⟨#[]⟩, .string ⟨#[]⟩, .string ⟨#[]⟩] 288)).alloc (.cells #[.string ⟨#[]⟩, .string ⟨#[]⟩, .string ⟨#[]⟩] 288) := ⟨_, rfl⟩
  obtain ⟨hb2, hc2, hf2, hd2, hg2, hz2⟩ := three_alloc w #[] #[.string ⟨#[]⟩, .string ⟨#[]⟩, .string ⟨#[]⟩] #[.string ⟨#[]⟩, .string ⟨#[]⟩, .string ⟨#[]⟩] 191 288 288
  rw [← hW2] at hb2 hc2 hf2 hd2 hg2 hz2
  have hm2 := hm.below hb2
  have HW := Lib.hid hW2
  have HC2 := Lib.hid hc2
  have HF2 := Lib.hid hf2
  have HD2 := Lib.hid hd2
  have HG2 := Lib.hid hg2
  have HZ2 := Lib.hid hz2
  have HB2 := Lib.hid hb2
  clear hW2 hc2 hf2 hd2 hg2 hz2 hb2
  go_enter Tryz.func284, Tryz.ntmps284
  go_wp2_with fail
  rw [← HW.out]
  refine (cut_any s 58 _ hm2 (by omega)).mono ?_
  rintro e w1 ⟨rfl, hb1⟩
  simp only [HX1.out]
  have hn1 : w.heap.size + 1 < W2.heap.size := by rw [HZ2.out]; omega
  have hn2 : w.heap.size + 2 < W2.heap.size := by rw [HZ2.out]; omega
  have hc := carry_cell hb1 hn1 HC2.out
  have hf := carry_frozen hb1 hn1 HF2.out
  have hd := carry_cell hb1 hn2 HD2.out
  have hg := carry_frozen hb1 hn2 HG2.out
  have hn3 := Nat.lt_of_lt_of_le hn2 hb1.size
  have HB1 := Lib.hid (HB2.out.trans (hb1.mono HB2.out.size))
  have d0 := hc 0
  have d1 := hc 1
  have d2 := hc 2
  have o0 := hd 0
  have o1 := hd 1
  have o2 := hd 2
  simp at d0 d1 d2 o0 o1 o2
  clear hb1 hm2 hn1 hn2 hc hd
  go_upto_if 18 with (fail)
  go_cut [1] (fun v1 wx => ∃ (E : V.Bs) (V1 : ByteArray), v1 = .string V1 ∧ V1.size ≤ s.size ∧ wx.cell? ⟨w.heap.size + 1, 0, none⟩ = some (.string ⟨#[]⟩) ∧ wx.cell? ⟨w.heap.size + 1, 1, none⟩ = some (.string ⟨#[]⟩) ∧ wx.cell? ⟨w.heap.size + 1, 2, none⟩ = some (.string ⟨#[]⟩) ∧
    wx.cell? ⟨w.heap.size + 1 + 1, 0, none⟩ = some (.string ⟨E.toArray⟩) ∧ wx.cell? ⟨w.heap.size + 1 + 1, 1, none⟩ = some (.string ⟨#[]⟩) ∧ wx.cell? ⟨w.heap.size + 1 + 1, 2, none⟩ = some (.string ⟨#[]⟩) ∧
    (∀ i, wx.frozen? ⟨w.heap.size + 1, i, none⟩ = false) ∧ (∀ i, wx.frozen? ⟨w.heap.size + 1 + 1, i, none⟩ = false) ∧ w.heap.size + 2 < wx.heap.size ∧ Below w.heap.size w wx ∧ V.debParse s.data.toList = V.debTail E V1.data.toList)
  case first =>
    cases H with
    | false =>
      go_wp2
      go_meet
      exact ⟨[], s, rfl, Nat.le_refl _, d0, d1, d2, o0, o1, o2, hf, hg, hn3, HB1.out, by rw [HP.out]; rfl⟩
    | true =>
      rcases hnb : V.numb ep false with _ | _
      all_goals
        have HNB := Lib.hid hnb
        clear hnb
        go_wp2_with fail
        refine (number_any ⟨ep.toArray⟩ false _ (by show ep.length ≤ _; unfold maxLen; omega)).mono ?_
        rintro e w' ⟨rfl, rfl⟩
        simp only [HNB.out]
        go_wp2
      · have HN : Hid (V.debParse s.data.toList = none) := Lib.hid (by rw [HP.out]; simp [HNB.out])
        obtain ⟨q0, q1, q2⟩ := set3 _ (w.heap.size + 1) _ _ _ (.string ⟨#[]⟩) (.string ⟨#[]⟩) (.string ⟨#[]⟩) d0 d1 d2
        exact bodyPost_ret (results_deb _ _ (w.heap.size + 1) false _ _ _ rfl rfl q0 q1 q2) rfl (by
          rw [HN.out]; exact ⟨below_set3 (w.heap.size + 1) HB1.out (by omega) _ _ _, rfl⟩)
      · have o : ∀ (i j : Nat), (i = 1 ∨ j ≠ 0) → (w1.setCell ⟨w.heap.size + 2, 0, none⟩ (.string ⟨ep.toArray⟩)).cell? ⟨w.heap.size + 2 - i, j, none⟩ = w1.cell? ⟨w.heap.size + 2 - i, j, none⟩ := fun i j h => World.cell?_setCell_other _ _ _ _ (by intro e; simp at e; omega)
        go_meet
        exact ⟨ep, ⟨re.toArray⟩, rfl, hl2, (o 1 0 (by omega)).trans d0, (o 1 1 (by omega)).trans d1, (o 1 2 (by omega)).trans d2, World.cell?_setCell_same _ _ _ o0, (o 0 1 (by omega)).trans o1, (o 0 2 (by omega)).trans o2,
          fun i => by rw [World.frozen?_setCell]; exact hf i, fun i => by rw [World.frozen?_setCell]; exact hg i, by simpa [World.setCell] using hn3, HB1.out.setCell (p := ⟨w.heap.size + 2, 0, none⟩) (by show w.heap.size ≤ w.heap.size + 2; omega) _, by rw [HP.out]; simp [HNB.out]⟩
  case rest =>
    obtain ⟨E, V1, rfl, hsz, d0', d1', d2', p0, p1, p2, hf', hg', hn3', hB', htail⟩ := hcut
    have HT := Lib.hid htail
    have HBX := Lib.hid hB'
    clear htail hB' HP HX1 HC2 HF2 HD2 HG2 HZ2 HB2 HW d0 d1 d2 o0 o1 o2 hf hg HB1
    go_wp2_with fail
    refine (Tryz.strings_LastIndexByte V1 45 (by omega) _).mono ?_
    rintro e w3 ⟨rfl, hw3⟩
    have hld : Lib.lastIndexByte V1 45 = V.lastDash V1.data.toList := by unfold V.lastDash; rw [bs_of]
    rw [hld]
    clear hld
    obtain ⟨wo, rfl⟩ : ∃ wo : World, wo = wc := ⟨_, rfl⟩
    obtain ⟨ld, hld⟩ : ∃ ld, V.lastDash V1.data.toList = ld := ⟨_, rfl⟩
    have HLD := Lib.hid hld
    rw [hld]
    clear hld
    have hb4 : Below wo.heap.size wo w3 := by rw [hw3]; exact (Below.refl _ _).alloc (Nat.le_refl _) _
    have r0 := (hb4.cell (p := ⟨w.heap.size + 1, 0, none⟩) (show w.heap.size + 1 < wo.heap.size by omega)).trans d0'
    have r1 := (hb4.cell (p := ⟨w.heap.size + 1, 1, none⟩) (show w.heap.size + 1 < wo.heap.size by omega)).trans d1'
    have r2 := (hb4.cell (p := ⟨w.heap.size + 1, 2, none⟩) (show w.heap.size + 1 < wo.heap.size by omega)).trans d2'
    have s0 := (hb4.cell (p := ⟨w.heap.size + 1 + 1, 0, none⟩) (show w.heap.size + 1 + 1 < wo.heap.size by omega)).trans p0
    have s1 := (hb4.cell (p := ⟨w.heap.size + 1 + 1, 1, none⟩) (show w.heap.size + 1 + 1 < wo.heap.size by omega)).trans p1
    have s2 := (hb4.cell (p := ⟨w.heap.size + 1 + 1, 2, none⟩) (show w.heap.size + 1 + 1 < wo.heap.size by omega)).trans p2
    have hf3 := carry_frozen hb4 (show w.heap.size + 1 < wo.heap.size by omega) hf'
    have hg3 := carry_frozen hb4 (show w.heap.size + 1 + 1 < wo.heap.size by omega) hg'
    have q0 : w3.cell? ⟨wo.heap.size, 0, none⟩ = some (.func (.func 286) #[] #[]) := by rw [hw3, cell_alloc, if_pos rfl]; rfl
    have hz3 : wo.heap.size < w3.heap.size := by rw [hw3]; simp
    have HB3 := Lib.hid (HBX.out.trans (hb4.mono HBX.out.size))
    clear hw3 hb4 d0' d1' d2' p0 p1 p2 hf' hg' HBX
    have hsplit : (ld < 0) ∨ ∃ i : Nat, ld = i ∧ i < V1.size := by
      rw [← HLD.out]
      unfold V.lastDash
      rw [bs_of]
      rcases Lib.lastIndexByte_spec V1 45 with ⟨h, _⟩ | ⟨i, hi, h, _⟩
      · left; omega
      · exact .inr ⟨i, h, hi⟩
    go_upto_if 29 with (fail)
    go_cut [1] (fun v1 wx => ∃ (U R : V.Bs), v1 = .string ⟨U.toArray⟩ ∧ U.length ≤ s.size ∧ wx.cell? ⟨w.heap.size + 1, 0, none⟩ = some (.string ⟨#[]⟩) ∧ wx.cell? ⟨w.heap.size + 1, 1, none⟩ = some (.string ⟨#[]⟩) ∧ wx.cell? ⟨w.heap.size + 1, 2, none⟩ = some (.string ⟨#[]⟩) ∧
      wx.cell? ⟨w.heap.size + 1 + 1, 0, none⟩ = some (.string ⟨E.toArray⟩) ∧ wx.cell? ⟨w.heap.size + 1 + 1, 1, none⟩ = some (.string ⟨#[]⟩) ∧ wx.cell? ⟨w.heap.size + 1 + 1, 2, none⟩ = some (.string ⟨R.toArray⟩) ∧
      (∀ i, wx.frozen? ⟨w.heap.size + 1, i, none⟩ = false) ∧ (∀ i, wx.frozen? ⟨w.heap.size + 1 + 1, i, none⟩ = false) ∧ wx.cell? ⟨wo.heap.size, 0, none⟩ = some (.func (.func 286) #[] #[]) ∧ wo.heap.size < wx.heap.size ∧ Below w.heap.size w wx ∧
      V.debParse s.data.toList = if V.only (V.kind [46, 43, 126, 45]) U && V.dig (U.getD 0 0) then some (E, U, R) else none)
    case first =>
      rcases hsplit with hneg | ⟨i, rfl, hlt⟩
      · have HN : Hid (V.lastDash V1.data.toList < 0) := Lib.hid (by rw [HLD.out]; exact hneg)
        go_wp2
        go_meet
        exact ⟨V1.data.toList, [], by rw [bs_of], by rw [bs_size]; exact hsz, r0, r1, r2, s0, s1, s2, hf3, hg3, q0, hz3, HB3.out, by rw [HT.out, debTail_no HN.out]⟩
      · have HI := HLD
        have hge : (0 : Int) ≤ (i : Int) := by omega
        go_wp2
        go_region
        go_wp2_with fail
        have hbd : Below w.heap.size w (w3.setCell ⟨w.heap.size + 1 + 1, 2, none⟩ (.string (V1.extract (i + 1) V1.size))).drew := (HB3.out.setCell (p := ⟨w.heap.size + 1 + 1, 2, none⟩) (by show w.heap.size ≤ w.heap.size + 1 + 1; omega) _).drew
        have o : ∀ (b j : Nat), (b ≠ w.heap.size + 1 + 1 ∨ j ≠ 2) → (w3.setCell ⟨w.heap.size + 1 + 1, 2, none⟩ (.string (V1.extract (i + 1) V1.size))).drew.cell? ⟨b, j, none⟩ = w3.cell? ⟨b, j, none⟩ := fun b j h => by
          rw [World.cell?_drew]; exact World.cell?_setCell_other _ _ _ _ (by intro e; simp at e; omega)
        have v0 := (o (w.heap.size + 1) 0 (by omega)).trans r0
        have v1 := (o (w.heap.size + 1) 1 (by omega)).trans r1
        have v2 := (o (w.heap.size + 1) 2 (by omega)).trans r2
        have t0 := (o (w.heap.size + 1 + 1) 0 (by omega)).trans s0
        have t1 := (o (w.heap.size + 1 + 1) 1 (by omega)).trans s1
        have t2 : (w3.setCell ⟨w.heap.size + 1 + 1, 2, none⟩ (.string (V1.extract (i + 1) V1.size))).drew.cell? ⟨w.heap.size + 1 + 1, 2, none⟩ = some (.string (V1.extract (i + 1) V1.size)) := by
          rw [World.cell?_drew]; exact World.cell?_setCell_same _ _ _ s2
        have qq := (o wo.heap.size 0 (by omega)).trans q0
        have hf4 : ∀ i', (w3.setCell ⟨w.heap.size + 1 + 1, 2, none⟩ (.string (V1.extract (i + 1) V1.size))).drew.frozen? ⟨w.heap.size + 1, i', none⟩ = false := fun i' => by
          show (World.setCell _ _ _).frozen? _ = false
          rw [World.frozen?_setCell]; exact hf3 i'
        have hg4 : ∀ i', (w3.setCell ⟨w.heap.size + 1 + 1, 2, none⟩ (.string (V1.extract (i + 1) V1.size))).drew.frozen? ⟨w.heap.size + 1 + 1, i', none⟩ = false := fun i' => by
          show (World.setCell _ _ _).frozen? _ = false
          rw [World.frozen?_setCell]; exact hg3 i'
        have hz4 : wo.heap.size < (w3.setCell ⟨w.heap.size + 1 + 1, 2, none⟩ (.string (V1.extract (i + 1) V1.size))).drew.heap.size := by
          show wo.heap.size < (World.setCell _ _ _).heap.size
          simpa [World.setCell] using hz3
        have hex : (V1.extract (i + 1) V1.size).data.toList = V1.data.toList.drop (i + 1) := by rw [Lib.extract_to_end]
        have hex0 : V1.extract 0 i = ⟨(V1.data.toList.take i).toArray⟩ := bs_ext (by rw [Lib.extract_data]; simp)
        have hex1 : V1.extract (i + 1) V1.size = ⟨(V1.data.toList.drop (i + 1)).toArray⟩ := bs_ext (by rw [hex])
        have HEX0 := Lib.hid hex0
        have HEX1 := Lib.hid hex1
        have HEX := Lib.hid hex
        clear hex hex0 hex1 o r0 r1 r2 s0 s1 s2 q0 hf3 hg3 hz3 HB3
        generalize (w3.setCell ⟨w.heap.size + 1 + 1, 2, none⟩ (.string (V1.extract (i + 1) V1.size))).drew = W5 at *
        have HB5 := Lib.hid hbd
        clear hbd
        rcases hrv : V.only (V.kind V.allow) (V1.data.toList.drop (i + 1)) with _ | _
        all_goals
          have HRV := Lib.hid hrv
          clear hrv
          refine (only_allowed _ _ (by unfold maxLen; simp [ByteArray.size_extract]; omega)).mono ?_
          rintro e w' ⟨rfl, rfl⟩
          simp only [HEX.out, HRV.out]
          go_wp2
        · have HN : Hid (V.debParse s.data.toList = none) := Lib.hid (by rw [HT.out, debTail_bad HI.out HRV.out])
          obtain ⟨z0, z1, z2⟩ := set3 _ (w.heap.size + 1) _ _ _ (.string ⟨#[]⟩) (.string ⟨#[]⟩) (.string ⟨#[]⟩) v0 v1 v2
          exact bodyPost_ret (results_deb _ _ (w.heap.size + 1) false _ _ _ rfl rfl z0 z1 z2) rfl (by
            rw [HN.out]; exact ⟨below_set3 (w.heap.size + 1) HB5.out (by omega) _ _ _, rfl⟩)
        · have HN := Lib.hid (debTail_yes (E := E) HI.out HRV.out)
          go_meet
          exact ⟨V1.data.toList.take i, V1.data.toList.drop (i + 1), by rw [HEX0.out], by simp; omega, v0, v1, v2, t0, t1, by rw [t2, HEX1.out], hf4, hg4, qq, hz4, HB5.out, by rw [HT.out, HN.out]⟩
    case rest =>
      obtain ⟨U, R, rfl, hU, v0, v1, v2, t0, t1, t2, hf4, hg4, qq, hz4, hB5, hfin⟩ := hcut
      clear r0 r1 r2 s0 s1 s2 hf3 hg3 q0 hz3 HB3 hsplit HT
      have HFIN := Lib.hid hfin
      have HB5 := Lib.hid hB5
      clear hfin hB5
      have o : ∀ (b j : Nat), (b ≠ w.heap.size + 1 + 1 ∨ j ≠ 1) → (wc.setCell ⟨w.heap.size + 1 + 1, 1, none⟩ (.string ⟨U.toArray⟩)).cell? ⟨b, j, none⟩ = wc.cell? ⟨b, j, none⟩ := fun b j h =>
        World.cell?_setCell_other _ _ _ _ (by intro e; simp at e; omega)
      have x0 := (o (w.heap.size + 1) 0 (by omega)).trans v0
      have x1 := (o (w.heap.size + 1) 1 (by omega)).trans v1
      have x2 := (o (w.heap.size + 1) 2 (by omega)).trans v2
      have y0 := (o (w.heap.size + 1 + 1) 0 (by omega)).trans t0
      have y2 := (o (w.heap.size + 1 + 1) 2 (by omega)).trans t2
      have y1 : (wc.setCell ⟨w.heap.size + 1 + 1, 1, none⟩ (.string ⟨U.toArray⟩)).cell? ⟨w.heap.size + 1 + 1, 1, none⟩ = some (.string ⟨U.toArray⟩) := World.cell?_setCell_same _ _ _ t1
      have qx := (o wo.heap.size 0 (by omega)).trans qq
      have hf5 : ∀ i', (wc.setCell ⟨w.heap.size + 1 + 1, 1, none⟩ (.string ⟨U.toArray⟩)).frozen? ⟨w.heap.size + 1, i', none⟩ = false := fun i' => by
        rw [World.frozen?_setCell]; exact hf4 i'
      have hbx : Below w.heap.size w (wc.setCell ⟨w.heap.size + 1 + 1, 1, none⟩ (.string ⟨U.toArray⟩)) := HB5.out.setCell (p := ⟨w.heap.size + 1 + 1, 1, none⟩) (by show w.heap.size ≤ w.heap.size + 1 + 1; omega) _
      have X0 := Lib.hid x0
      have X1 := Lib.hid x1
      have X2 := Lib.hid x2
      have Y0 := Lib.hid y0
      have Y1 := Lib.hid y1
      have Y2 := Lib.hid y2
      have QX := Lib.hid qx
      have HF5 := Lib.hid hf5
      have HBX5 := Lib.hid hbx
      clear o x0 x1 x2 y0 y1 y2 qx hf5 hbx hf4 qq
      go_wp2_with fail
      clear v0 v1 v2 t0 t1 t2 hg4
      generalize wc.setCell ⟨w.heap.size + 1 + 1, 1, none⟩ (.string ⟨U.toArray⟩) = W6 at *
      have x0 := X0.out
      have x1 := X1.out
      have x2 := X2.out
      have y0 := Y0.out
      have y1 := Y1.out
      have y2 := Y2.out
      have qx := QX.out
      have hf5 := HF5.out
      rcases hup : V.only (V.kind [46, 43, 126, 45]) U with _ | _
      · have HUP := Lib.hid hup
        have HN : Hid (V.debParse s.data.toList = none) := Lib.hid (by rw [HFIN.out, hup]; rfl)
        clear hup
        refine (only_allowed2 ⟨U.toArray⟩ _ _ (by show U.length ≤ _; unfold maxLen; omega) qx).mono ?_
        rintro e w' ⟨rfl, rfl⟩
        simp only [HUP.out]
        go_wp2
        obtain ⟨z0, z1, z2⟩ := set3 _ (w.heap.size + 1) _ _ _ (.string ⟨#[]⟩) (.string ⟨#[]⟩) (.string ⟨#[]⟩) x0 x1 x2
        exact bodyPost_ret (results_deb _ _ (w.heap.size + 1) false _ _ _ rfl rfl z0 z1 z2) rfl (by
          rw [HN.out]; exact ⟨below_set3 (w.heap.size + 1) HBX5.out (by omega) _ _ _, rfl⟩)
      · have HUP := Lib.hid hup
        have hpos : 0 < U.length := by
          cases U with
          | nil => simp [V.only] at hup
          | cons => simp
        have hpz : 0 < (ByteArray.mk U.toArray).size := hpos
        have hat := Lib.hid (at0 hpz)
        rcases hdg : V.digB (ByteArray.mk U.toArray)[0].toNat with _ | _
        all_goals
          have HDG := Lib.hid hdg
          clear hup hdg
          refine (only_allowed2 ⟨U.toArray⟩ _ _ (by show U.length ≤ _; unfold maxLen; omega) qx).mono ?_
          rintro e w' ⟨rfl, rfl⟩
          simp only [HUP.out]
          go_wp2_with fail
          refine (digit_any _ _).mono ?_
          rintro e w' ⟨rfl, rfl⟩
          simp only [HDG.out]
          go_wp2
        · have HN : Hid (V.debParse s.data.toList = none) := Lib.hid (by
            rw [HFIN.out, HUP.out, if_neg]
            have : V.dig (U.getD 0 0) = false := by unfold V.dig; rw [show U.getD 0 0 = (ByteArray.mk U.toArray)[0] from hat.out]; exact HDG.out
            rw [this]; simp)
          obtain ⟨z0, z1, z2⟩ := set3 _ (w.heap.size + 1) _ _ _ (.string ⟨#[]⟩) (.string ⟨#[]⟩) (.string ⟨#[]⟩) x0 x1 x2
          exact bodyPost_ret (results_deb _ _ (w.heap.size + 1) false _ _ _ rfl rfl z0 z1 z2) rfl (by
            rw [HN.out]; exact ⟨below_set3 (w.heap.size + 1) HBX5.out (by omega) _ _ _, rfl⟩)
        · have HN : Hid (V.debParse s.data.toList = some (E, U, R)) := Lib.hid (by
            rw [HFIN.out, HUP.out, if_pos]
            have : V.dig (U.getD 0 0) = true := by unfold V.dig; rw [show U.getD 0 0 = (ByteArray.mk U.toArray)[0] from hat.out]; exact HDG.out
            rw [this]; simp)
          obtain ⟨z0, z1, z2⟩ := set3 _ (w.heap.size + 1) _ _ _ (.string ⟨E.toArray⟩) (.string ⟨U.toArray⟩) (.string ⟨R.toArray⟩) x0 x1 x2
          exact bodyPost_ret (results_deb _ _ (w.heap.size + 1) true _ _ _ rfl rfl z0 z1 z2) rfl (by
            rw [HN.out]; exact ⟨below_set3 (w.heap.size + 1) HBX5.out (by omega) _ _ _, rfl⟩)
end Go.Proofs.YtnhfaincdabdkaaGreatDoor
namespace Go.Proofs.YtnhfaincdabdkaaGreatDoor
open Go.RowKit

theorem debPost_none {r : Option (V.Bs × V.Bs × V.Bs)} {w : World} {e : Ending} {w' : World} (h : DebPost r w e w') (hr : r = none) :
    e = .returned (.tuple #[.agg #[.string ⟨#[]⟩, .string ⟨#[]⟩, .string ⟨#[]⟩], .bool false]) ∧ Below w.heap.size w w' := by
  subst hr; exact ⟨h.2, h.1⟩
theorem debPost_some {r : Option (V.Bs × V.Bs × V.Bs)} {a b c : V.Bs} {w : World} {e : Ending} {w' : World} (h : DebPost r w e w') (hr : r = some (a, b, c)) :
    e = .returned (.tuple #[.agg #[.string ⟨a.toArray⟩, .string ⟨b.toArray⟩, .string ⟨c.toArray⟩], .bool true]) ∧ Below w.heap.size w w' := by
  subst hr; exact ⟨h.2, h.1⟩

set_option maxRecDepth 100000 in
set_option maxHeartbeats 800000 in
theorem debValid_any (s : ByteArray) (w : World) (hm : MaxOk w) (hs : s.size ≤ 1000) :
    Calls Tryz.prog 283 #[.agg #[], .string s] w fun e w' => e = .returned (.bool (V.debParse s.data.toList).isSome) ∧ Below w.heap.size w w' := by
  have hb0 : Below w.heap.size w (w.alloc (.cells #[] 191)) := (Below.refl _ w).alloc (Nat.le_refl _) _
  have hm0 := hm.below hb0
  rcases hp : V.debParse s.data.toList with _ | ⟨a, b, c⟩
  · have HP := Lib.hid hp
    have HB0 := Lib.hid hb0
    clear hp hb0
    go_enter Tryz.func283, Tryz.ntmps283
    go_wp2_with fail
    refine (debParse_any s _ hm0 hs).mono ?_
    rintro e w1 h
    obtain ⟨rfl, hb1⟩ := debPost_none h HP.out
    have HB1 := Lib.hid (HB0.out.trans (hb1.mono HB0.out.size))
    clear h hb1
    go_wp2
    go_ret
    refine ⟨ret_bool rfl, ?_⟩
    exact (HB1.out.alloc HB1.out.size _)
  · have HP := Lib.hid hp
    have HB0 := Lib.hid hb0
    clear hp hb0
    go_enter Tryz.func283, Tryz.ntmps283
    go_wp2_with fail
    refine (debParse_any s _ hm0 hs).mono ?_
    rintro e w1 h
    obtain ⟨rfl, hb1⟩ := debPost_some h HP.out
    have HB1 := Lib.hid (HB0.out.trans (hb1.mono HB0.out.size))
    clear h hb1
    go_wp2
    go_ret
    refine ⟨ret_bool rfl, ?_⟩
    exact (HB1.out.alloc HB1.out.size _)
end Go.Proofs.YtnhfaincdabdkaaGreatDoor
