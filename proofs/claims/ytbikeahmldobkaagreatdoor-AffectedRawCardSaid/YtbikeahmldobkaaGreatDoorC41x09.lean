/-
  Lemmas for the law.
-/
import Derived.Test.YtbikeahmldobkaaGreatDoorC41x08
import Derived.BigRegion
import Derived.Laws.EntriesVeiled
import Derived.Deep.DeepCutAuto
set_option linter.all false
set_option maxRecDepth 100000
set_option maxHeartbeats 6400000
namespace Go.Proofs.YtbikeahmldobkaaGreatDoor
open Go.RowKit
def zjj (r : Option (V.Bs × V.Bs × V.Bs)) (w : World) (e : Ending) (w' : World) : Prop :=
 Below w.heap.size w w' /\ match r with
 | none => e = .returned (.tuple #[.agg #[.string ⟨#[]⟩, .string ⟨#[]⟩, .string ⟨#[]⟩], .bool false])
 | some (a, b, c) => e = .returned (.tuple #[.agg #[.string ⟨a.toArray⟩, .string ⟨b.toArray⟩, .string ⟨c.toArray⟩], .bool true])
theorem yb (tmps : Array Value) (w : World) (b : Nat) (x : Bool) (v0 v1 v2 : Value) (h4 : tmps.getD 4 undef = .pointer (some ⟨b, 0, none⟩)) (h5 : tmps.getD 5 undef = .bool x)
  (c0 : w.cell? ⟨b, 0, none⟩ = some v0) (c1 : w.cell? ⟨b, 1, none⟩ = some v1) (c2 : w.cell? ⟨b, 2, none⟩ = some v2) :
  (results Tryz.f254 tmps).run Tryz.prog w = .ok (.tuple #[.agg #[v0, v1, v2], .bool x]) w := by
 have h4' : tmps[4]?.getD undef = .pointer (some ⟨b, 0, none⟩) := by simpa using h4
 have h5' : tmps[5]?.getD undef = .bool x := by simpa using h5
 simp [results, Tryz.results254, go_sem, h4', h5', c0, c1, c2]
theorem set3 (w : World) (b : Nat) (u0 u1 u2 v0 v1 v2 : Value) (c0 : w.cell? ⟨b, 0, none⟩ = some u0) (c1 : w.cell? ⟨b, 1, none⟩ = some u1) (c2 : w.cell? ⟨b, 2, none⟩ = some u2) :
  let W := ((w.setCell ⟨b, 0, none⟩ v0).setCell ⟨b, 1, none⟩ v1).setCell ⟨b, 2, none⟩ v2
  W.cell? ⟨b, 0, none⟩ = some v0 /\ W.cell? ⟨b, 1, none⟩ = some v1 /\ W.cell? ⟨b, 2, none⟩ = some v2 := by
 have o : ∀ (W : World) (i j : Nat) (v : Value), i ≠ j -> (W.setCell ⟨b, i, none⟩ v).cell? ⟨b, j, none⟩ = W.cell? ⟨b, j, none⟩ := fun W i j v h => World.cell?_setCell_other _ _ _ _ (by simp )
 refine ⟨?_, ?_, ?_⟩
 ·rw [o _ 2 0 _ (by omega), o _ 1 0 _ (by omega)]
  exact World.cell?_setCell_same _ _ _ c0
 ·rw [o _ 2 1 _ (by omega)]
  exact World.cell?_setCell_same _ _ _ ((o _ 0 1 _ (by omega)).trans c1)
 ·exact zsp
theorem yz {w0 w : World} (b : Nat) (h : Below w0.heap.size w0 w) (hb : w0.heap.size ≤ b) (v0 v1 v2 : Value) :
  Below w0.heap.size w0 (((w.setCell ⟨b, 0, none⟩ v0).setCell ⟨b, 1, none⟩ v1).setCell ⟨b, 2, none⟩ v2) :=
 ((h.setCell (p := ⟨b, 0, none⟩) hb _).setCell (p := ⟨b, 1, none⟩) hb _).setCell (p := ⟨b, 2, none⟩) hb _
theorem zfs {E V1 : V.Bs} (h : V.qn V1 < 0) : V.qs E V1 = if V.only (V.kind [46, 43, 126, 45]) V1 && V.dig (V1.getD 0 0) then some (E, V1, []) else none := by
 unfold V.qs; rw [if_pos h]
theorem zd1 {E V1 : V.Bs} {i : Nat} (h : V.qn V1 = i) (hb : V.only (V.kind V.allow) (V1.drop (i + 1)) = false) : V.qs E V1 = none := by
 unfold V.qs; rw [if_neg (by omega), h, Int.toNat_natCast, hb]; rfl
theorem zdy {E V1 : V.Bs} {i : Nat} (h : V.qn V1 = i) (hb : V.only (V.kind V.allow) (V1.drop (i + 1)) = true) :
  V.qs E V1 = if V.only (V.kind [46, 43, 126, 45]) (V1.take i) && V.dig ((V1.take i).getD 0 0) then some (E, V1.take i, V1.drop (i + 1)) else none := by
 unfold V.qs; rw [if_neg (by omega), h, Int.toNat_natCast, hb]; rfl
theorem zkg (w : World) (c d e : Array Value) (t u v : TypeId) :
  let W := ((w.alloc (.cells c t)).alloc (.cells d u)).alloc (.cells e v)
  Below w.heap.size w W /\ (∀ i, W.cell? ⟨w.heap.size + 1, i, none⟩ = d[i]?) /\ (∀ i, W.frozen? ⟨w.heap.size + 1, i, none⟩ = false) /\
  (∀ i, W.cell? ⟨w.heap.size + 2, i, none⟩ = e[i]?) /\ (∀ i, W.frozen? ⟨w.heap.size + 2, i, none⟩ = false) /\ W.heap.size = w.heap.size + 3 := by
 refine ⟨(((zpd _ _).alloc (zpc _) _).alloc (by simp) _).alloc (by simp; omega) _, fun i => ?_, fun i => ?_, fun i => ?_, fun i => ?_, by simp⟩
 ·rw [zj, if_neg (by simp), zj, if_pos (by simp)]
 ·rw [qj, if_neg (by simp), qj, if_pos (by simp)]
 ·rw [zj, if_pos (by simp)]
 ·rw [qj, if_pos (by simp)]
theorem zqf {P : Prop} (h : P := by
 obtain ⟨z0, z1, z2⟩ := set3 _ (w.heap.size + 1) _ _ _ (.string ⟨#[]⟩) (.string ⟨#[]⟩) (.string ⟨#[]⟩) x0 x1 x2
 exact bodyPost_ret (yb _ _ (w.heap.size + 1) false _ _ _ rfl rfl z0 z1 z2) rfl (by
   rw [HN.out]; exact ⟨yz (w.heap.size + 1) HBX5.out (by omega) _ _ _, rfl⟩)) : P := h
theorem zre {P : Prop} (h : P := by
 rw [← HLD.out]
 unfold V.qn
 rw [zg4]
 rcases Lib.lastIndexByte_spec V1 45 with ⟨h, _⟩ | ⟨i, hi, h, _⟩
 ·left; omega
 ·exact .inr ⟨i, h, hi⟩) : P := h
theorem yo (s : ByteArray) (w : World) (hm : zm w) (hs : s.size ≤ 1000) :
  Calls Tryz.prog 254 #[.agg #[], .string s] w (zjj (V.zq s.data.toList) w) := by
 obtain ⟨ep, re, H, hx1⟩ : ∃ a b c, V.cut1 58 s.data.toList = (a, b, c) := ⟨_, _, _, rfl⟩
 have HP : Hid (V.zq s.data.toList = if H then if V.numb ep false then V.qs ep re else none else V.qs [] s.data.toList) := zpa (by
   unfold V.zq; rw [hx1])
 have hl1 : ep.length ≤ s.size /\ re.length ≤ s.size := by
  have := km 58 s.data.toList
  rw [hx1, zi] at this
  exact this
 obtain ⟨hl1, hl2⟩ := hl1
 have HX1 := zpa hx1
 clear hx1
 obtain ⟨W2, hW2⟩ : ∃ W2, W2 = ((w.alloc (.cells #[] 204)).alloc (.cells #[.string ⟨#[]⟩, .string ⟨#[]⟩, .string ⟨#[]⟩] 280)).alloc (.cells #[.string ⟨#[]⟩, .string ⟨#[]⟩, .string ⟨#[]⟩] 280) := ⟨_, rfl⟩
 obtain ⟨hb2, hc2, hf2, hd2, hg2, hz2⟩ := zkg w #[] #[.string ⟨#[]⟩, .string ⟨#[]⟩, .string ⟨#[]⟩] #[.string ⟨#[]⟩, .string ⟨#[]⟩, .string ⟨#[]⟩] 204 280 280
 rw [← hW2] at hb2 hc2 hf2 hd2 hg2 hz2
 have hm2 := hm.below hb2
 have HW := zpa hW2
 have HC2 := zpa hc2
 have HF2 := zpa hf2
 have HD2 := zpa hd2
 have HG2 := zpa hg2
 have HZ2 := zpa hz2
 have HB2 := zpa hb2
 clear hW2 hc2 hf2 hd2 hg2 hz2 hb2
 go_enter Tryz.func254, Tryz.ntmps254
 go_wp2_with fail
 rw [← HW.out]
 refine (vz s 58 _ hm2 (by omega)).mono ?_
 rintro e w1 ⟨rfl, hb1⟩
 simp only [HX1.out]
 have hn1 : w.heap.size + 1 < W2.heap.size := by rw [HZ2.out]; omega
 have hn2 : w.heap.size + 2 < W2.heap.size := by rw [HZ2.out]; omega
 have hc := qk hb1 hn1 HC2.out
 have hf := qb hb1 hn1 HF2.out
 have hd := qk hb1 hn2 HD2.out
 have hg := qb hb1 hn2 HG2.out
 have hn3 := Nat.lt_of_lt_of_le hn2 hb1.size
 have HB1 := zpb HB2 hb1
 have d0 := hc 0
 have d1 := hc 1
 have d2 := hc 2
 have o0 := hd 0
 have o1 := hd 1
 have o2 := hd 2
 simp at d0 d1 d2 o0 o1 o2
 clear hb1 hm2 hn1 hn2 hc hd
 go_upto_if 18 with (fail)
 go_cut [1] (fun v1 wx => ∃ (E : V.Bs) (V1 : ByteArray), v1 = .string V1 /\ V1.size ≤ s.size /\ wx.cell? ⟨w.heap.size + 1, 0, none⟩ = some (.string ⟨#[]⟩) /\ wx.cell? ⟨w.heap.size + 1, 1, none⟩ = some (.string ⟨#[]⟩) /\ wx.cell? ⟨w.heap.size + 1, 2, none⟩ = some (.string ⟨#[]⟩) /\
   wx.cell? ⟨w.heap.size + 1 + 1, 0, none⟩ = some (.string ⟨E.toArray⟩) /\ wx.cell? ⟨w.heap.size + 1 + 1, 1, none⟩ = some (.string ⟨#[]⟩) /\ wx.cell? ⟨w.heap.size + 1 + 1, 2, none⟩ = some (.string ⟨#[]⟩) /\
   (∀ i, wx.frozen? ⟨w.heap.size + 1, i, none⟩ = false) /\ (∀ i, wx.frozen? ⟨w.heap.size + 1 + 1, i, none⟩ = false) /\ w.heap.size + 2 < wx.heap.size /\ Below w.heap.size w wx /\ V.zq s.data.toList = V.qs E V1.data.toList)
 case first =>
  cases H with
  | false =>
   go_wp2
   go_meet
   exact ⟨[], s, rfl, zpc _, d0, d1, d2, o0, o1, o2, hf, hg, hn3, HB1.out, by rw [HP.out]; rfl⟩
  | true =>
   rcases hnb : V.numb ep false with _ | _
   all_goals
    have HNB := zpa hnb
    clear hnb
    go_wp2_with fail
    refine (ks ⟨ep.toArray⟩ false _ (by show ep.length ≤ _; unfold maxLen; omega)).mono ?_
    rintro e w' ⟨rfl, rfl⟩
    simp only [HNB.out]
    go_wp2
   ·have HN : Hid (V.zq s.data.toList = none) := zpa (by rw [HP.out]; simp [HNB.out])
    obtain ⟨q0, q1, q2⟩ := set3 _ (w.heap.size + 1) _ _ _ (.string ⟨#[]⟩) (.string ⟨#[]⟩) (.string ⟨#[]⟩) d0 d1 d2
    exact bodyPost_ret (yb _ _ (w.heap.size + 1) false _ _ _ rfl rfl q0 q1 q2) rfl (by
      rw [HN.out]; exact ⟨yz (w.heap.size + 1) HB1.out (by omega) _ _ _, rfl⟩)
   ·have o : ∀ (i j : Nat), (i = 1 ∨ j ≠ 0) -> (w1.setCell ⟨w.heap.size + 2, 0, none⟩ (.string ⟨ep.toArray⟩)).cell? ⟨w.heap.size + 2 - i, j, none⟩ = w1.cell? ⟨w.heap.size + 2 - i, j, none⟩ := fun i j h => World.cell?_setCell_other _ _ _ _ (by intro e; simp at e; omega)
    go_meet
    exact ⟨ep, ⟨re.toArray⟩, rfl, hl2, (o 1 0 (by omega)).trans d0, (o 1 1 (by omega)).trans d1, (o 1 2 (by omega)).trans d2, World.cell?_setCell_same _ _ _ o0, (o 0 1 (by omega)).trans o1, (o 0 2 (by omega)).trans o2,
      fun i => by rw [World.frozen?_setCell]; exact hf i, fun i => by rw [World.frozen?_setCell]; exact hg i, by simpa [World.setCell] using hn3, HB1.out.setCell (p := ⟨w.heap.size + 2, 0, none⟩) (by show w.heap.size ≤ w.heap.size + 2; omega) _, by rw [HP.out]; simp [HNB.out]⟩
 case rest =>
  obtain ⟨E, V1, rfl, hsz, d0', d1', d2', p0, p1, p2, hf', hg', hn3', hB', htail⟩ := hcut
  have HT := zpa htail
  have HBX := zpa hB'
  clear htail hB' HP HX1 HC2 HF2 HD2 HG2 HZ2 HB2 HW d0 d1 d2 o0 o1 o2 hf hg HB1
  go_wp2_with fail
  refine (Tryz.strings_LastIndexByte V1 45 (by omega) _).mono ?_
  rintro e w3 ⟨rfl, hw3⟩
  have hld : Lib.lastIndexByte V1 45 = V.qn V1.data.toList := by unfold V.qn; rw [zg4]
  rw [hld]
  clear hld
  obtain ⟨wo, rfl⟩ : ∃ wo : World, wo = wc := ⟨_, rfl⟩
  obtain ⟨ld, hld⟩ : ∃ ld, V.qn V1.data.toList = ld := ⟨_, rfl⟩
  have HLD := zpa hld
  rw [hld]
  clear hld
  have hb4 : Below wo.heap.size wo w3 := by rw [hw3]; exact (zpd _ _).alloc (zpc _) _
  have r0 := (hb4.cell (p := ⟨w.heap.size + 1, 0, none⟩) (show w.heap.size + 1 < wo.heap.size by omega)).trans d0'
  have r1 := (hb4.cell (p := ⟨w.heap.size + 1, 1, none⟩) (show w.heap.size + 1 < wo.heap.size by omega)).trans d1'
  have r2 := (hb4.cell (p := ⟨w.heap.size + 1, 2, none⟩) (show w.heap.size + 1 < wo.heap.size by omega)).trans d2'
  have s0 := (hb4.cell (p := ⟨w.heap.size + 1 + 1, 0, none⟩) (show w.heap.size + 1 + 1 < wo.heap.size by omega)).trans p0
  have s1 := (hb4.cell (p := ⟨w.heap.size + 1 + 1, 1, none⟩) (show w.heap.size + 1 + 1 < wo.heap.size by omega)).trans p1
  have s2 := (hb4.cell (p := ⟨w.heap.size + 1 + 1, 2, none⟩) (show w.heap.size + 1 + 1 < wo.heap.size by omega)).trans p2
  have hf3 := qb hb4 (show w.heap.size + 1 < wo.heap.size by omega) hf'
  have hg3 := qb hb4 (show w.heap.size + 1 + 1 < wo.heap.size by omega) hg'
  have q0 : w3.cell? ⟨wo.heap.size, 0, none⟩ = some (.func (.func 256) #[] #[]) := by rw [hw3, zj, if_pos rfl]; rfl
  have hz3 : wo.heap.size < w3.heap.size := by rw [hw3]; simp
  have HB3 := zpb HBX hb4
  clear hw3 hb4 d0' d1' d2' p0 p1 p2 hf' hg' HBX
  have hsplit : (ld < 0) ∨ ∃ i : Nat, ld = i /\ i < V1.size := by
   exact zre
  go_upto_if 29 with (fail)
  go_cut [1] (fun v1 wx => ∃ (U R : V.Bs), v1 = .string ⟨U.toArray⟩ /\ U.length ≤ s.size /\ wx.cell? ⟨w.heap.size + 1, 0, none⟩ = some (.string ⟨#[]⟩) /\ wx.cell? ⟨w.heap.size + 1, 1, none⟩ = some (.string ⟨#[]⟩) /\ wx.cell? ⟨w.heap.size + 1, 2, none⟩ = some (.string ⟨#[]⟩) /\
    wx.cell? ⟨w.heap.size + 1 + 1, 0, none⟩ = some (.string ⟨E.toArray⟩) /\ wx.cell? ⟨w.heap.size + 1 + 1, 1, none⟩ = some (.string ⟨#[]⟩) /\ wx.cell? ⟨w.heap.size + 1 + 1, 2, none⟩ = some (.string ⟨R.toArray⟩) /\
    (∀ i, wx.frozen? ⟨w.heap.size + 1, i, none⟩ = false) /\ (∀ i, wx.frozen? ⟨w.heap.size + 1 + 1, i, none⟩ = false) /\ wx.cell? ⟨wo.heap.size, 0, none⟩ = some (.func (.func 256) #[] #[]) /\ wo.heap.size < wx.heap.size /\ Below w.heap.size w wx /\
    V.zq s.data.toList = if V.only (V.kind [46, 43, 126, 45]) U && V.dig (U.getD 0 0) then some (E, U, R) else none)
  case first =>
   rcases hsplit with hneg | ⟨i, rfl, hlt⟩
   ·have HN : Hid (V.qn V1.data.toList < 0) := zpa (by rw [HLD.out]; exact hneg)
    go_wp2
    go_meet
    exact ⟨V1.data.toList, [], by rw [zg4], by rw [zi]; exact hsz, r0, r1, r2, s0, s1, s2, hf3, hg3, q0, hz3, HB3.out, by rw [HT.out, zfs HN.out]⟩
   ·have HI := HLD
    have hge : (0 : Int) ≤ (i : Int) := by omega
    go_wp2
    go_region
    go_wp2_with fail
    have hbd : Below w.heap.size w (w3.setCell ⟨w.heap.size + 1 + 1, 2, none⟩ (.string (V1.extract (i + 1) V1.size))).drew := (HB3.out.setCell (p := ⟨w.heap.size + 1 + 1, 2, none⟩) (by show w.heap.size ≤ w.heap.size + 1 + 1; omega) _).drew
    have o : ∀ (b j : Nat), (b ≠ w.heap.size + 1 + 1 ∨ j ≠ 2) -> (w3.setCell ⟨w.heap.size + 1 + 1, 2, none⟩ (.string (V1.extract (i + 1) V1.size))).drew.cell? ⟨b, j, none⟩ = w3.cell? ⟨b, j, none⟩ := fun b j h => by
     rw [World.cell?_drew]; exact World.cell?_setCell_other _ _ _ _ (by intro e; simp at e; omega)
    have v0 := (o (w.heap.size + 1) 0 (by omega)).trans r0
    have v1 := (o (w.heap.size + 1) 1 (by omega)).trans r1
    have v2 := (o (w.heap.size + 1) 2 (by omega)).trans r2
    have t0 := (o (w.heap.size + 1 + 1) 0 (by omega)).trans s0
    have t1 := (o (w.heap.size + 1 + 1) 1 (by omega)).trans s1
    have t2 : (w3.setCell ⟨w.heap.size + 1 + 1, 2, none⟩ (.string (V1.extract (i + 1) V1.size))).drew.cell? ⟨w.heap.size + 1 + 1, 2, none⟩ = some (.string (V1.extract (i + 1) V1.size)) := by
     rw [World.cell?_drew]; exact World.cell?_setCell_same _ _ _ s2
    have qq := (o wo.heap.size 0 (by omega)).trans q0
    have hf4 : ∀ i', (w3.setCell ⟨w.heap.size + 1 + 1, 2, none⟩ (.string (V1.extract (i + 1) V1.size))).drew.frozen? ⟨w.heap.size + 1, i', none⟩ = false := fun i' => by
     show (World.setCell _ _ _).frozen? _ = false
     rw [World.frozen?_setCell]; exact hf3 i'
    have hg4 : ∀ i', (w3.setCell ⟨w.heap.size + 1 + 1, 2, none⟩ (.string (V1.extract (i + 1) V1.size))).drew.frozen? ⟨w.heap.size + 1 + 1, i', none⟩ = false := fun i' => by
     show (World.setCell _ _ _).frozen? _ = false
     rw [World.frozen?_setCell]; exact hg3 i'
    have hz4 : wo.heap.size < (w3.setCell ⟨w.heap.size + 1 + 1, 2, none⟩ (.string (V1.extract (i + 1) V1.size))).drew.heap.size := by
     show wo.heap.size < (World.setCell _ _ _).heap.size
     simpa [World.setCell] using hz3
    have hex : (V1.extract (i + 1) V1.size).data.toList = V1.data.toList.drop (i + 1) := by rw [Lib.extract_to_end]
    have hex0 : V1.extract 0 i = ⟨(V1.data.toList.take i).toArray⟩ := ki (by rw [Lib.extract_data]; simp)
    have hex1 : V1.extract (i + 1) V1.size = ⟨(V1.data.toList.drop (i + 1)).toArray⟩ := ki (by rw [hex])
    have HEX0 := zpa hex0
    have HEX1 := zpa hex1
    have HEX := zpa hex
    clear hex hex0 hex1 o r0 r1 r2 s0 s1 s2 q0 hf3 hg3 hz3 HB3
    generalize (w3.setCell ⟨w.heap.size + 1 + 1, 2, none⟩ (.string (V1.extract (i + 1) V1.size))).drew = W5 at *
    have HB5 := zpa hbd
    clear hbd
    rcases hrv : V.only (V.kind V.allow) (V1.data.toList.drop (i + 1)) with _ | _
    all_goals
     have HRV := zpa hrv
     clear hrv
     refine (zjg _ _ (by unfold maxLen; simp [ByteArray.size_extract]; omega)).mono ?_
     rintro e w' ⟨rfl, rfl⟩
     simp only [HEX.out, HRV.out]
     go_wp2
    ·have HN : Hid (V.zq s.data.toList = none) := zpa (by rw [HT.out, zd1 HI.out HRV.out])
     obtain ⟨z0, z1, z2⟩ := set3 _ (w.heap.size + 1) _ _ _ (.string ⟨#[]⟩) (.string ⟨#[]⟩) (.string ⟨#[]⟩) v0 v1 v2
     exact bodyPost_ret (yb _ _ (w.heap.size + 1) false _ _ _ rfl rfl z0 z1 z2) rfl (by
       rw [HN.out]; exact ⟨yz (w.heap.size + 1) HB5.out (by omega) _ _ _, rfl⟩)
    ·have HN := zpa (zdy (E := E) HI.out HRV.out)
     go_meet
     exact ⟨V1.data.toList.take i, V1.data.toList.drop (i + 1), by rw [HEX0.out], by simp; omega, v0, v1, v2, t0, t1, by rw [t2, HEX1.out], hf4, hg4, qq, hz4, HB5.out, by rw [HT.out, HN.out]⟩
  case rest =>
   obtain ⟨U, R, rfl, hU, v0, v1, v2, t0, t1, t2, hf4, hg4, qq, hz4, hB5, hfin⟩ := hcut
   clear r0 r1 r2 s0 s1 s2 hf3 hg3 q0 hz3 HB3 hsplit HT
   have HFIN := zpa hfin
   have HB5 := zpa hB5
   clear hfin hB5
   have o : ∀ (b j : Nat), (b ≠ w.heap.size + 1 + 1 ∨ j ≠ 1) -> (wc.setCell ⟨w.heap.size + 1 + 1, 1, none⟩ (.string ⟨U.toArray⟩)).cell? ⟨b, j, none⟩ = wc.cell? ⟨b, j, none⟩ := fun b j h =>
    World.cell?_setCell_other _ _ _ _ (by intro e; simp at e; omega)
   have x0 := (o (w.heap.size + 1) 0 (by omega)).trans v0
   have x1 := (o (w.heap.size + 1) 1 (by omega)).trans v1
   have x2 := (o (w.heap.size + 1) 2 (by omega)).trans v2
   have y0 := (o (w.heap.size + 1 + 1) 0 (by omega)).trans t0
   have y2 := (o (w.heap.size + 1 + 1) 2 (by omega)).trans t2
   have y1 : (wc.setCell ⟨w.heap.size + 1 + 1, 1, none⟩ (.string ⟨U.toArray⟩)).cell? ⟨w.heap.size + 1 + 1, 1, none⟩ = some (.string ⟨U.toArray⟩) := World.cell?_setCell_same _ _ _ t1
   have qx := (o wo.heap.size 0 (by omega)).trans qq
   have hf5 : ∀ i', (wc.setCell ⟨w.heap.size + 1 + 1, 1, none⟩ (.string ⟨U.toArray⟩)).frozen? ⟨w.heap.size + 1, i', none⟩ = false := fun i' => by
    rw [World.frozen?_setCell]; exact hf4 i'
   have hbx : Below w.heap.size w (wc.setCell ⟨w.heap.size + 1 + 1, 1, none⟩ (.string ⟨U.toArray⟩)) := HB5.out.setCell (p := ⟨w.heap.size + 1 + 1, 1, none⟩) (by show w.heap.size ≤ w.heap.size + 1 + 1; omega) _
   have X0 := zpa x0
   have X1 := zpa x1
   have X2 := zpa x2
   have Y0 := zpa y0
   have Y1 := zpa y1
   have Y2 := zpa y2
   have QX := zpa qx
   have HF5 := zpa hf5
   have HBX5 := zpa hbx
   clear o x0 x1 x2 y0 y1 y2 qx hf5 hbx hf4 qq
   go_wp2_with fail
   clear v0 v1 v2 t0 t1 t2 hg4
   generalize wc.setCell ⟨w.heap.size + 1 + 1, 1, none⟩ (.string ⟨U.toArray⟩) = W6 at *
   have x0 := X0.out
   have x1 := X1.out
   have x2 := X2.out
   have y0 := Y0.out
   have y1 := Y1.out
   have y2 := Y2.out
   have qx := QX.out
   have hf5 := HF5.out
   rcases hup : V.only (V.kind [46, 43, 126, 45]) U with _ | _
   ·have HUP := zpa hup
    have HN : Hid (V.zq s.data.toList = none) := zpa (by rw [HFIN.out, hup]; rfl)
    clear hup
    refine (zbp ⟨U.toArray⟩ _ _ (by show U.length ≤ _; unfold maxLen; omega) qx).mono ?_
    rintro e w' ⟨rfl, rfl⟩
    simp only [HUP.out]
    go_wp2
    exact zqf
   ·have HUP := zpa hup
    have hpos : 0 < U.length := by
     cases U with
     | nil => simp [V.only] at hup
     | cons => simp
    have hpz : 0 < (ByteArray.mk U.toArray).size := hpos
    have hat := zpa (at0 hpz)
    rcases hdg : V.digB (ByteArray.mk U.toArray)[0].toNat with _ | _
    all_goals
     have HDG := zpa hdg
     clear hup hdg
     refine (zbp ⟨U.toArray⟩ _ _ (by show U.length ≤ _; unfold maxLen; omega) qx).mono ?_
     rintro e w' ⟨rfl, rfl⟩
     simp only [HUP.out]
     go_wp2_with fail
     refine (xp _ _).mono ?_
     rintro e w' ⟨rfl, rfl⟩
     simp only [HDG.out]
     go_wp2
    ·have HN : Hid (V.zq s.data.toList = none) := zpa (by
       rw [HFIN.out, HUP.out, if_neg]
       have : V.dig (U.getD 0 0) = false := by unfold V.dig; rw [show U.getD 0 0 = (ByteArray.mk U.toArray)[0] from hat.out]; exact HDG.out
       rw [this]; simp)
     exact zqf
    ·have HN : Hid (V.zq s.data.toList = some (E, U, R)) := zpa (by
       rw [HFIN.out, HUP.out, if_pos]
       have : V.dig (U.getD 0 0) = true := by unfold V.dig; rw [show U.getD 0 0 = (ByteArray.mk U.toArray)[0] from hat.out]; exact HDG.out
       rw [this]; simp)
     obtain ⟨z0, z1, z2⟩ := set3 _ (w.heap.size + 1) _ _ _ (.string ⟨E.toArray⟩) (.string ⟨U.toArray⟩) (.string ⟨R.toArray⟩) x0 x1 x2
     exact bodyPost_ret (yb _ _ (w.heap.size + 1) true _ _ _ rfl rfl z0 z1 z2) rfl (by
       rw [HN.out]; exact ⟨yz (w.heap.size + 1) HBX5.out (by omega) _ _ _, rfl⟩)
theorem zjb {r : Option (V.Bs × V.Bs × V.Bs)} {w : World} {e : Ending} {w' : World} (h : zjj r w e w') (hr : r = none) :
  e = .returned (.tuple #[.agg #[.string ⟨#[]⟩, .string ⟨#[]⟩, .string ⟨#[]⟩], .bool false]) /\ Below w.heap.size w w' := by
 subst hr; exact ⟨h.2, h.1⟩
theorem vj {r : Option (V.Bs × V.Bs × V.Bs)} {a b c : V.Bs} {w : World} {e : Ending} {w' : World} (h : zjj r w e w') (hr : r = some (a, b, c)) :
  e = .returned (.tuple #[.agg #[.string ⟨a.toArray⟩, .string ⟨b.toArray⟩, .string ⟨c.toArray⟩], .bool true]) /\ Below w.heap.size w w' := by
 subst hr; exact ⟨h.2, h.1⟩
theorem zjr (s : ByteArray) (w : World) (hm : zm w) (hs : s.size ≤ 1000) :
  Calls Tryz.prog 253 #[.agg #[], .string s] w fun e w' => e = .returned (.bool (V.zq s.data.toList).isSome) /\ Below w.heap.size w w' := by
 have hb0 : Below w.heap.size w (w.alloc (.cells #[] 204)) := (zpd _ w).alloc (zpc _) _
 have hm0 := hm.below hb0
 rcases hp : V.zq s.data.toList with _ | ⟨a, b, c⟩
 ·have HP := zpa hp
  have HB0 := zpa hb0
  clear hp hb0
  go_enter Tryz.func253, Tryz.ntmps253
  go_wp2_with fail
  refine (yo s _ hm0 hs).mono ?_
  rintro e w1 h
  obtain ⟨rfl, hb1⟩ := zjb h HP.out
  exact zq3
 ·have HP := zpa hp
  have HB0 := zpa hb0
  clear hp hb0
  go_enter Tryz.func253, Tryz.ntmps253
  go_wp2_with fail
  refine (yo s _ hm0 hs).mono ?_
  rintro e w1 h
  obtain ⟨rfl, hb1⟩ := vj h HP.out
  exact zq3
end Go.Proofs.YtbikeahmldobkaaGreatDoor
