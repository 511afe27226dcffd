/-
  Lemmas for the law.
-/
import Derived.Test.YtiloljoancdcbaaGreatDoorC40x06
import Derived.BigRegion
import Derived.Laws.EntriesVeiled
import Derived.Deep.DeepCutAuto
set_option linter.all false
set_option maxRecDepth 100000
set_option maxHeartbeats 6400000
namespace Go.Proofs.YtiloljoancdcbaaGreatDoor
open Go.RowKit
def zpm (r : Option (V.Bs × V.Bs × V.Bs)) (w : World) (e : Ending) (w' : World) : Prop :=
 Below w.heap.size w w' /\ match r with
 | none => e = .returned (.tuple #[.agg #[.string ⟨#[]⟩, .string ⟨#[]⟩, .string ⟨#[]⟩], .bool false])
 | some (a, b, c) => e = .returned (.tuple #[.agg #[.string ⟨a.toArray⟩, .string ⟨b.toArray⟩, .string ⟨c.toArray⟩], .bool true])
theorem zas (tmps : Array Value) (w : World) (b : Nat) (x : Bool) (v0 v1 v2 : Value) (h4 : tmps.getD 4 undef = .pointer (some ⟨b, 0, none⟩)) (h5 : tmps.getD 5 undef = .bool x)
  (c0 : w.cell? ⟨b, 0, none⟩ = some v0) (c1 : w.cell? ⟨b, 1, none⟩ = some v1) (c2 : w.cell? ⟨b, 2, none⟩ = some v2) :
  (results Tryz.f238 tmps).run Tryz.prog w = .ok (.tuple #[.agg #[v0, v1, v2], .bool x]) w := by
 have h4' : tmps[4]?.getD undef = .pointer (some ⟨b, 0, none⟩) := by simpa using h4
 have h5' : tmps[5]?.getD undef = .bool x := by simpa using h5
 simp [results, Tryz.results238, go_sem, h4', h5', c0, c1, c2]
theorem set3 (w : World) (b : Nat) (u0 u1 u2 v0 v1 v2 : Value) (c0 : w.cell? ⟨b, 0, none⟩ = some u0) (c1 : w.cell? ⟨b, 1, none⟩ = some u1) (c2 : w.cell? ⟨b, 2, none⟩ = some u2) :
  let W := ((w.setCell ⟨b, 0, none⟩ v0).setCell ⟨b, 1, none⟩ v1).setCell ⟨b, 2, none⟩ v2
  W.cell? ⟨b, 0, none⟩ = some v0 /\ W.cell? ⟨b, 1, none⟩ = some v1 /\ W.cell? ⟨b, 2, none⟩ = some v2 := by
 have o : ∀ (W : World) (i j : Nat) (v : Value), i ≠ j -> (W.setCell ⟨b, i, none⟩ v).cell? ⟨b, j, none⟩ = W.cell? ⟨b, j, none⟩ := fun W i j v h => World.cell?_setCell_other _ _ _ _ (by simp )
 refine ⟨?_, ?_, ?_⟩
 ·rw [o _ 2 0 _ (by omega), o _ 1 0 _ (by omega)]
  exact World.cell?_setCell_same _ _ _ c0
 ·rw [o _ 2 1 _ (by omega)]
  exact World.cell?_setCell_same _ _ _ ((o _ 0 1 _ (by omega)).trans c1)
 ·exact z1p
theorem zbl {w0 w : World} (b : Nat) (h : Below w0.heap.size w0 w) (hb : w0.heap.size ≤ b) (v0 v1 v2 : Value) :
  Below w0.heap.size w0 (((w.setCell ⟨b, 0, none⟩ v0).setCell ⟨b, 1, none⟩ v1).setCell ⟨b, 2, none⟩ v2) :=
 ((h.setCell (p := ⟨b, 0, none⟩) hb _).setCell (p := ⟨b, 1, none⟩) hb _).setCell (p := ⟨b, 2, none⟩) hb _
theorem zle {E V1 : V.Bs} (h : V.jg V1 < 0) : V.jo E V1 = if V.only (V.kind [46, 43, 126, 45]) V1 && V.dig (V1.getD 0 0) then some (E, V1, []) else none := by
 unfold V.jo; rw [if_pos h]
theorem zit {E V1 : V.Bs} {i : Nat} (h : V.jg V1 = i) (hb : V.only (V.kind V.allow) (V1.drop (i + 1)) = false) : V.jo E V1 = none := by
 unfold V.jo; rw [if_neg (by omega), h, Int.toNat_natCast, hb]; rfl
theorem zir {E V1 : V.Bs} {i : Nat} (h : V.jg V1 = i) (hb : V.only (V.kind V.allow) (V1.drop (i + 1)) = true) :
  V.jo E V1 = if V.only (V.kind [46, 43, 126, 45]) (V1.take i) && V.dig ((V1.take i).getD 0 0) then some (E, V1.take i, V1.drop (i + 1)) else none := by
 unfold V.jo; rw [if_neg (by omega), h, Int.toNat_natCast, hb]; rfl
theorem zqr (w : World) (c d e : Array Value) (t u v : TypeId) :
  let W := ((w.alloc (.cells c t)).alloc (.cells d u)).alloc (.cells e v)
  Below w.heap.size w W /\ (∀ i, W.cell? ⟨w.heap.size + 1, i, none⟩ = d[i]?) /\ (∀ i, W.frozen? ⟨w.heap.size + 1, i, none⟩ = false) /\
  (∀ i, W.cell? ⟨w.heap.size + 2, i, none⟩ = e[i]?) /\ (∀ i, W.frozen? ⟨w.heap.size + 2, i, none⟩ = false) /\ W.heap.size = w.heap.size + 3 := by
 refine ⟨(((zvt _ _).alloc (zvs _) _).alloc (by simp) _).alloc (by simp; omega) _, fun i => ?_, fun i => ?_, fun i => ?_, fun i => ?_, by simp⟩
 ·rw [ze, if_neg (by simp), ze, if_pos (by simp)]
 ·rw [zz, if_neg (by simp), zz, if_pos (by simp)]
 ·rw [ze, if_pos (by simp)]
 ·rw [zz, if_pos (by simp)]
theorem zyj {P : Prop} (h : P := by
 obtain ⟨z0, z1, z2⟩ := set3 _ (w.heap.size + 1) _ _ _ (.string ⟨#[]⟩) (.string ⟨#[]⟩) (.string ⟨#[]⟩) x0 x1 x2
 exact bodyPost_ret (zas _ _ (w.heap.size + 1) false _ _ _ rfl rfl z0 z1 z2) rfl (by
   rw [HN.out]; exact ⟨zbl (w.heap.size + 1) HBX5.out (by omega) _ _ _, rfl⟩)) : P := h
theorem zz4 {P : Prop} (h : P := by
 rw [← HLD.out]
 unfold V.jg
 rw [zh2]
 rcases Lib.lastIndexByte_spec V1 45 with ⟨h, _⟩ | ⟨i, hi, h, _⟩
 ·left; omega
 ·exact .inr ⟨i, h, hi⟩) : P := h
theorem za8 (s : ByteArray) (w : World) (hm : zg w) (hs : s.size ≤ 1000) :
  Calls Tryz.prog 238 #[.agg #[], .string s] w (zpm (V.zr s.data.toList) w) := by
 obtain ⟨ep, re, H, hx1⟩ : ∃ a b c, V.cut1 58 s.data.toList = (a, b, c) := ⟨_, _, _, rfl⟩
 have HP : Hid (V.zr s.data.toList = if H then if V.numb ep false then V.jo ep re else none else V.jo [] s.data.toList) := zvq (by
   unfold V.zr; rw [hx1])
 have hl1 : ep.length ≤ s.size /\ re.length ≤ s.size := by
  have := uh 58 s.data.toList
  rw [hx1, zf] at this
  exact this
 obtain ⟨hl1, hl2⟩ := hl1
 have HX1 := zvq hx1
 clear hx1
 obtain ⟨W2, hW2⟩ : ∃ W2, W2 = ((w.alloc (.cells #[] 176)).alloc (.cells #[.string ⟨#[]⟩, .string ⟨#[]⟩, .string ⟨#[]⟩] 249)).alloc (.cells #[.string ⟨#[]⟩, .string ⟨#[]⟩, .string ⟨#[]⟩] 249) := ⟨_, rfl⟩
 obtain ⟨hb2, hc2, hf2, hd2, hg2, hz2⟩ := zqr w #[] #[.string ⟨#[]⟩, .string ⟨#[]⟩, .string ⟨#[]⟩] #[.string ⟨#[]⟩, .string ⟨#[]⟩, .string ⟨#[]⟩] 176 249 249
 rw [← hW2] at hb2 hc2 hf2 hd2 hg2 hz2
 have hm2 := hm.below hb2
 have HW := zvq hW2
 have HC2 := zvq hc2
 have HF2 := zvq hf2
 have HD2 := zvq hd2
 have HG2 := zvq hg2
 have HZ2 := zvq hz2
 have HB2 := zvq hb2
 clear hW2 hc2 hf2 hd2 hg2 hz2 hb2
 go_enter Tryz.func238, Tryz.ntmps238
 go_wp2_with fail
 rw [← HW.out]
 refine (zdb s 58 _ hm2 (by omega)).mono ?_
 rintro e w1 ⟨rfl, hb1⟩
 simp only [HX1.out]
 have hn1 : w.heap.size + 1 < W2.heap.size := by rw [HZ2.out]; omega
 have hn2 : w.heap.size + 2 < W2.heap.size := by rw [HZ2.out]; omega
 have hc := je hb1 hn1 HC2.out
 have hf := qo hb1 hn1 HF2.out
 have hd := je hb1 hn2 HD2.out
 have hg := qo hb1 hn2 HG2.out
 have hn3 := Nat.lt_of_lt_of_le hn2 hb1.size
 have HB1 := zvr HB2 hb1
 have d0 := hc 0
 have d1 := hc 1
 have d2 := hc 2
 have o0 := hd 0
 have o1 := hd 1
 have o2 := hd 2
 simp at d0 d1 d2 o0 o1 o2
 clear hb1 hm2 hn1 hn2 hc hd
 go_upto_if 18 with (fail)
 go_cut [1] (fun v1 wx => ∃ (E : V.Bs) (V1 : ByteArray), v1 = .string V1 /\ V1.size ≤ s.size /\ wx.cell? ⟨w.heap.size + 1, 0, none⟩ = some (.string ⟨#[]⟩) /\ wx.cell? ⟨w.heap.size + 1, 1, none⟩ = some (.string ⟨#[]⟩) /\ wx.cell? ⟨w.heap.size + 1, 2, none⟩ = some (.string ⟨#[]⟩) /\
   wx.cell? ⟨w.heap.size + 1 + 1, 0, none⟩ = some (.string ⟨E.toArray⟩) /\ wx.cell? ⟨w.heap.size + 1 + 1, 1, none⟩ = some (.string ⟨#[]⟩) /\ wx.cell? ⟨w.heap.size + 1 + 1, 2, none⟩ = some (.string ⟨#[]⟩) /\
   (∀ i, wx.frozen? ⟨w.heap.size + 1, i, none⟩ = false) /\ (∀ i, wx.frozen? ⟨w.heap.size + 1 + 1, i, none⟩ = false) /\ w.heap.size + 2 < wx.heap.size /\ Below w.heap.size w wx /\ V.zr s.data.toList = V.jo E V1.data.toList)
 case first =>
  cases H with
  | false =>
   go_wp2
   go_meet
   exact ⟨[], s, rfl, zvs _, d0, d1, d2, o0, o1, o2, hf, hg, hn3, HB1.out, by rw [HP.out]; rfl⟩
  | true =>
   rcases hnb : V.numb ep false with _ | _
   all_goals
    have HNB := zvq hnb
    clear hnb
    go_wp2_with fail
    refine (ux ⟨ep.toArray⟩ false _ (by show ep.length ≤ _; unfold maxLen; omega)).mono ?_
    rintro e w' ⟨rfl, rfl⟩
    simp only [HNB.out]
    go_wp2
   ·have HN : Hid (V.zr s.data.toList = none) := zvq (by rw [HP.out]; simp [HNB.out])
    obtain ⟨q0, q1, q2⟩ := set3 _ (w.heap.size + 1) _ _ _ (.string ⟨#[]⟩) (.string ⟨#[]⟩) (.string ⟨#[]⟩) d0 d1 d2
    exact bodyPost_ret (zas _ _ (w.heap.size + 1) false _ _ _ rfl rfl q0 q1 q2) rfl (by
      rw [HN.out]; exact ⟨zbl (w.heap.size + 1) HB1.out (by omega) _ _ _, rfl⟩)
   ·have o : ∀ (i j : Nat), (i = 1 ∨ j ≠ 0) -> (w1.setCell ⟨w.heap.size + 2, 0, none⟩ (.string ⟨ep.toArray⟩)).cell? ⟨w.heap.size + 2 - i, j, none⟩ = w1.cell? ⟨w.heap.size + 2 - i, j, none⟩ := fun i j h => World.cell?_setCell_other _ _ _ _ (by intro e; simp at e; omega)
    go_meet
    exact ⟨ep, ⟨re.toArray⟩, rfl, hl2, (o 1 0 (by omega)).trans d0, (o 1 1 (by omega)).trans d1, (o 1 2 (by omega)).trans d2, World.cell?_setCell_same _ _ _ o0, (o 0 1 (by omega)).trans o1, (o 0 2 (by omega)).trans o2,
      fun i => by rw [World.frozen?_setCell]; exact hf i, fun i => by rw [World.frozen?_setCell]; exact hg i, by simpa [World.setCell] using hn3, HB1.out.setCell (p := ⟨w.heap.size + 2, 0, none⟩) (by show w.heap.size ≤ w.heap.size + 2; omega) _, by rw [HP.out]; simp [HNB.out]⟩
 case rest =>
  obtain ⟨E, V1, rfl, hsz, d0', d1', d2', p0, p1, p2, hf', hg', hn3', hB', htail⟩ := hcut
  have HT := zvq htail
  have HBX := zvq hB'
  clear htail hB' HP HX1 HC2 HF2 HD2 HG2 HZ2 HB2 HW d0 d1 d2 o0 o1 o2 hf hg HB1
  go_wp2_with fail
  refine (Tryz.strings_LastIndexByte V1 45 (by omega) _).mono ?_
  rintro e w3 ⟨rfl, hw3⟩
  have hld : Lib.lastIndexByte V1 45 = V.jg V1.data.toList := by unfold V.jg; rw [zh2]
  rw [hld]
  clear hld
  obtain ⟨wo, rfl⟩ : ∃ wo : World, wo = wc := ⟨_, rfl⟩
  obtain ⟨ld, hld⟩ : ∃ ld, V.jg V1.data.toList = ld := ⟨_, rfl⟩
  have HLD := zvq hld
  rw [hld]
  clear hld
  have hb4 : Below wo.heap.size wo w3 := by rw [hw3]; exact (zvt _ _).alloc (zvs _) _
  have r0 := (hb4.cell (p := ⟨w.heap.size + 1, 0, none⟩) (show w.heap.size + 1 < wo.heap.size by omega)).trans d0'
  have r1 := (hb4.cell (p := ⟨w.heap.size + 1, 1, none⟩) (show w.heap.size + 1 < wo.heap.size by omega)).trans d1'
  have r2 := (hb4.cell (p := ⟨w.heap.size + 1, 2, none⟩) (show w.heap.size + 1 < wo.heap.size by omega)).trans d2'
  have s0 := (hb4.cell (p := ⟨w.heap.size + 1 + 1, 0, none⟩) (show w.heap.size + 1 + 1 < wo.heap.size by omega)).trans p0
  have s1 := (hb4.cell (p := ⟨w.heap.size + 1 + 1, 1, none⟩) (show w.heap.size + 1 + 1 < wo.heap.size by omega)).trans p1
  have s2 := (hb4.cell (p := ⟨w.heap.size + 1 + 1, 2, none⟩) (show w.heap.size + 1 + 1 < wo.heap.size by omega)).trans p2
  have hf3 := qo hb4 (show w.heap.size + 1 < wo.heap.size by omega) hf'
  have hg3 := qo hb4 (show w.heap.size + 1 + 1 < wo.heap.size by omega) hg'
  have q0 : w3.cell? ⟨wo.heap.size, 0, none⟩ = some (.func (.func 240) #[] #[]) := by rw [hw3, ze, if_pos rfl]; rfl
  have hz3 : wo.heap.size < w3.heap.size := by rw [hw3]; simp
  have HB3 := zvr HBX hb4
  clear hw3 hb4 d0' d1' d2' p0 p1 p2 hf' hg' HBX
  have hsplit : (ld < 0) ∨ ∃ i : Nat, ld = i /\ i < V1.size := by
   exact zz4
  go_upto_if 29 with (fail)
  go_cut [1] (fun v1 wx => ∃ (U R : V.Bs), v1 = .string ⟨U.toArray⟩ /\ U.length ≤ s.size /\ wx.cell? ⟨w.heap.size + 1, 0, none⟩ = some (.string ⟨#[]⟩) /\ wx.cell? ⟨w.heap.size + 1, 1, none⟩ = some (.string ⟨#[]⟩) /\ wx.cell? ⟨w.heap.size + 1, 2, none⟩ = some (.string ⟨#[]⟩) /\
    wx.cell? ⟨w.heap.size + 1 + 1, 0, none⟩ = some (.string ⟨E.toArray⟩) /\ wx.cell? ⟨w.heap.size + 1 + 1, 1, none⟩ = some (.string ⟨#[]⟩) /\ wx.cell? ⟨w.heap.size + 1 + 1, 2, none⟩ = some (.string ⟨R.toArray⟩) /\
    (∀ i, wx.frozen? ⟨w.heap.size + 1, i, none⟩ = false) /\ (∀ i, wx.frozen? ⟨w.heap.size + 1 + 1, i, none⟩ = false) /\ wx.cell? ⟨wo.heap.size, 0, none⟩ = some (.func (.func 240) #[] #[]) /\ wo.heap.size < wx.heap.size /\ Below w.heap.size w wx /\
    V.zr s.data.toList = if V.only (V.kind [46, 43, 126, 45]) U && V.dig (U.getD 0 0) then some (E, U, R) else none)
  case first =>
   rcases hsplit with hneg | ⟨i, rfl, hlt⟩
   ·have HN : Hid (V.jg V1.data.toList < 0) := zvq (by rw [HLD.out]; exact hneg)
    go_wp2
    go_meet
    exact ⟨V1.data.toList, [], by rw [zh2], by rw [zf]; exact hsz, r0, r1, r2, s0, s1, s2, hf3, hg3, q0, hz3, HB3.out, by rw [HT.out, zle HN.out]⟩
   ·have HI := HLD
    have hge : (0 : Int) ≤ (i : Int) := by omega
    go_wp2
    go_region
    go_wp2_with fail
    have hbd : Below w.heap.size w (w3.setCell ⟨w.heap.size + 1 + 1, 2, none⟩ (.string (V1.extract (i + 1) V1.size))).drew := (HB3.out.setCell (p := ⟨w.heap.size + 1 + 1, 2, none⟩) (by show w.heap.size ≤ w.heap.size + 1 + 1; omega) _).drew
    have o : ∀ (b j : Nat), (b ≠ w.heap.size + 1 + 1 ∨ j ≠ 2) -> (w3.setCell ⟨w.heap.size + 1 + 1, 2, none⟩ (.string (V1.extract (i + 1) V1.size))).drew.cell? ⟨b, j, none⟩ = w3.cell? ⟨b, j, none⟩ := fun b j h => by
     rw [World.cell?_drew]; exact World.cell?_setCell_other _ _ _ _ (by intro e; simp at e; omega)
    have v0 := (o (w.heap.size + 1) 0 (by omega)).trans r0
    have v1 := (o (w.heap.size + 1) 1 (by omega)).trans r1
    have v2 := (o (w.heap.size + 1) 2 (by omega)).trans r2
    have t0 := (o (w.heap.size + 1 + 1) 0 (by omega)).trans s0
    have t1 := (o (w.heap.size + 1 + 1) 1 (by omega)).trans s1
    have t2 : (w3.setCell ⟨w.heap.size + 1 + 1, 2, none⟩ (.string (V1.extract (i + 1) V1.size))).drew.cell? ⟨w.heap.size + 1 + 1, 2, none⟩ = some (.string (V1.extract (i + 1) V1.size)) := by
     rw [World.cell?_drew]; exact World.cell?_setCell_same _ _ _ s2
    have qq := (o wo.heap.size 0 (by omega)).trans q0
    have hf4 : ∀ i', (w3.setCell ⟨w.heap.size + 1 + 1, 2, none⟩ (.string (V1.extract (i + 1) V1.size))).drew.frozen? ⟨w.heap.size + 1, i', none⟩ = false := fun i' => by
     show (World.setCell _ _ _).frozen? _ = false
     rw [World.frozen?_setCell]; exact hf3 i'
    have hg4 : ∀ i', (w3.setCell ⟨w.heap.size + 1 + 1, 2, none⟩ (.string (V1.extract (i + 1) V1.size))).drew.frozen? ⟨w.heap.size + 1 + 1, i', none⟩ = false := fun i' => by
     show (World.setCell _ _ _).frozen? _ = false
     rw [World.frozen?_setCell]; exact hg3 i'
    have hz4 : wo.heap.size < (w3.setCell ⟨w.heap.size + 1 + 1, 2, none⟩ (.string (V1.extract (i + 1) V1.size))).drew.heap.size := by
     show wo.heap.size < (World.setCell _ _ _).heap.size
     simpa [World.setCell] using hz3
    have hex : (V1.extract (i + 1) V1.size).data.toList = V1.data.toList.drop (i + 1) := by rw [Lib.extract_to_end]
    have hex0 : V1.extract 0 i = ⟨(V1.data.toList.take i).toArray⟩ := jj (by rw [Lib.extract_data]; simp)
    have hex1 : V1.extract (i + 1) V1.size = ⟨(V1.data.toList.drop (i + 1)).toArray⟩ := jj (by rw [hex])
    have HEX0 := zvq hex0
    have HEX1 := zvq hex1
    have HEX := zvq hex
    clear hex hex0 hex1 o r0 r1 r2 s0 s1 s2 q0 hf3 hg3 hz3 HB3
    generalize (w3.setCell ⟨w.heap.size + 1 + 1, 2, none⟩ (.string (V1.extract (i + 1) V1.size))).drew = W5 at *
    have HB5 := zvq hbd
    clear hbd
    rcases hrv : V.only (V.kind V.allow) (V1.data.toList.drop (i + 1)) with _ | _
    all_goals
     have HRV := zvq hrv
     clear hrv
     refine (zpj _ _ (by unfold maxLen; simp [ByteArray.size_extract]; omega)).mono ?_
     rintro e w' ⟨rfl, rfl⟩
     simp only [HEX.out, HRV.out]
     go_wp2
    ·have HN : Hid (V.zr s.data.toList = none) := zvq (by rw [HT.out, zit HI.out HRV.out])
     obtain ⟨z0, z1, z2⟩ := set3 _ (w.heap.size + 1) _ _ _ (.string ⟨#[]⟩) (.string ⟨#[]⟩) (.string ⟨#[]⟩) v0 v1 v2
     exact bodyPost_ret (zas _ _ (w.heap.size + 1) false _ _ _ rfl rfl z0 z1 z2) rfl (by
       rw [HN.out]; exact ⟨zbl (w.heap.size + 1) HB5.out (by omega) _ _ _, rfl⟩)
    ·have HN := zvq (zir (E := E) HI.out HRV.out)
     go_meet
     exact ⟨V1.data.toList.take i, V1.data.toList.drop (i + 1), by rw [HEX0.out], by simp; omega, v0, v1, v2, t0, t1, by rw [t2, HEX1.out], hf4, hg4, qq, hz4, HB5.out, by rw [HT.out, HN.out]⟩
  case rest =>
   obtain ⟨U, R, rfl, hU, v0, v1, v2, t0, t1, t2, hf4, hg4, qq, hz4, hB5, hfin⟩ := hcut
   clear r0 r1 r2 s0 s1 s2 hf3 hg3 q0 hz3 HB3 hsplit HT
   have HFIN := zvq hfin
   have HB5 := zvq hB5
   clear hfin hB5
   have o : ∀ (b j : Nat), (b ≠ w.heap.size + 1 + 1 ∨ j ≠ 1) -> (wc.setCell ⟨w.heap.size + 1 + 1, 1, none⟩ (.string ⟨U.toArray⟩)).cell? ⟨b, j, none⟩ = wc.cell? ⟨b, j, none⟩ := fun b j h =>
    World.cell?_setCell_other _ _ _ _ (by intro e; simp at e; omega)
   have x0 := (o (w.heap.size + 1) 0 (by omega)).trans v0
   have x1 := (o (w.heap.size + 1) 1 (by omega)).trans v1
   have x2 := (o (w.heap.size + 1) 2 (by omega)).trans v2
   have y0 := (o (w.heap.size + 1 + 1) 0 (by omega)).trans t0
   have y2 := (o (w.heap.size + 1 + 1) 2 (by omega)).trans t2
   have y1 : (wc.setCell ⟨w.heap.size + 1 + 1, 1, none⟩ (.string ⟨U.toArray⟩)).cell? ⟨w.heap.size + 1 + 1, 1, none⟩ = some (.string ⟨U.toArray⟩) := World.cell?_setCell_same _ _ _ t1
   have qx := (o wo.heap.size 0 (by omega)).trans qq
   have hf5 : ∀ i', (wc.setCell ⟨w.heap.size + 1 + 1, 1, none⟩ (.string ⟨U.toArray⟩)).frozen? ⟨w.heap.size + 1, i', none⟩ = false := fun i' => by
    rw [World.frozen?_setCell]; exact hf4 i'
   have hbx : Below w.heap.size w (wc.setCell ⟨w.heap.size + 1 + 1, 1, none⟩ (.string ⟨U.toArray⟩)) := HB5.out.setCell (p := ⟨w.heap.size + 1 + 1, 1, none⟩) (by show w.heap.size ≤ w.heap.size + 1 + 1; omega) _
   have X0 := zvq x0
   have X1 := zvq x1
   have X2 := zvq x2
   have Y0 := zvq y0
   have Y1 := zvq y1
   have Y2 := zvq y2
   have QX := zvq qx
   have HF5 := zvq hf5
   have HBX5 := zvq hbx
   clear o x0 x1 x2 y0 y1 y2 qx hf5 hbx hf4 qq
   go_wp2_with fail
   clear v0 v1 v2 t0 t1 t2 hg4
   generalize wc.setCell ⟨w.heap.size + 1 + 1, 1, none⟩ (.string ⟨U.toArray⟩) = W6 at *
   have x0 := X0.out
   have x1 := X1.out
   have x2 := X2.out
   have y0 := Y0.out
   have y1 := Y1.out
   have y2 := Y2.out
   have qx := QX.out
   have hf5 := HF5.out
   rcases hup : V.only (V.kind [46, 43, 126, 45]) U with _ | _
   ·have HUP := zvq hup
    have HN : Hid (V.zr s.data.toList = none) := zvq (by rw [HFIN.out, hup]; rfl)
    clear hup
    refine (zfe ⟨U.toArray⟩ _ _ (by show U.length ≤ _; unfold maxLen; omega) qx).mono ?_
    rintro e w' ⟨rfl, rfl⟩
    simp only [HUP.out]
    go_wp2
    exact zyj
   ·have HUP := zvq hup
    have hpos : 0 < U.length := by
     cases U with
     | nil => simp [V.only] at hup
     | cons => simp
    have hpz : 0 < (ByteArray.mk U.toArray).size := hpos
    have hat := zvq (at0 hpz)
    rcases hdg : V.digB (ByteArray.mk U.toArray)[0].toNat with _ | _
    all_goals
     have HDG := zvq hdg
     clear hup hdg
     refine (zfe ⟨U.toArray⟩ _ _ (by show U.length ≤ _; unfold maxLen; omega) qx).mono ?_
     rintro e w' ⟨rfl, rfl⟩
     simp only [HUP.out]
     go_wp2_with fail
     refine (zaa _ _).mono ?_
     rintro e w' ⟨rfl, rfl⟩
     simp only [HDG.out]
     go_wp2
    ·have HN : Hid (V.zr s.data.toList = none) := zvq (by
       rw [HFIN.out, HUP.out, if_neg]
       have : V.dig (U.getD 0 0) = false := by unfold V.dig; rw [show U.getD 0 0 = (ByteArray.mk U.toArray)[0] from hat.out]; exact HDG.out
       rw [this]; simp)
     exact zyj
    ·have HN : Hid (V.zr s.data.toList = some (E, U, R)) := zvq (by
       rw [HFIN.out, HUP.out, if_pos]
       have : V.dig (U.getD 0 0) = true := by unfold V.dig; rw [show U.getD 0 0 = (ByteArray.mk U.toArray)[0] from hat.out]; exact HDG.out
       rw [this]; simp)
     obtain ⟨z0, z1, z2⟩ := set3 _ (w.heap.size + 1) _ _ _ (.string ⟨E.toArray⟩) (.string ⟨U.toArray⟩) (.string ⟨R.toArray⟩) x0 x1 x2
     exact bodyPost_ret (zas _ _ (w.heap.size + 1) true _ _ _ rfl rfl z0 z1 z2) rfl (by
       rw [HN.out]; exact ⟨zbl (w.heap.size + 1) HBX5.out (by omega) _ _ _, rfl⟩)
theorem zpe {r : Option (V.Bs × V.Bs × V.Bs)} {w : World} {e : Ending} {w' : World} (h : zpm r w e w') (hr : r = none) :
  e = .returned (.tuple #[.agg #[.string ⟨#[]⟩, .string ⟨#[]⟩, .string ⟨#[]⟩], .bool false]) /\ Below w.heap.size w w' := by
 subst hr; exact ⟨h.2, h.1⟩
theorem zc1 {r : Option (V.Bs × V.Bs × V.Bs)} {a b c : V.Bs} {w : World} {e : Ending} {w' : World} (h : zpm r w e w') (hr : r = some (a, b, c)) :
  e = .returned (.tuple #[.agg #[.string ⟨a.toArray⟩, .string ⟨b.toArray⟩, .string ⟨c.toArray⟩], .bool true]) /\ Below w.heap.size w w' := by
 subst hr; exact ⟨h.2, h.1⟩
theorem zpy (s : ByteArray) (w : World) (hm : zg w) (hs : s.size ≤ 1000) :
  Calls Tryz.prog 237 #[.agg #[], .string s] w fun e w' => e = .returned (.bool (V.zr s.data.toList).isSome) /\ Below w.heap.size w w' := by
 have hb0 : Below w.heap.size w (w.alloc (.cells #[] 176)) := (zvt _ w).alloc (zvs _) _
 have hm0 := hm.below hb0
 rcases hp : V.zr s.data.toList with _ | ⟨a, b, c⟩
 ·have HP := zvq hp
  have HB0 := zvq hb0
  clear hp hb0
  go_enter Tryz.func237, Tryz.ntmps237
  go_wp2_with fail
  refine (za8 s _ hm0 hs).mono ?_
  rintro e w1 h
  obtain ⟨rfl, hb1⟩ := zpe h HP.out
  exact zzi
 ·have HP := zvq hp
  have HB0 := zvq hb0
  clear hp hb0
  go_enter Tryz.func237, Tryz.ntmps237
  go_wp2_with fail
  refine (za8 s _ hm0 hs).mono ?_
  rintro e w1 h
  obtain ⟨rfl, hb1⟩ := zc1 h HP.out
  exact zzi
open Go.RowKit
theorem zql (x y : V.Bs) (k : Nat) (hk : k < max x.length y.length) (h : ∀ j, j < k -> Lib.compareInt (V.wt x j) (V.wt y j) = 0) (h0 : Lib.compareInt (V.wt x k) (V.wt y k) ≠ 0) :
  V.wcmp x y = Lib.compareInt (V.wt x k) (V.wt y k) := by
 have e : ∀ j, j < max x.length y.length -> ((List.range (max x.length y.length)).map fun i => Lib.compareInt (V.wt x i) (V.wt y i)).getD j 0 = Lib.compareInt (V.wt x j) (V.wt y j) := fun j hj => by
  simp [List.getD, List.getElem?_range hj]
 unfold V.wcmp
 rw [V.orI_hit _ k (fun j hj => by rw [e j (by omega)]; exact h j hj) (by simpa using hk) (by rw [e k hk]; exact h0), e k hk]
theorem zmq (x y : V.Bs) (h : ∀ j, j < max x.length y.length -> Lib.compareInt (V.wt x j) (V.wt y j) = 0) : V.wcmp x y = 0 := by
 have e : ∀ j, j < max x.length y.length -> ((List.range (max x.length y.length)).map fun i => Lib.compareInt (V.wt x i) (V.wt y i)).getD j 0 = Lib.compareInt (V.wt x j) (V.wt y j) := fun j hj => by
  simp [List.getD, List.getElem?_range hj]
 unfold V.wcmp
 exact V.orI_zero _ (fun j hj => by have hj' : j < max x.length y.length := by simpa using hj
                                    rw [e j hj']; exact h j hj')
theorem zyh {P : Prop} (h : P := by
 by_cases ha : a.data.toList = []
 ·have hb : b.data.toList ≠ [] := fun e => HNE.out (by rw [ha, e]; rfl)
  have := V.yt _ hb
  rw [hyb] at this
  simp only [hqb, zf] at this
  simp only at l1 l3; omega
 ·have := V.yt _ ha
  rw [hxa] at this
  simp only [hpa, zf] at this
  simp only at l2 l4; omega) : P := h
theorem zyp {P : Prop} (h : P := by
 have HR : Hid (V.ql s.data.toList t.data.toList = V.numbers p q) := zvq (by
   rw [HSTEP.out, HZ0.out, V.vv, V.kh h0])
 have hb : (V.numbers p q != 0) = true := by simpa using h0
 generalize V.numbers p q = c at *
 clear h0
 go_wp2
 go_ret
 exact ⟨zn HR.out.symm, HB5.out⟩) : P := h
theorem zy8 {P : Prop} (h : P := by
 have HR : Hid (V.ql s.data.toList t.data.toList = 0) := zvq (by
   rw [Lib.toList_data] at hea heb
   rw [← HT.out, List.isEmpty_iff.1 hea, List.isEmpty_iff.1 heb]; rfl)
 go_wp2
 go_ret
 exact ⟨zn HR.out.symm, HB.out⟩) : P := h
theorem zzw {P : Prop} (h : P := by
 go_wp2
 go_ret
 exact ⟨zn HR.out.symm, HB2.out⟩) : P := h
theorem zum (s t : ByteArray) (w : World) (hs : s.size ≤ maxLen) (ht : t.size ≤ maxLen) :
  Calls Tryz.prog 239 #[.agg #[], .string s, .string t] w fun e w' => e = .returned (.int .i64 (V.ql s.data.toList t.data.toList)) /\ Below w.heap.size w w' := by
 unfold maxLen at hs ht
 go_enter Tryz.func239, Tryz.ntmps239
 go_wp2
 go_loopw [1, 2] (fun v1 v2 wr => ∃ a b : ByteArray, v1 = .string a /\ v2 = .string b /\ a.size ≤ s.size /\ b.size ≤ t.size /\ V.ql a.data.toList b.data.toList = V.ql s.data.toList t.data.toList /\ Below w.heap.size w wr) (fun v1 v2 _ => szOf v1 + szOf v2)
 case atStart => exact ⟨s, t, rfl, rfl, zvs _, zvs _, rfl, (zvt _ _).alloc (zvs _) _⟩
 case round =>
  obtain ⟨a, b, rfl, rfl, has, hbt, htx, hB⟩ := hrel
  have HT := zvq htx
  have HB := zvq hB
  clear htx hB
  rcases hea : a.toList.isEmpty with _ | _ <;> rcases heb : b.toList.isEmpty with _ | _
  case true.true =>
   exact zy8
  all_goals
   have hne : ¬ (a.data.toList.isEmpty && b.data.toList.isEmpty) = true := by rw [← Lib.toList_data, ← Lib.toList_data, hea, heb]; simp
   have hstep := V.zeb _ _ hne
   have HNE := zvq hne
   clear hne
   obtain ⟨x, a1, hxa⟩ : ∃ x a1, V.zu a.data.toList false = (x, a1) := ⟨_, _, rfl⟩
   obtain ⟨y, b1, hyb⟩ : ∃ y b1, V.zu b.data.toList false = (y, b1) := ⟨_, _, rfl⟩
   obtain ⟨p, a2, hpa⟩ : ∃ p a2, V.zu a1 true = (p, a2) := ⟨_, _, rfl⟩
   obtain ⟨q, b2, hqb⟩ : ∃ q b2, V.zu b1 true = (q, b2) := ⟨_, _, rfl⟩
   have l1 := V.qn a.data.toList false
   have l2 := V.qn b.data.toList false
   have l3 := V.qn a1 true
   have l4 := V.qn b1 true
   rw [hxa, zf] at l1
   rw [hyb, zf] at l2
   rw [hpa] at l3
   rw [hqb] at l4
   have l5 : a2.length + b2.length < a.size + b.size := by
    exact zyh
   rw [hxa, hyb] at hstep
   simp only [hpa, hqb] at hstep
   rw [HT.out] at hstep
   have HSTEP := zvq hstep
   have HXA := zvq hxa
   have HYB := zvq hyb
   have HPA := zvq hpa
   have HQB := zvq hqb
   simp only at l1 l2 l3 l4
   have m1 : x.length ≤ s.size := by omega
   have m2 : y.length ≤ t.size := by omega
   have m3 : a1.length ≤ s.size := by omega
   have m4 : b1.length ≤ t.size := by omega
   have m5 : a2.length ≤ s.size := by omega
   have m6 : b2.length ≤ t.size := by omega
   have L5 := zvq l5
   clear hstep hxa hyb hpa hqb l1 l2 l3 l4 l5
   go_wp2_with fail
   refine (zgn a false _ (by unfold maxLen; omega)).mono ?_
   rintro e w1 ⟨rfl, hb1⟩
   simp only [HXA.out]
   go_wp2_with fail
   refine (zgn b false _ (by unfold maxLen; omega)).mono ?_
   rintro e w2 ⟨rfl, hb2⟩
   simp only [HYB.out]
   have HB2 := zvq (HB.out.trans ((hb1.trans (hb2.mono hb1.size)).mono HB.out.size))
   clear hb1 hb2
   go_wp2
   go_loop [9] (fun i => ∃ k : Nat, k ≤ max x.length y.length /\ i = .int .i64 k /\ ∀ j, j < k -> Lib.compareInt (V.wt x j) (V.wt y j) = 0) (fun i => max x.length y.length - (intOf i).toNat)
   case atStart => exact ⟨0, Nat.zero_le _, rfl, fun j hj => by omega⟩
   case round =>
    obtain ⟨k, hk, rfl, hz⟩ := hrel
    have HZ := zvq hz
    clear hz
    by_cases hlt : k < max x.length y.length
    ·have hor : (k < x.length) ∨ (¬ k < x.length /\ k < y.length) := by omega
     have hcut := zql x y k hlt HZ.out
     have HCUT := zvq hcut
     have HLT := zvq hlt
     clear hcut hlt
     rcases hor with h1 | ⟨h1, h2⟩
     all_goals
      go_wp2_with fail
      refine (zk2 ⟨x.toArray⟩ k _ (by show x.length ≤ _; unfold maxLen; omega) (by unfold maxLen; omega)).mono ?_
      rintro e w' ⟨rfl, rfl⟩
      go_wp2_with fail
      refine (zk2 ⟨y.toArray⟩ k _ (by show y.length ≤ _; unfold maxLen; omega) (by unfold maxLen; omega)).mono ?_
      rintro e w' ⟨rfl, rfl⟩
      go_wp2_with fail
      refine (zqt _ _ _).mono ?_
      rintro e w' ⟨rfl, rfl⟩
      simp only
      by_cases h0 : Lib.compareInt (V.wt x k) (V.wt y k) = 0
      ·have HR : Hid (∀ j, j < k + 1 -> Lib.compareInt (V.wt x j) (V.wt y j) = 0) := zvq (fun j hj => by
         by_cases e : j = k
         · subst e; exact h0
         · exact HZ.out j (by omega))
       rw [h0]
       have HL2 := HLT.out
       exact zzc
      ·have HR : Hid (V.ql s.data.toList t.data.toList = Lib.compareInt (V.wt x k) (V.wt y k)) := zvq (by
         rw [HSTEP.out, HCUT.out h0, V.kh h0])
       have hb : (Lib.compareInt (V.wt x k) (V.wt y k) != 0) = true := by simpa using h0
       generalize Lib.compareInt (V.wt x k) (V.wt y k) = c at *
       clear h0
       exact zzw
    ·have HZ0 : Hid (V.wcmp x y = 0) := zvq (zmq x y (fun j hj => HZ.out j (by omega)))
     have h1 : ¬ k < x.length := by omega
     have h2 : ¬ k < y.length := by omega
     clear hlt
     go_wp2_with fail
     refine (zgn ⟨a1.toArray⟩ true _ (by show a1.length ≤ _; unfold maxLen; omega)).mono ?_
     rintro e w3 ⟨rfl, hb3⟩
     simp only [HPA.out]
     go_wp2_with fail
     refine (zgn ⟨b1.toArray⟩ true _ (by show b1.length ≤ _; unfold maxLen; omega)).mono ?_
     rintro e w4 ⟨rfl, hb4⟩
     simp only [HQB.out]
     go_wp2_with fail
     refine (zah ⟨p.toArray⟩ ⟨q.toArray⟩ _).mono ?_
     rintro e w5 ⟨rfl, hb5⟩
     simp only
     have HB5 := zvq (HB2.out.trans ((hb3.trans ((hb4.trans (hb5.mono hb4.size)).mono hb3.size)).mono HB2.out.size))
     clear hb3 hb4 hb5
     by_cases h0 : V.numbers p q = 0
     ·have HR : Hid (V.ql a2 b2 = V.ql s.data.toList t.data.toList) := zvq (by
        rw [HSTEP.out, HZ0.out, h0]; rfl)
      rw [h0]
      clear h0
      go_wp2
      go_roundw
      case rel => exact ⟨⟨a2.toArray⟩, ⟨b2.toArray⟩, rfl, rfl, m5, m6, by simp only ; exact HR.out, HB5.out⟩
      case measure => exact L5.out
     ·exact zyp
theorem texts_at (x y : V.Bs) (w : World) (hx : x.length ≤ 1000) (hy : y.length ≤ 1000) :
  Calls Tryz.prog 239 #[.agg #[], .string ⟨x.toArray⟩, .string ⟨y.toArray⟩] w fun e w' => e = .returned (.int .i64 (V.ql x y)) /\ Below w.heap.size w w' := by
 have h := zum ⟨x.toArray⟩ ⟨y.toArray⟩ w (by show x.length ≤ _; unfold maxLen; omega) (by show y.length ≤ _; unfold maxLen; omega)
 simp only  at h
 exact h
theorem zig {E v a b c : V.Bs} (h : V.jo E v = some (a, b, c)) : a = E /\ b.length ≤ v.length /\ c.length ≤ v.length := by
 unfold V.jo at h
 split at h
 ·split at h
  ·simp at h; obtain ⟨rfl, rfl, rfl⟩ := h; simp
  ·cases h
 ·split at h
  ·split at h
   ·simp at h; obtain ⟨rfl, rfl, rfl⟩ := h; simp; omega
   ·cases h
  ·cases h
theorem zgt {v a b c : V.Bs} (h : V.zr v = some (a, b, c)) : a.length ≤ v.length /\ b.length ≤ v.length /\ c.length ≤ v.length := by
 unfold V.zr at h
 have hl := uh 58 v
 split at h
 ·split at h
  ·have := zig h; obtain ⟨rfl, h1, h2⟩ := this; omega
  ·cases h
 ·have := zig h; obtain ⟨rfl, h1, h2⟩ := this; simp; omega
theorem zkj (s t : ByteArray) (x0 x1 x2 y0 y1 y2 : V.Bs) (w : World) (hm : zg w) (hs : s.size ≤ 1000) (ht : t.size ≤ 1000)
  (hp : V.zr s.data.toList = some (x0, x1, x2)) (hq : V.zr t.data.toList = some (y0, y1, y2)) :
  Calls Tryz.prog 235 #[.agg #[], .string s, .string t] w fun e w' => e = .returned (.int .i64 (V.vk (x0, x1, x2) (y0, y1, y2))) /\ Below w.heap.size w w' := by
 have HF : Hid (V.vk (x0, x1, x2) (y0, y1, y2) = V.orI [V.numbers x0 y0, V.ql x1 y1, V.ql x2 y2]) := rfl
 have hb0 : Below w.heap.size w (w.alloc (.cells #[] 176)) := (zvt _ w).alloc (zvs _) _
 have hm0 := hm.below hb0
 have hlx := zgt hp
 have hly := zgt hq
 rw [zf] at hlx hly
 obtain ⟨lx0, lx1, lx2⟩ := hlx
 obtain ⟨ly0, ly1, ly2⟩ := hly
 have HP := zvq hp
 have HQ := zvq hq
 have HB0 := zvq hb0
 clear hp hq hb0
 go_enter Tryz.func235, Tryz.ntmps235
 go_wp2_with fail
 refine (za8 s _ hm0 hs).mono ?_
 rintro e w1 h
 obtain ⟨rfl, hb1⟩ := zc1 h HP.out
 have hB1 := HB0.out.trans (hb1.mono HB0.out.size)
 have HB1 := zvq hB1
 have hm1 := hm.below hB1
 clear h hb1 hB1
 go_wp2_with fail
 have hbc : Below w1.heap.size w1 (w1.alloc (.cells #[.string ⟨x0.toArray⟩, .string ⟨x1.toArray⟩, .string ⟨x2.toArray⟩] 249)) := (zvt _ _).alloc (zvs _) _
 refine (za8 t _ (hm1.below hbc) ht).mono ?_
 rintro e w2 h
 obtain ⟨rfl, hb2⟩ := zc1 h HQ.out
 have hc2 : ∀ i, w2.cell? ⟨w1.heap.size, i, none⟩ = #[Value.string ⟨x0.toArray⟩, .string ⟨x1.toArray⟩, .string ⟨x2.toArray⟩][i]? := je hb2 (by simp) (fun i => by rw [ze, if_pos rfl])
 have hB2 := hbc.trans (hb2.mono hbc.size)
 have hz2 : w1.heap.size < w2.heap.size := Nat.lt_of_lt_of_le (by simp) hb2.size
 have HB2 := zvr HB1 hB2
 clear h hb2 hbc hB2
 go_wp2_with fail
 obtain ⟨W3, hW3⟩ : ∃ W3, W3 = w2.alloc (.cells #[.string ⟨y0.toArray⟩, .string ⟨y1.toArray⟩, .string ⟨y2.toArray⟩] 249) := ⟨_, rfl⟩
 rw [← hW3]
 have hb3 : Below w2.heap.size w2 W3 := by rw [hW3]; exact (zvt _ _).alloc (zvs _) _
 have e : ∀ i, W3.cell? ⟨w1.heap.size, i, none⟩ = #[Value.string ⟨x0.toArray⟩, .string ⟨x1.toArray⟩, .string ⟨x2.toArray⟩][i]? := je hb3 hz2 hc2
 have g : ∀ i, W3.cell? ⟨w2.heap.size, i, none⟩ = #[Value.string ⟨y0.toArray⟩, .string ⟨y1.toArray⟩, .string ⟨y2.toArray⟩][i]? := fun i => by rw [hW3, ze, if_pos rfl]
 have e0 := e 0
 have e1 := e 1
 have e2 := e 2
 have g0 := g 0
 have g1 := g 1
 have g2 := g 2
 simp at e0 e1 e2 g0 g1 g2
 have HB3 := zvr HB2 hb3
 have hz3 : w2.heap.size < W3.heap.size := by rw [hW3]; simp
 have hz4 : w1.heap.size < W3.heap.size := by omega
 clear hW3 hb3 e g hc2 hm0 hm1 HB1 HB2 HB0
 go_region_held3 (fun W' => (W'.cell? ⟨w1.heap.size, 0, none⟩ = some (.string ⟨x0.toArray⟩) /\ W'.cell? ⟨w1.heap.size, 1, none⟩ = some (.string ⟨x1.toArray⟩) /\ W'.cell? ⟨w1.heap.size, 2, none⟩ = some (.string ⟨x2.toArray⟩) /\
     W'.cell? ⟨w2.heap.size, 0, none⟩ = some (.string ⟨y0.toArray⟩) /\ W'.cell? ⟨w2.heap.size, 1, none⟩ = some (.string ⟨y1.toArray⟩) /\ W'.cell? ⟨w2.heap.size, 2, none⟩ = some (.string ⟨y2.toArray⟩)))
  (first
    | go_keep
    | (go_split_ands
       refine ⟨?_, ?_, ?_, ?_, ?_, ?_⟩ <;> (refine zei hbq ?_; first | assumption | (simp only [World.cell?_drew]; assumption))))
  (first
    | (go_at_call 213; refine (zah _ _ _).mono ?_; rintro e wq ⟨rfl, hbq⟩)
    | (go_at_call 239; refine (texts_at _ _ _ (by omega) (by omega)).mono ?_; rintro e wq ⟨rfl, hbq⟩)
    | (go_at_call 59; refine (zoy _ [V.numbers x0 y0, V.ql x1 y1, V.ql x2 y2] _ (by simp) (zk5 _ _ _ _ _)).mono ?_; rintro e wq ⟨rfl, rfl⟩))
 rename_i wa hba wb hbb hS
 have hbx : Below W3.heap.size W3 wq := ((zvt W3.heap.size W3).drew).trans (Below.trans (show Below W3.heap.size W3.drew wa from hba) ((hbb.trans (hbq.mono hbb.size)).mono hba.size))
 have HB4 := zvr HB3 hbx
 clear e0 e1 e2 g0 g1 g2 hba hbb hbq hbx hS HB3 hz2 hz3 hz4
 go_wp2
 go_ret
 exact ⟨zn HF.out.symm, HB4.out.alloc HB4.out.size _⟩
end Go.Proofs.YtiloljoancdcbaaGreatDoor
