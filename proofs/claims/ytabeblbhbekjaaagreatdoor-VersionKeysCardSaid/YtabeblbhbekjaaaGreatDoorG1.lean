/-
  Walks: the keys of semantic and dotted versions.
-/
import Derived.Test.YtabeblbhbekjaaaGreatDoorC2
import Derived.Test.YtabeblbhbekjaaaGreatDoorD4
import Derived.Test.YtabeblbhbekjaaaGreatDoorY1
import Derived.Test.YtabeblbhbekjaaaGreatDoorP5
import Derived.Test.YtabeblbhbekjaaaGreatDoorSL
namespace Go.Proofs.YtabeblbhbekjaaaGreatDoor
open Go.RowKit

theorem numberKey_at (x : V.Bs) (w : World) (hx : x.length ≤ 200) :
    Calls Tryz.prog 100 #[.string ⟨x.toArray⟩] w fun e w' => e = .returned (.string ⟨(V.nk x).toArray⟩) ∧ Below w.heap.size w w' := by
  have h := numberKey_any ⟨x.toArray⟩ w (by show x.length < _; omega)
  simp only [arr_list] at h
  exact h

theorem cat_bs (a b : V.Bs) : (ByteArray.mk a.toArray ++ ByteArray.mk b.toArray) = ByteArray.mk (a ++ b).toArray := bs_ext (by simp)

theorem dotAll_snoc {l : List V.Bs} {k : Nat} (h : k < l.length) : V.dotAll (l.take (k + 1)) = V.dotAll (l.take k) ++ (1 :: V.nk (l.getD k [])) := by
  rw [List.take_succ_eq_append_getElem h, getD_of h]
  unfold V.dotAll
  rw [List.map_append, List.flatten_append]
  simp

theorem preAll_snoc {l : List V.Bs} {k : Nat} (h : k < l.length) : V.preAll (l.take (k + 1)) = V.preAll (l.take k) ++ V.preEl (l.getD k []) := by
  rw [List.take_succ_eq_append_getElem h, getD_of h]
  unfold V.preAll
  rw [List.map_append, List.flatten_append]
  simp

theorem nk_len (x : V.Bs) : (V.nk x).length ≤ x.length + 1 := by have := V.value_len x; unfold V.nk; simpa using this
theorem flat_len {f : V.Bs → V.Bs} {m : Nat} (hf : ∀ x : V.Bs, x.length ≤ 64 → (f x).length ≤ m) : ∀ l : List V.Bs, (∀ x ∈ l, x.length ≤ 64) → (l.map f).flatten.length ≤ m * l.length
  | [], _ => by simp
  | a :: l, h => by
    have h1 := hf a (h a (by simp))
    have h2 := flat_len hf l (fun x hx => h x (by simp [hx]))
    simp only [List.map_cons, List.flatten_cons, List.length_append, List.length_cons, Nat.mul_add]
    omega
theorem dotAll_len (l : List V.Bs) (h : ∀ x ∈ l, x.length ≤ 64) : (V.dotAll l).length ≤ 66 * l.length :=
  flat_len (fun x hx => by have := nk_len x; simp; omega) l h
theorem preAll_len (l : List V.Bs) (h : ∀ x ∈ l, x.length ≤ 64) : (V.preAll l).length ≤ 67 * l.length :=
  flat_len (fun x hx => by have := nk_len x; unfold V.preEl; split <;> simp <;> omega) l h

set_option maxRecDepth 100000 in
set_option maxHeartbeats 1600000 in
theorem dotKey_any (s : ByteArray) (w : World) (hm : MaxOk w) (hs : s.size ≤ 64) :
    Calls Tryz.prog 136 #[.agg #[], .string s] w fun e w' => e = .returned (.string ⟨(V.dotKey (V.dotParse s.data.toList)).toArray⟩) ∧ Below w.heap.size w w' := by
  have hb0 : Below w.heap.size w (w.alloc (.cells #[] 65)) := (Below.refl _ w).alloc (Nat.le_refl _) _
  have hm0 := hm.below hb0
  have HB0 := Lib.hid hb0
  have HLEN : Hid (∀ x ∈ V.dotParse s.data.toList, x.length ≤ 64) := Lib.hid (fun x hx => by have := V.dotParse_len hx; rw [bs_size] at this; omega)
  obtain ⟨L, hL⟩ : ∃ L, V.dotParse s.data.toList = L := ⟨_, rfl⟩
  have hll : L.length ≤ 65 := by
    have h1 := stripEnd_len (V.splitOn 46 s.data.toList)
    have h2 := splitOn_le 46 s.data.toList
    rw [bs_size] at h2
    rw [← hL]; unfold V.dotParse; omega
  rw [hL] at HLEN ⊢
  have HL := Lib.hid hL
  clear hb0 hL
  go_enter Tryz.func136, Tryz.ntmps136
  go_wp2_with fail
  refine (dotParse_any s _ hm0 (by omega)).mono ?_
  rintro e w1 ⟨v, rfl, hv, hb1⟩
  rw [HL.out] at hv
  have HV := Lib.hid hv
  obtain ⟨va, vc, rfl⟩ := hv.slice
  have HB1 := Lib.hid (HB0.out.trans (hb1.mono HB0.out.size))
  clear hv hb1 hm0
  go_wp2
  go_loopw [5, 12] (fun o i wr => ∃ k : Nat, k ≤ L.length ∧ i = .int .i64 k ∧ o = .string ⟨(V.dotAll (L.take k)).toArray⟩ ∧ Below w1.heap.size w1 wr) (fun _ i _ => L.length - (intOf i).toNat)
  case atStart => exact ⟨0, Nat.zero_le _, rfl, rfl, Below.refl _ _⟩
  case round =>
    obtain ⟨k, hk, rfl, rfl, hB⟩ := hrel
    have HB := Lib.hid hB
    clear hB
    by_cases hlt : k < L.length
    · obtain ⟨b, off, rfl, hb, hc0⟩ := HV.out.at k hlt
      have hc := (HB.out.cell (p := ⟨b, off + k, none⟩) hb).trans hc0
      have hx : (L.getD k []).length ≤ 64 := HLEN.out _ (by rw [getD_of hlt]; exact List.getElem_mem hlt)
      have HSN := Lib.hid (dotAll_snoc hlt)
      have hal := dotAll_len (L.take k) (fun x hx => HLEN.out x ((List.take_sublist k L).subset hx))
      have hnl := nk_len (L.getD k [])
      rw [List.length_take] at hal
      have hal2 : (V.dotAll (L.take k)).length ≤ 66 * 65 := by omega
      clear hc0 hal
      generalize L.getD k [] = x at *
      generalize V.dotAll (L.take k) = acc at *
      go_wp2_with fail
      refine (numberKey_at x _ (by omega)).mono ?_
      rintro e w2 ⟨rfl, hb2⟩
      have HB2 := Lib.hid (HB.out.trans (hb2.mono HB.out.size))
      clear hb2 hc
      go_wp2
      go_roundw
      case rel => exact ⟨k + 1, by omega, by go_num, congrArg Value.string (by rw [HSN.out]; exact bs_ext (by simp)), HB2.out⟩
      case measure => simp [intOf]; omega
    · have HT : Hid (L.take k = L) := Lib.hid (List.take_of_length_le (by omega))
      have hal := dotAll_len L HLEN.out
      have hal2 : (V.dotAll L).length ≤ 66 * 65 := by omega
      clear hal
      rw [HT.out]
      generalize hacc : V.dotAll L = acc at *
      have HACC := Lib.hid hacc
      clear hacc
      go_wp2
      go_ret
      exact ⟨ret_str (bs_ext (by rw [V.dotKey, HACC.out]; simp)), HB1.out.trans (HB.out.mono HB1.out.size)⟩
theorem semParse_short {s : ByteArray} {la pa : List V.Bs} (hs : s.size ≤ 64) (hp : V.semParse s.data.toList = some (la, pa)) : (∀ j, (la.getD j []).length ≤ 64) ∧ (∀ j, (pa.getD j []).length ≤ 64) ∧ pa.length ≤ 65 := by
  have fa := V.semParse_facts hp
  have na := (semParse_pre hp).1
  rw [bs_size] at fa na
  exact ⟨fun j => by have := V.getD_le fa.1 j; omega, fun j => by have := V.getD_le (fun x hx => (fa.2 x hx).1) j; omega, by omega⟩

set_option maxRecDepth 100000 in
set_option maxHeartbeats 3200000 in
theorem semKey_any (s : ByteArray) (la pa : List V.Bs) (w : World) (hm : MaxOk w) (hs : s.size ≤ 64) (hp : V.semParse s.data.toList = some (la, pa)) :
    Calls Tryz.prog 92 #[.agg #[], .string s] w fun e w' => e = .returned (.string ⟨(V.semKey (la, pa)).toArray⟩) ∧ Below w.heap.size w w' := by
  obtain ⟨g0, g1, hpl⟩ := semParse_short hs hp
  have hb0 : Below w.heap.size w (w.alloc (.cells #[] 63)) := (Below.refl _ w).alloc (Nat.le_refl _) _
  have hm0 := hm.below hb0
  have HG0 := Lib.hid g0
  have HG1 := Lib.hid g1
  have HP := Lib.hid hp
  have HB0 := Lib.hid hb0
  clear hp hb0 g0 g1
  go_enter Tryz.func92, Tryz.ntmps92
  go_wp2_with fail
  refine (semParse_any s _ hm0 (by omega)).mono ?_
  rintro e w1 h
  obtain ⟨x0, hx0⟩ : ∃ x, la.getD 0 [] = x := ⟨_, rfl⟩
  obtain ⟨x1, hx1⟩ : ∃ x, la.getD 1 [] = x := ⟨_, rfl⟩
  obtain ⟨x2, hx2⟩ : ∃ x, la.getD 2 [] = x := ⟨_, rfl⟩
  obtain ⟨a, cap, rfl, hsa, hb1⟩ := semPost_at h HP.out hx0 hx1 hx2
  have l0 : x0.length ≤ 64 := by rw [← hx0]; exact HG0.out 0
  have l1 : x1.length ≤ 64 := by rw [← hx1]; exact HG0.out 1
  have l2 : x2.length ≤ 64 := by rw [← hx2]; exact HG0.out 2
  have HK : Hid (V.semKey (la, pa) = V.nk x0 ++ (V.nk x1 ++ (V.nk x2 ++ V.preKey pa))) := Lib.hid (by unfold V.semKey; simp only [hx0, hx1, hx2])
  have HB1 := Lib.hid (HB0.out.trans (hb1.mono HB0.out.size))
  have HSA := Lib.hid hsa
  clear h hb1 hsa hx0 hx1 hx2 hm0
  go_wp2
  obtain ⟨W3, hW3⟩ : ∃ W3, W3 = w1.alloc (.cells #[.string ⟨x0.toArray⟩, .string ⟨x1.toArray⟩, .string ⟨x2.toArray⟩, .slice a pa.length cap] 108) := ⟨_, rfl⟩
  rw [← hW3]
  have hb3 : Below w1.heap.size w1 W3 := by rw [hW3]; exact (Below.refl _ _).alloc (Nat.le_refl _) _
  have e : ∀ i, W3.cell? ⟨w1.heap.size, i, none⟩ = #[Value.string ⟨x0.toArray⟩, .string ⟨x1.toArray⟩, .string ⟨x2.toArray⟩, .slice a pa.length cap][i]? := fun i => by rw [hW3, cell_alloc, if_pos rfl]
  have e0 := e 0
  have e1 := e 1
  have e2 := e 2
  have e3 := e 3
  simp at e0 e1 e2 e3
  have HSA3 := Lib.hid (HSA.out.below hb3)
  have HB3 := Lib.hid (HB1.out.trans (hb3.mono HB1.out.size))
  have hz3 : w1.heap.size < W3.heap.size := by rw [hW3]; simp
  have q0 := nk_len x0
  have q1 := nk_len x1
  have q2 := nk_len x2
  have s1 : ¬ (9223372036854775807 < (V.nk x0).length + (V.nk x1).length) := by omega
  have s2 : ¬ (9223372036854775807 < (V.nk x0).length + (V.nk x1).length + (V.nk x2).length) := by omega
  clear hW3 hb3 e HSA HB1 HB0 q0 q1 q2
  go_region_held3 (fun W' => (W'.cell? ⟨w1.heap.size, 0, none⟩ = some (.string ⟨x0.toArray⟩) ∧ W'.cell? ⟨w1.heap.size, 1, none⟩ = some (.string ⟨x1.toArray⟩) ∧ W'.cell? ⟨w1.heap.size, 2, none⟩ = some (.string ⟨x2.toArray⟩)))
    (first
      | go_keep
      | (go_split_ands
         refine ⟨?_, ?_, ?_⟩ <;> (refine keep_cell hbq ?_; first | assumption | (simp only [World.cell?_drew]; assumption))))
    (first
      | (go_at_call 100; refine (numberKey_at _ _ (by first | exact Nat.le_trans l0 (by decide) | exact Nat.le_trans l1 (by decide) | exact Nat.le_trans l2 (by decide))).mono ?_; rintro e wq ⟨rfl, hbq⟩))
  rename_i wa hba wb hbb hS
  have hbx : Below W3.heap.size W3 wq := ((Below.refl W3.heap.size W3).drew).trans (Below.trans (show Below W3.heap.size W3.drew wa from hba) ((hbb.trans (hbq.mono hbb.size)).mono hba.size))
  have k3 := keep_cell hbx e3
  have HSA4 := Lib.hid (HSA3.out.below hbx)
  have HB4 := Lib.hid (HB3.out.trans (hbx.mono HB3.out.size))
  have q0 := nk_len x0
  have q1 := nk_len x1
  have q2 := nk_len x2
  clear hba hbb hbq hbx e0 e1 e2 e3 HSA3 HB3 s1 s2 hS
  rw [cat_bs, cat_bs]
  obtain ⟨hd, hhd⟩ : ∃ hd, V.nk x0 ++ V.nk x1 ++ V.nk x2 = hd := ⟨_, rfl⟩
  have hdl : hd.length ≤ 300 := by rw [← hhd]; simp only [List.length_append]; omega
  have HK2 : Hid (V.semKey (la, pa) = hd ++ V.preKey pa) := Lib.hid (by rw [HK.out, ← hhd]; simp)
  rw [hhd]
  clear hhd q0 q1 q2
  by_cases hpz : pa.length = 0
  · have HK3 : Hid (V.semKey (la, pa) = hd ++ [3]) := Lib.hid (by rw [HK2.out, List.eq_nil_of_length_eq_zero hpz]; rfl)
    have hbo : ((pa.length : Int) == 0) = true := by rw [hpz]; rfl
    clear hpz
    go_wp2
    go_ret
    exact ⟨ret_str (bs_ext (by rw [HK3.out]; simp)), HB4.out⟩
  · have HK3 : Hid (V.semKey (la, pa) = hd ++ (V.preAll pa ++ [0])) := Lib.hid (by
      rw [HK2.out]; unfold V.preKey; rw [if_neg]
      intro h; rw [List.isEmpty_iff] at h; rw [h] at hpz; simp at hpz)
    have hbo : ((pa.length : Int) == 0) = false := by rw [beq_eq_false_iff_ne]; omega
    clear hpz HK HK2
    obtain ⟨wo, rfl⟩ : ∃ wo : World, wo = wq := ⟨_, rfl⟩
    go_wp2
    go_loopw [7, 39] (fun o i wr => ∃ k : Nat, k ≤ pa.length ∧ i = .int .i64 k ∧ o = .string ⟨(hd ++ V.preAll (pa.take k)).toArray⟩ ∧ Below wo.heap.size wo wr) (fun _ i _ => pa.length - (intOf i).toNat)
    case atStart => exact ⟨0, Nat.zero_le _, rfl, by simp [V.preAll], Below.refl _ _⟩
    case round =>
      obtain ⟨k, hk, rfl, rfl, hB⟩ := hrel
      have HB := Lib.hid hB
      clear hB
      have hal := preAll_len (pa.take k) (fun x hx => by
        obtain ⟨j, hj⟩ := List.getElem?_of_mem ((List.take_sublist k pa).subset hx)
        have := HG1.out j
        rw [List.getD_eq_getElem?_getD, hj] at this; exact this)
      rw [List.length_take] at hal
      have hal2 : (V.preAll (pa.take k)).length ≤ 67 * 65 := by omega
      clear hal
      by_cases hlt : k < pa.length
      · obtain ⟨b, off, rfl, hb, hc0⟩ := HSA4.out.at k hlt
        have hc := (HB.out.cell (p := ⟨b, off + k, none⟩) hb).trans hc0
        have hx := HG1.out k
        have HSN := Lib.hid (preAll_snoc hlt)
        have hnl := nk_len (pa.getD k [])
        clear hc0
        generalize pa.getD k [] = x at *
        generalize V.preAll (pa.take k) = acc at *
        have hal3 : (hd ++ acc).length ≤ 5000 := by rw [List.length_append]; omega
        have HE : Hid (V.preEl x = if V.digits x then 1 :: V.nk x else 2 :: (x ++ [0])) := rfl
        clear hal2
        obtain ⟨ha, hha⟩ : ∃ ha, hd ++ acc = ha := ⟨_, rfl⟩
        have HHA := Lib.hid hha
        rw [hha] at hal3 ⊢
        clear hha
        rcases hd1 : V.digits x with _ | _
        all_goals
          rw [hd1] at HE
          have HD := Lib.hid hd1
          clear hd1
          go_wp2_with fail
          refine (only_digit ⟨x.toArray⟩ _ (by show x.length ≤ _; unfold maxLen; omega)).mono ?_
          rintro e w' ⟨rfl, rfl⟩
          simp only [arr_list, HD.out]
        · have HV : Hid (hd ++ V.preAll (pa.take (k + 1)) = ha ++ (2 :: (x ++ [0]))) := Lib.hid (by rw [HSN.out, ← List.append_assoc, HHA.out, HE.out]; rfl)
          go_wp2
          go_roundw
          case rel => exact ⟨k + 1, by omega, by go_num, congrArg Value.string (by rw [HV.out]; exact bs_ext (by simp)), HB.out⟩
          case measure => simp [intOf]; omega
        · have HV : Hid (hd ++ V.preAll (pa.take (k + 1)) = ha ++ (1 :: V.nk x)) := Lib.hid (by rw [HSN.out, ← List.append_assoc, HHA.out, HE.out]; rfl)
          go_wp2_with fail
          refine (numberKey_at x _ (by omega)).mono ?_
          rintro e w2 ⟨rfl, hb2⟩
          have HB2 := Lib.hid (HB.out.trans (hb2.mono HB.out.size))
          clear hb2 hc
          go_wp2
          go_roundw
          case rel => exact ⟨k + 1, by omega, by go_num, congrArg Value.string (by rw [HV.out]; exact bs_ext (by simp)), HB2.out⟩
          case measure => simp [intOf]; omega
      · have HT : Hid (pa.take k = pa) := Lib.hid (List.take_of_length_le (by omega))
        rw [HT.out] at hal2 ⊢
        have hal3 : (hd ++ V.preAll pa).length ≤ 5000 := by rw [List.length_append]; omega
        have HK4 : Hid (V.semKey (la, pa) = (hd ++ V.preAll pa) ++ [0]) := Lib.hid (by rw [HK3.out, List.append_assoc])
        generalize hd ++ V.preAll pa = acc at *
        clear hal2
        go_wp2
        go_ret
        exact ⟨ret_str (bs_ext (by rw [HK4.out]; simp)), HB4.out.trans (HB.out.mono HB4.out.size)⟩
end Go.Proofs.YtabeblbhbekjaaaGreatDoor
