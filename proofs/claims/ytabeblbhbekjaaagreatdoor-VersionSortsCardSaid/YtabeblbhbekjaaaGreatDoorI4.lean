/-
  Walk: the latest of some versions.
-/
import Derived.Test.YtabeblbhbekjaaaGreatDoorI3
namespace Go.Proofs.YtabeblbhbekjaaaGreatDoor
open Go.RowKit

/-- the first of the greatest -/
def bestOf (n : Int) (b : V.Bs) : List V.Bs → V.Bs
  | [] => b
  | v :: r => bestOf n (if V.cmpV n b v < 0 then v else b) r

theorem bestOf_snoc (n : Int) (v : V.Bs) : ∀ (l : List V.Bs) (b : V.Bs), bestOf n b (l ++ [v]) = if V.cmpV n (bestOf n b l) v < 0 then v else bestOf n b l
  | [], b => rfl
  | x :: l, b => bestOf_snoc n v l _

theorem bestOf_mem (n : Int) : ∀ (l : List V.Bs) (b : V.Bs), bestOf n b l = b ∨ bestOf n b l ∈ l
  | [], _ => .inl rfl
  | v :: r, b => by
    unfold bestOf
    split
    · rcases bestOf_mem n r v with h | h
      · rw [h]; exact .inr (by simp)
      · exact .inr (by simp [h])
    · rcases bestOf_mem n r b with h | h
      · exact .inl h
      · exact .inr (by simp [h])

theorem bestOf_valid {n : Int} {l : List V.Bs} {b : V.Bs} (hb : V.valid n b = true) (hl : ∀ x ∈ l, V.valid n x = true) : V.valid n (bestOf n b l) = true := by
  rcases bestOf_mem n l b with h | h
  · rw [h]; exact hb
  · exact hl _ h

theorem bestOf_ge {n : Int} (hn : V.scheme n = true) : ∀ {l : List V.Bs} {b : V.Bs}, V.valid n b = true → (∀ x ∈ l, V.valid n x = true) → V.cmpV n b (bestOf n b l) ≤ 0 ∧ ∀ x ∈ l, V.cmpV n x (bestOf n b l) ≤ 0
  | [], b, hb, _ => ⟨by have := (V.total_law hn hb hb hb).2.1; show V.cmpV n b b ≤ 0; omega, fun x hx => by simp at hx⟩
  | v :: r, b, hb, hl => by
    have hv := hl v (by simp)
    have hr : ∀ x ∈ r, V.valid n x = true := fun x hx => hl x (by simp [hx])
    unfold bestOf
    split
    · rename_i hlt
      have ih := bestOf_ge hn hv hr
      have hbest := bestOf_valid hv hr
      refine ⟨le_trans' hn hb hv hbest (by omega) ih.1, fun x hx => ?_⟩
      rcases List.mem_cons.1 hx with h | h
      · subst h; exact ih.1
      · exact ih.2 x h
    · rename_i hge
      have ih := bestOf_ge hn hb hr
      have hbest := bestOf_valid hb hr
      refine ⟨ih.1, fun x hx => ?_⟩
      rcases List.mem_cons.1 hx with h | h
      · subst h
        have := (V.total_law hn hb hv hv).1
        exact le_trans' hn hv hb hbest (by omega) ih.1
      · exact ih.2 x h

/-- the latest of a list that is not empty -/
def latestOf (n : Int) (L : List V.Bs) : V.Bs := bestOf n (L.getD 0 []) (L.drop 1)

set_option maxRecDepth 100000 in
set_option maxHeartbeats 3200000 in
theorem latest_any (n : Int) (b off cap : Nat) (L : List V.Bs) (w : World) (hm : MaxOk w) (hn : V.scheme n = true) (hv : Strs w (.slice (some ⟨b, off, none⟩) L.length cap) L) (h0 : 0 < L.length) (hl : L.length ≤ cap) (hcap : cap ≤ maxLen) (hval : ∀ x ∈ L, V.valid n x = true) :
    Calls Tryz.prog 16 #[.int .i64 n, .slice (some ⟨b, off, none⟩) L.length cap] w fun e w' => e = .returned (.tuple #[.string ⟨(latestOf n L).toArray⟩, .int .i64 0]) ∧ Below w.heap.size w w' := by
  have hall : L.all (V.valid n) = true := by rw [List.all_eq_true]; exact hval
  have hck := check_any n _ L w hm hv (by omega) (fun x hx => by have := V.valid_short (hval x hx); unfold maxLen; omega)
  have hcells : ∀ j, j < L.length → w.cell? ⟨b, off + j, none⟩ = some (.string ⟨(L.getD j []).toArray⟩) := fun j hj => by
    obtain ⟨b', off', e, _, hc⟩ := hv.at j hj
    cases e; exact hc
  have hb : b < w.heap.size := World.block_lt_of_cell? _ _ (hcells 0 h0)
  unfold maxLen at hcap
  have HCK := Lib.hid hck
  have HM := Lib.hid hm
  have HN := Lib.hid hn
  have HV := Lib.hid hval
  have HC := Lib.hid hcells
  have HA := Lib.hid hall
  clear hck hm hn hval hcells hall hv
  go_enter Tryz.func16, Tryz.ntmps16
  go_wp2_with fail
  refine HCK.out.mono ?_
  rintro e w1 ⟨hb1, hpost⟩
  rw [if_neg (by rw [HN.out]; decide), if_neg (by rw [HA.out]; decide)] at hpost
  obtain ⟨T, ⟨K, hmeth, henter, hK⟩, rfl⟩ := hpost
  have HK := Lib.hid hK
  have HB1 := Lib.hid hb1
  have HM1 := Lib.hid (HM.out.below hb1)
  have hbo : ((L.length : Int) == 0) = false := by rw [beq_eq_false_iff_ne]; omega
  have hc0 := (hb1.cell (p := ⟨b, off + 0, none⟩) hb).trans (HC.out 0 h0)
  rw [Nat.add_zero] at hc0
  have HX := Lib.hid (show latestOf n L = bestOf n (L.getD 0 []) (L.drop 1) from rfl)
  have hvx := HV.out (L.getD 0 []) (by rw [getD_of h0]; exact List.getElem_mem _)
  have HVX := Lib.hid hvx
  clear hb1 hK hvx
  generalize hx : L.getD 0 [] = x at *
  have HX0 := Lib.hid hx
  clear hx
  unfold cmpVal
  by_cases hc1 : cap = 1
  · have hll : L.length = 1 := by omega
    have HR : Hid (latestOf n L = x) := Lib.hid (by rw [HX.out, List.drop_of_length_le (by omega)]; rfl)
    go_wp2
    go_loop [8, 29] (fun v i => v = .string ⟨x.toArray⟩ ∧ i = .int .i64 0) (fun _ _ => 0)
    case atStart => exact ⟨rfl, rfl⟩
    case round =>
      obtain ⟨rfl, rfl⟩ := hrel
      go_wp2
      go_ret2
      exact ⟨by rw [HR.out]; rfl, HB1.out⟩
  · go_wp2
    go_loopw [8, 29] (fun v i wr => ∃ k : Nat, k < L.length ∧ i = .int .i64 k ∧ v = .string ⟨(bestOf n x ((L.drop 1).take k)).toArray⟩ ∧ Below w1.heap.size w1 wr) (fun _ i _ => L.length - (intOf i).toNat)
    case atStart => exact ⟨0, h0, rfl, rfl, Below.refl _ _⟩
    case round =>
      obtain ⟨k, hk, rfl, rfl, hB⟩ := hrel
      have HB := Lib.hid hB
      have HBW := Lib.hid (HB1.out.trans (hB.mono HB1.out.size))
      clear hB
      by_cases hlt : k < L.length - 1
      · have hc := (HBW.out.cell (p := ⟨b, off + (k + 1), none⟩) hb).trans (HC.out (k + 1) (by omega))
        have hc' : wr.cell? ⟨b, off + 1 + k, none⟩ = some (.string ⟨(L.getD (k + 1) []).toArray⟩) := by rw [show off + 1 + k = off + (k + 1) by omega]; exact hc
        have hdl : k < (L.drop 1).length := by rw [List.length_drop]; omega
        have hge : (L.drop 1).getD k [] = L.getD (k + 1) [] := by simp [List.getD_eq_getElem?_getD, List.getElem?_drop, Nat.add_comm]
        have HSN : Hid (bestOf n x ((L.drop 1).take (k + 1)) = if V.cmpV n (bestOf n x ((L.drop 1).take k)) (L.getD (k + 1) []) < 0 then L.getD (k + 1) [] else bestOf n x ((L.drop 1).take k)) := Lib.hid (by
          rw [List.take_succ_eq_append_getElem hdl, bestOf_snoc, ← hge, getD_of hdl])
        have HVY : Hid (V.valid n (L.getD (k + 1) []) = true) := Lib.hid (HV.out _ (by rw [getD_of (by omega)]; exact List.getElem_mem _))
        have HVB : Hid (V.valid n (bestOf n x ((L.drop 1).take k)) = true) := Lib.hid (bestOf_valid HVX.out (fun y hy => HV.out y ((List.drop_sublist 1 L).subset ((List.take_sublist k _).subset hy))))
        have hi1 : (0 : Int) ≤ (k : Int) := by omega
        have hi2 : (k : Int) < (L.length : Int) - 1 := by omega
        clear hc hdl hge
        generalize L.getD (k + 1) [] = y at *
        generalize bestOf n x ((L.drop 1).take k) = z at *
        obtain ⟨c, hcc⟩ : ∃ c, V.cmpV n z y = c := ⟨_, rfl⟩
        have HCC := Lib.hid hcc
        rw [hcc] at HSN
        clear hcc
        go_wp2_with fail
        refine (HK.out z y _ HVB.out HVY.out (HM.out.below HBW.out)).mono ?_
        rintro e w3 ⟨rfl, hb3⟩
        have HB3 := Lib.hid (HB.out.trans (hb3.mono HB.out.size))
        rw [HCC.out]
        clear hb3
        by_cases hcn : c < 0
        · rw [if_pos hcn] at HSN
          go_wp2
          go_roundw
          case rel => exact ⟨k + 1, by omega, by go_num, by rw [HSN.out], HB3.out⟩
          case measure => simp [intOf]; omega
        · rw [if_neg hcn] at HSN
          go_wp2
          go_roundw
          case rel => exact ⟨k + 1, by omega, by go_num, by rw [HSN.out], HB3.out⟩
          case measure => simp [intOf]; omega
      · have HR : Hid (latestOf n L = bestOf n x ((L.drop 1).take k)) := Lib.hid (by rw [HX.out, List.take_of_length_le (by rw [List.length_drop]; omega)])
        go_wp2
        go_ret2
        exact ⟨by rw [HR.out]; rfl, HBW.out⟩
end Go.Proofs.YtabeblbhbekjaaaGreatDoor
