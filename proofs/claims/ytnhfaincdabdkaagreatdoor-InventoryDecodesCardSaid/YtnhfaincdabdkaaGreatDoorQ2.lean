/-
  Walks: the reference of layer 6, semantic versions.
  Walk: the reference's Path.
-/
import Derived.Test.YtnhfaincdabdkaaGreatDoorR3
import Derived.Test.YtnhfaincdabdkaaGreatDoorP3
import Derived.Test.YtnhfaincdabdkaaGreatDoorL2
import Derived.Deep.DeepCutAuto
import Derived.BigRegion
import Derived.OwnWalk
namespace Go.Proofs.YtnhfaincdabdkaaGreatDoor
open Go.RowKit

def RSem (r : Option (List V.Bs × List V.Bs)) (w : World) (e : Ending) (w' : World) : Prop :=
  Below w.heap.size w w' ∧ match r with
  | none => e = .returned (.tuple #[.slice none 0 0, .slice none 0 0, .bool false])
  | some (l, ids) => ∃ v u, e = .returned (.tuple #[v, u, .bool true]) ∧ Strs w' v l ∧ Strs w' u ids

theorem identOk_false (x : V.Bs) : V.identOk false x = V.only (V.kind [45]) x := by
  unfold V.identOk V.numb
  rcases V.digits x with _ | _ <;> simp

/-- the cells of a split list, as a loop reads them -/
theorem split_cells {w w4 : World} {l : List V.Bs} {t : Nat} (h : w4 = w.alloc (.cells (strCells l) t)) (j : Nat) (hj : j < l.length) : w4.cell? ⟨w.heap.size, j, none⟩ = some (.string ⟨l[j].toArray⟩) := by
  rw [h, World.cell?_alloc_new, strCells_at l j hj]

theorem all_no {α : Type} {l : List α} {p : α → Bool} {k : Nat} (h : k < l.length) (hp : p l[k] = false) : l.all p = false := by
  rw [List.all_eq_false]
  exact ⟨l[k], List.getElem_mem h, by simp [hp]⟩

theorem all_take' {α : Type} {l : List α} {p : α → Bool} {k : Nat} (h : k < l.length) : (l.take (k + 1)).all p = ((l.take k).all p && p l[k]) := by
  rw [List.take_succ_eq_append_getElem h, List.all_append]; simp

set_option maxRecDepth 100000 in
set_option maxHeartbeats 3200000 in
theorem rsemver_any (s : ByteArray) (w : World) (hm : MaxOk w) (hs : s.size ≤ 1000) :
    Calls Tryz.prog 156 #[.string s] w (RSem (V.semParse s.data.toList) w) := by
  obtain ⟨v1, bu, B, hx1⟩ : ∃ a b c, V.cut1 43 s.data.toList = (a, b, c) := ⟨_, _, _, rfl⟩
  obtain ⟨v2, pr, E, hx2⟩ : ∃ a b c, V.cut1 45 v1 = (a, b, c) := ⟨_, _, _, rfl⟩
  obtain ⟨L, hL⟩ : ∃ L, V.splitOn 46 v2 = L := ⟨_, rfl⟩
  have HP : Hid (V.semParse s.data.toList = if (B && !V.identifiers bu false) || (E && !V.identifiers pr true) || L.length != 3 then none else if L.all (fun x => V.numb x true) then some (L, if E then V.splitOn 46 pr else []) else none) := Lib.hid (by
    unfold V.semParse
    rw [hx1]
    simp only
    rw [hx2]
    simp only
    rw [hL])
  have hl1 : v1.length ≤ s.size ∧ bu.length ≤ s.size := by
    have := cut1_len 43 s.data.toList
    rw [hx1, bs_size] at this
    exact this
  have hl2 : v2.length ≤ v1.length ∧ pr.length ≤ v1.length := by
    have := cut1_len 45 v1
    rw [hx2] at this
    exact this
  have hl3 : L.length ≤ v2.length + 1 := by rw [← hL]; exact splitOn_le 46 v2
  have hl4 : Hid (∀ x ∈ L, x.length ≤ v2.length) := Lib.hid (fun x hx => splitOn_mem 46 v2 x (by rw [hL]; exact hx))
  obtain ⟨hl1, hl1'⟩ := hl1
  obtain ⟨hl2, hl2'⟩ := hl2
  have HX1 := Lib.hid hx1
  have HX2 := Lib.hid hx2
  have HL := Lib.hid hL
  have HM := Lib.hid hm
  clear hx1 hx2 hL hm
  go_enter Tryz.func156, Tryz.ntmps156
  go_wp2_with fail
  refine (cut_any s 43 _ HM.out (by omega)).mono ?_
  rintro e w1 ⟨rfl, hb1⟩
  simp only [HX1.out]
  have HB1 := Lib.hid hb1
  clear hb1
  go_upto_if 22 with (fail)
  go_cut [8] (fun _ wx => Below w.heap.size w wx ∧ (B = true → V.identifiers bu false = true))
  case first =>
    cases B with
    | false =>
      go_wp2
      go_meet
      exact ⟨HB1.out, fun e => by cases e⟩
    | true =>
      go_wp2_with fail
      refine (split_any ⟨bu.toArray⟩ 46 _ (HM.out.below HB1.out) (by show bu.length < _; omega)).mono ?_
      rintro e w4 ⟨rfl, hw4⟩
      simp only  at hw4 ⊢
      have hi : V.identifiers bu false = (V.splitOn 46 bu).all (V.identOk false) := rfl
      have hle := splitOn_le 46 bu
      have hmem := Lib.hid (splitOn_mem 46 bu)
      obtain ⟨L0, hL0⟩ : ∃ L0, V.splitOn 46 bu = L0 := ⟨_, rfl⟩
      rw [hL0] at hw4 hi hle hmem ⊢
      have hcs := Lib.hid (split_cells hw4)
      have HB4 : Hid (Below w.heap.size w w4) := Lib.hid (by rw [hw4]; exact HB1.out.alloc HB1.out.size _)
      have HI := Lib.hid hi
      clear hw4 hi hL0
      go_wp2
      go_loop [9] (fun i => ∃ k : Nat, k ≤ L0.length ∧ i = .int .i64 k ∧ (L0.take k).all (V.identOk false) = true) (fun i => L0.length - (intOf i).toNat)
      case atStart => exact ⟨0, Nat.zero_le _, rfl, rfl⟩
      case round =>
        obtain ⟨k, hk, rfl, hp⟩ := hrel
        have HQ := Lib.hid hp
        clear hp
        by_cases hlt : k < L0.length
        · have hc := hcs.out k hlt
          have hsz : L0[k].length ≤ bu.length := hmem.out _ (List.getElem_mem hlt)
          have HT := Lib.hid (all_take' (p := V.identOk false) hlt)
          rcases hpk : V.only (V.kind [45]) L0[k] with _ | _
          all_goals
            have HPK := Lib.hid hpk
            clear hpk
            go_wp2_with fail
            refine (rmade_any ⟨L0[k].toArray⟩ ⟨#[45]⟩ _ (by show L0[k].length ≤ _; unfold maxLen; omega)).mono ?_
            rintro e w' ⟨rfl, rfl⟩
            simp only [HPK.out]
            go_wp2
          · go_ret3
            have HN : Hid (V.semParse s.data.toList = none) := Lib.hid (by
              rw [HP.out, HI.out, all_no (k := k) hlt (by rw [identOk_false]; exact HPK.out)]; rfl)
            rw [HN.out]
            exact ⟨HB4.out, rfl⟩
          · go_round
            case rel => exact ⟨k + 1, by omega, by go_num, by rw [HT.out, HQ.out, identOk_false]; exact HPK.out⟩
            case measure => simp [intOf]; omega
        · have ht : L0.take k = L0 := List.take_of_length_le (by omega)
          rw [ht] at HQ
          clear ht
          go_wp2
          go_meet
          exact ⟨HB4.out, fun _ => by rw [HI.out]; exact HQ.out⟩
  case rest =>
    obtain ⟨hb2, hids⟩ := hcut
    have HB2 := Lib.hid hb2
    have HIDS := Lib.hid hids
    clear hb2 hids HB1
    obtain ⟨wo, rfl⟩ : ∃ wo : World, wo = wc := ⟨_, rfl⟩
    go_wp2_with fail
    refine (cut_any ⟨v1.toArray⟩ 45 _ (HM.out.below HB2.out) (by show v1.length < _; omega)).mono ?_
    rintro e w3 ⟨rfl, hb3⟩
    simp only [HX2.out]
    have HB3 := Lib.hid (HB2.out.trans (hb3.mono HB2.out.size))
    clear hb3
    go_upto_if 43 with (fail)
    go_cut [13] (fun v wx => ∃ ids : List V.Bs, Strs wx v ids ∧ Below w.heap.size w wx ∧ ids = (if E then V.splitOn 46 pr else []) ∧ (E = true → V.identifiers pr true = true))
    case first =>
      cases E with
      | false =>
        go_wp2
        go_meet
        exact ⟨[], Strs.nil _, HB3.out, rfl, fun e => by cases e⟩
      | true =>
        go_wp2_with fail
        refine (split_any ⟨pr.toArray⟩ 46 _ (HM.out.below HB3.out) (by show pr.length < _; omega)).mono ?_
        rintro e w4 ⟨rfl, hw4⟩
        simp only  at hw4 ⊢
        have hi : V.identifiers pr true = (V.splitOn 46 pr).all (V.identOk true) := rfl
        have hle := splitOn_le 46 pr
        have hmem := Lib.hid (splitOn_mem 46 pr)
        obtain ⟨L0, hL0⟩ : ∃ L0, V.splitOn 46 pr = L0 := ⟨_, rfl⟩
        rw [hL0] at hw4 hi hle hmem ⊢
        have hcs := Lib.hid (split_cells hw4)
        have HB4 : Hid (Below w.heap.size w w4) := Lib.hid (by rw [hw4]; exact HB3.out.alloc HB3.out.size _)
        have HS4 : Hid (Strs w4 (.slice (some ⟨w3.heap.size, 0, none⟩) L0.length L0.length) L0) := Lib.hid (by rw [hw4]; exact Strs.split w3 L0 _)
        have HI := Lib.hid hi
        have HL0 := Lib.hid hL0
        clear hw4 hi hL0
        go_wp2
        go_loop [14] (fun i => ∃ k : Nat, k ≤ L0.length ∧ i = .int .i64 k ∧ (L0.take k).all (V.identOk true) = true) (fun i => L0.length - (intOf i).toNat)
        case atStart => exact ⟨0, Nat.zero_le _, rfl, rfl⟩
        case round =>
          obtain ⟨k, hk, rfl, hp⟩ := hrel
          have HQ := Lib.hid hp
          clear hp
          by_cases hlt : k < L0.length
          · have hc := hcs.out k hlt
            have hsz : L0[k].length ≤ pr.length := hmem.out _ (List.getElem_mem hlt)
            have HT := Lib.hid (all_take' (p := V.identOk true) hlt)
            have HK : Hid (V.identOk true L0[k] = (V.only (V.kind [45]) L0[k] && !(V.digits L0[k] && !V.numb L0[k] true))) := rfl
            rcases hpk : V.only (V.kind [45]) L0[k] with _ | _
            · have HPK := Lib.hid hpk
              rw [hpk] at HK
              clear hpk
              go_wp2_with fail
              refine (rmade_any ⟨L0[k].toArray⟩ ⟨#[45]⟩ _ (by show L0[k].length ≤ _; unfold maxLen; omega)).mono ?_
              rintro e w' ⟨rfl, rfl⟩
              simp only [HPK.out]
              go_wp2
              go_ret3
              have HN : Hid (V.semParse s.data.toList = none) := Lib.hid (by
                rw [HP.out, HI.out, all_no (k := k) hlt (by rw [HK.out]; rfl)]; simp)
              rw [HN.out]
              exact ⟨HB4.out, rfl⟩
            · have HPK := Lib.hid hpk
              rcases hdk : V.digits L0[k] with _ | _
              · have HDK := Lib.hid hdk
                rw [hpk, hdk] at HK
                clear hpk hdk
                go_wp2_with fail
                refine (rmade_any ⟨L0[k].toArray⟩ ⟨#[45]⟩ _ (by show L0[k].length ≤ _; unfold maxLen; omega)).mono ?_
                rintro e w' ⟨rfl, rfl⟩
                simp only [HPK.out]
                go_wp2_with fail
                refine (rdigits_any ⟨L0[k].toArray⟩ _ (by show L0[k].length ≤ _; unfold maxLen; omega)).mono ?_
                rintro e w' ⟨rfl, rfl⟩
                simp only [HDK.out]
                go_wp2
                go_round
                case rel => exact ⟨k + 1, by omega, by go_num, by rw [HT.out, HQ.out, HK.out]; rfl⟩
                case measure => simp [intOf]; omega
              · have HDK := Lib.hid hdk
                rcases hnk : V.numb L0[k] true with _ | _
                all_goals
                  have HNK := Lib.hid hnk
                  rw [hpk, hdk, hnk] at HK
                  clear hpk hdk hnk
                  go_wp2_with fail
                  refine (rmade_any ⟨L0[k].toArray⟩ ⟨#[45]⟩ _ (by show L0[k].length ≤ _; unfold maxLen; omega)).mono ?_
                  rintro e w' ⟨rfl, rfl⟩
                  simp only [HPK.out]
                  go_wp2_with fail
                  refine (rdigits_any ⟨L0[k].toArray⟩ _ (by show L0[k].length ≤ _; unfold maxLen; omega)).mono ?_
                  rintro e w' ⟨rfl, rfl⟩
                  simp only [HDK.out]
                  go_wp2_with fail
                  refine (rnumber_any ⟨L0[k].toArray⟩ _ (by show L0[k].length ≤ _; unfold maxLen; omega)).mono ?_
                  rintro e w' ⟨rfl, rfl⟩
                  simp only [HNK.out]
                  go_wp2
                · go_ret3
                  have HN : Hid (V.semParse s.data.toList = none) := Lib.hid (by
                    rw [HP.out, HI.out, all_no (k := k) hlt (by rw [HK.out]; rfl)]; simp)
                  rw [HN.out]
                  exact ⟨HB4.out, rfl⟩
                · go_round
                  case rel => exact ⟨k + 1, by omega, by go_num, by rw [HT.out, HQ.out, HK.out]; rfl⟩
                  case measure => simp [intOf]; omega
          · have ht : L0.take k = L0 := List.take_of_length_le (by omega)
            rw [ht] at HQ
            clear ht
            go_wp2
            go_meet
            exact ⟨L0, HS4.out, HB4.out, by rw [HL0.out]; simp, fun _ => by rw [HI.out]; exact HQ.out⟩
    case rest =>
      obtain ⟨ids, hst, hb5, hids, hid2⟩ := hcut
      have HST := Lib.hid hst
      have HB5 := Lib.hid hb5
      have HIDL := Lib.hid hids
      have HID2 := Lib.hid hid2
      clear hst hb5 hids hid2 HB3
      go_wp2_with fail
      refine (split_any ⟨v2.toArray⟩ 46 _ (HM.out.below HB5.out) (by show v2.length < _; omega)).mono ?_
      rintro e w6 ⟨rfl, hw6⟩
      simp only [HL.out] at hw6 ⊢
      have hcs := Lib.hid (split_cells hw6)
      have HB6 : Hid (Below w.heap.size w w6) := Lib.hid (by rw [hw6]; exact HB5.out.alloc HB5.out.size _)
      have HS6 : Hid (Strs w6 u13 ids) := Lib.hid (HST.out.below (by rw [hw6]; exact (Below.refl _ _).alloc (Nat.le_refl _) _))
      have HSL : Hid (Strs w6 (.slice (some ⟨wc.heap.size, 0, none⟩) L.length L.length) L) := Lib.hid (by rw [hw6]; exact Strs.split wc L _)
      have HQ : Hid (V.semParse s.data.toList = if L.length != 3 then none else if L.all (fun x => V.numb x true) then some (L, ids) else none) := Lib.hid (by
        rw [HP.out, HIDL.out]
        have e1 : (B && !V.identifiers bu false) = false := by
          cases B with
          | false => rfl
          | true => rw [HIDS.out rfl]; rfl
        have e2 : (E && !V.identifiers pr true) = false := by
          cases E with
          | false => rfl
          | true => rw [HID2.out rfl]; rfl
        rw [e1, e2]; rfl)
      clear hw6
      by_cases hlen : L.length = 3
      · obtain ⟨x, y, z, rfl⟩ : ∃ x y z, L = [x, y, z] := by
          match L, hlen with
          | [x, y, z], _ => exact ⟨x, y, z, rfl⟩
        have cx : w6.cell? ⟨wc.heap.size, 0, none⟩ = some (.string ⟨x.toArray⟩) := hcs.out 0 (by simp)
        have cy : w6.cell? ⟨wc.heap.size, 1, none⟩ = some (.string ⟨y.toArray⟩) := hcs.out 1 (by simp)
        have cz : w6.cell? ⟨wc.heap.size, 2, none⟩ = some (.string ⟨z.toArray⟩) := hcs.out 2 (by simp)
        have lx := hl4.out x (by simp)
        have ly := hl4.out y (by simp)
        have lz := hl4.out z (by simp)
        simp only [List.length_cons, List.length_nil, Nat.reduceAdd] at HSL ⊢
        rcases hx : V.numb x true with _ | _
        · have HX := Lib.hid hx
          clear hx
          go_wp2_with fail
          refine (rnumber_any ⟨x.toArray⟩ _ (by show x.length ≤ _; unfold maxLen; omega)).mono ?_
          rintro e w' ⟨rfl, rfl⟩
          simp only [HX.out]
          go_wp2
          go_ret3
          have HN : Hid (V.semParse s.data.toList = none) := Lib.hid (by rw [HQ.out]; simp [HX.out])
          rw [HN.out]
          exact ⟨HB6.out, rfl⟩
        · have HX := Lib.hid hx
          rcases hy : V.numb y true with _ | _
          · have HY := Lib.hid hy
            clear hx hy
            go_wp2_with fail
            refine (rnumber_any ⟨x.toArray⟩ _ (by show x.length ≤ _; unfold maxLen; omega)).mono ?_
            rintro e w' ⟨rfl, rfl⟩
            simp only [HX.out]
            go_wp2_with fail
            refine (rnumber_any ⟨y.toArray⟩ _ (by show y.length ≤ _; unfold maxLen; omega)).mono ?_
            rintro e w' ⟨rfl, rfl⟩
            simp only [HY.out]
            go_wp2
            go_ret3
            have HN : Hid (V.semParse s.data.toList = none) := Lib.hid (by rw [HQ.out]; simp [HX.out, HY.out])
            rw [HN.out]
            exact ⟨HB6.out, rfl⟩
          · have HY := Lib.hid hy
            rcases hz : V.numb z true with _ | _
            all_goals
              have HZ := Lib.hid hz
              clear hx hy hz
              go_wp2_with fail
              refine (rnumber_any ⟨x.toArray⟩ _ (by show x.length ≤ _; unfold maxLen; omega)).mono ?_
              rintro e w' ⟨rfl, rfl⟩
              simp only [HX.out]
              go_wp2_with fail
              refine (rnumber_any ⟨y.toArray⟩ _ (by show y.length ≤ _; unfold maxLen; omega)).mono ?_
              rintro e w' ⟨rfl, rfl⟩
              simp only [HY.out]
              go_wp2_with fail
              refine (rnumber_any ⟨z.toArray⟩ _ (by show z.length ≤ _; unfold maxLen; omega)).mono ?_
              rintro e w' ⟨rfl, rfl⟩
              simp only [HZ.out]
              go_wp2
              go_ret3
            · have HN : Hid (V.semParse s.data.toList = none) := Lib.hid (by rw [HQ.out]; simp [HX.out, HY.out, HZ.out])
              rw [HN.out]
              exact ⟨HB6.out, rfl⟩
            · have HN : Hid (V.semParse s.data.toList = some ([x, y, z], ids)) := Lib.hid (by rw [HQ.out]; simp [HX.out, HY.out, HZ.out])
              rw [HN.out]
              exact ⟨HB6.out, _, _, rfl, HSL.out, HS6.out⟩
      · have hle : ((L.length : Int) != 3) = true := by simp; omega
        have HN : Hid (V.semParse s.data.toList = none) := Lib.hid (by rw [HQ.out]; simp [hlen])
        go_wp2
        go_ret3
        rw [HN.out]
        exact ⟨HB6.out, rfl⟩
end Go.Proofs.YtnhfaincdabdkaaGreatDoor
namespace Go.Proofs.YtnhfaincdabdkaaGreatDoor
open Go.RowKit

set_option maxRecDepth 100000 in
set_option maxHeartbeats 1600000 in
theorem rpath_any (s : ByteArray) (w : World) (hm : MaxOk w) (hs : s.size ≤ maxLen) :
    Calls Tryz.prog 73 #[.string s] w fun e w' => e = .returned (.bool (V.pathOk s.data.toList)) ∧ Below w.heap.size w w' := by
  have HM := Lib.hid hm
  unfold maxLen at hs
  clear hm
  by_cases h1 : s.size < 1
  · have HR := Lib.hid (path_short (s := s.data.toList) (.inl (by rw [bs_size]; exact h1)))
    have he : s = ⟨#[]⟩ := bs_ext (by
      have : s.data.toList = [] := List.eq_nil_of_length_eq_zero (by rw [bs_size]; omega)
      rw [this])
    subst he
    go_enter Tryz.func73, Tryz.ntmps73
    go_wp2
    go_ret
    exact ⟨ret_bool HR.out.symm, Below.refl _ _⟩
  · have hne : s.toList.isEmpty = false := by
      rw [Lib.toList_data]
      rcases hd : s.data.toList with _ | ⟨c, r⟩
      · have := bs_size s; rw [hd] at this; simp at this; omega
      · rfl
    have hne' : ¬ s.toList = [] := by simpa using hne
    by_cases h2 : 200 < s.size
    · have HR := Lib.hid (path_short (s := s.data.toList) (.inr (by rw [bs_size]; exact h2)))
      go_enter Tryz.func73, Tryz.ntmps73
      go_wp2
      go_ret
      exact ⟨ret_bool HR.out.symm, Below.refl _ _⟩
    · have h1' : 1 ≤ s.size := by omega
      have h2' : s.size ≤ 200 := by omega
      clear h1 h2
      go_enter Tryz.func73, Tryz.ntmps73
      go_wp2
      go_loop [3] (fun i => ∃ k : Nat, k ≤ s.size ∧ i = .int .i64 k ∧ (s.data.toList.take k).all (fun c => c != 0) = true) (fun i => s.size - (intOf i).toNat)
      case atStart => exact ⟨0, Nat.zero_le _, rfl, rfl⟩
      case round =>
        obtain ⟨k, hk, rfl, hp⟩ := hrel
        have HP := Lib.hid hp
        clear hp
        by_cases hlt : k < s.size
        · have hl : k < s.data.toList.length := by rw [bs_size]; exact hlt
          have HT := Lib.hid (V.all_take (p := fun c => c != 0) hl)
          have he : s.data.toList[k] = s[k] := by simp; rfl
          by_cases h0 : s[k] = 0
          · have HR := Lib.hid (path_zero (s := s.data.toList) (by rw [← h0, ← he]; exact List.getElem_mem _))
            have h0' : ((s[k]).toNat : Int) = 0 := by rw [h0]; rfl
            clear he
            go_wp2
            go_ret
            exact ⟨ret_bool HR.out.symm, Below.refl _ _⟩
          · have h0' : ¬ ((s[k]).toNat : Int) = 0 := fun e => h0 (UInt8.toNat_inj.1 (show (s[k]).toNat = 0 by omega))
            have HN : Hid ((s[k] != 0) = true) := Lib.hid (by simpa using h0)
            have HE := Lib.hid he
            clear he
            go_wp2
            go_round
            case rel => exact ⟨k + 1, by omega, by go_num, by rw [HT.out, HP.out, HE.out, HN.out]; rfl⟩
            case measure => simp [intOf]; omega
        · have hz : (0 : UInt8) ∉ s.data.toList := by
            have hp := HP.out
            rw [List.take_of_length_le (by rw [bs_size]; omega), List.all_eq_true] at hp
            intro g
            have := hp 0 g
            simp at this
          have HR := Lib.hid (path_rest (s := s.data.toList) (by rw [bs_size]; exact h1') (by rw [bs_size]; exact h2') hz)
          clear hz HP
          go_wp2_with fail
          refine (split_any s 47 _ HM.out (by omega)).mono ?_
          rintro e w1 ⟨rfl, hw1⟩
          have hs1 := Strs.split w (V.splitOn 47 s.data.toList) 9
          rw [← hw1] at hs1
          have hb1 : Below w.heap.size w w1 := by rw [hw1]; exact (Below.refl _ w).alloc (Nat.le_refl _) _
          have HB1 := Lib.hid hb1
          have HS := Lib.hid hs1
          have HA : Hid (V.pathOk s.data.toList = (V.splitOn 47 s.data.toList).all V.partOk) := HR
          have hnl : (V.splitOn 47 s.data.toList).length ≤ 201 := by have := splitOn_le 47 s.data.toList; rw [bs_size] at this; omega
          clear hw1 hs1 hb1
          generalize V.splitOn 47 s.data.toList = P at *
          go_wp2
          go_loop [5] (fun i => ∃ k : Nat, k ≤ P.length ∧ i = .int .i64 k ∧ (P.take k).all V.partOk = true) (fun i => P.length - (intOf i).toNat)
          case atStart => exact ⟨0, Nat.zero_le _, rfl, rfl⟩
          case round =>
            obtain ⟨k, hk, rfl, hp⟩ := hrel
            have HP := Lib.hid hp
            clear hp
            by_cases hlt : k < P.length
            · obtain ⟨b, off, e, _, hcell⟩ := HS.out.at k hlt
              cases e
              rw [Nat.zero_add] at hcell
              have HT := Lib.hid (all_take' (p := V.partOk) hlt)
              have hg : P.getD k [] = P[k] := by rw [List.getD_eq_getElem?_getD, List.getElem?_eq_getElem hlt]; rfl
              rw [hg] at hcell
              have HIn : Hid (V.partOk P[k] = false → P.all V.partOk = false) := Lib.hid fun h => by
                rw [← Bool.not_eq_true, List.all_eq_true]
                intro g
                rw [g _ (List.getElem_mem hlt)] at h; cases h
              have HD := Lib.hid (V.partOk_cases P[k])
              generalize P[k] = p at *
              clear hg
              rcases HD.out with ⟨rfl, e⟩ | ⟨rfl, e⟩ | ⟨rfl, e⟩ | ⟨e1, e2, e3, e⟩
              · have HE := Lib.hid (HIn.out e)
                clear HD e
                go_wp2
                go_ret
                exact ⟨ret_bool (by rw [HA.out, HE.out]), HB1.out⟩
              · have HE := Lib.hid (HIn.out e)
                clear HD e
                go_wp2
                go_ret
                exact ⟨ret_bool (by rw [HA.out, HE.out]), HB1.out⟩
              · have HE := Lib.hid (HIn.out e)
                clear HD e
                go_wp2
                go_ret
                exact ⟨ret_bool (by rw [HA.out, HE.out]), HB1.out⟩
              · have HE := Lib.hid e
                clear HD e
                go_wp2
                go_round
                case rel => exact ⟨k + 1, by omega, by go_num, by rw [HT.out, HP.out, HE.out]; rfl⟩
                case measure => simp [intOf]; omega
            · have hall := HP.out
              rw [List.take_of_length_le (by omega)] at hall
              have HL := Lib.hid hall
              clear hall
              go_wp2
              go_ret
              exact ⟨ret_bool (by rw [HA.out, HL.out]), HB1.out⟩
end Go.Proofs.YtnhfaincdabdkaaGreatDoor
