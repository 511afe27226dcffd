/-
  Walks: the reference of layer 6, Debian versions.
-/
import Derived.Test.YtoiabbhppbghdaaDoorR4
import Derived.Test.YtoiabbhppbghdaaDoorD0
import Derived.Deep.DeepCutAuto
import Derived.BigRegion
import Derived.OwnWalk
namespace Go.Proofs.YtoiabbhppbghdaaDoor
open Go.RowKit

/-- the epoch that is not written is 0 -/
def epochOf (e : V.Bs) : V.Bs := if e = [] then [48] else e

def RDeb (r : Option (V.Bs × V.Bs × V.Bs)) (w : World) (e : Ending) (w' : World) : Prop :=
  Below w.heap.size w w' ∧ match r with
  | none => e = .returned (.tuple #[.slice none 0 0, .bool false])
  | some (E, U, R) => ∃ v, e = .returned (.tuple #[v, .bool true]) ∧ Strs w' v [epochOf E, U, R]

theorem Strs.three (w : World) (x y z : V.Bs) (t : Nat) : Strs (w.alloc (.cells #[.string ⟨x.toArray⟩, .string ⟨y.toArray⟩, .string ⟨z.toArray⟩] t)) (.slice (some ⟨w.heap.size, 0, none⟩) 3 3) [x, y, z] :=
  Strs.split w [x, y, z] t

set_option maxRecDepth 100000 in
set_option maxHeartbeats 3200000 in
theorem rdebian_any (s : ByteArray) (w : World) (hm : MaxOk w) (hs : s.size ≤ 1000) :
    Calls Tryd.prog 61 #[.string s] w (RDeb (V.debParse s.data.toList) w) := by
  obtain ⟨ep, re, H, hx1⟩ : ∃ a b c, V.cut1 58 s.data.toList = (a, b, c) := ⟨_, _, _, rfl⟩
  have HP : Hid (V.debParse s.data.toList = if H then if V.numb ep false then V.debTail ep re else none else V.debTail [] s.data.toList) := Lib.hid (by
    unfold V.debParse; rw [hx1])
  have hl1 : ep.length ≤ s.size ∧ re.length ≤ s.size := by
    have := cut1_len 58 s.data.toList
    rw [hx1, bs_size] at this
    exact this
  obtain ⟨hl1, hl2⟩ := hl1
  have HX1 := Lib.hid hx1
  have HM := Lib.hid hm
  clear hx1 hm
  go_enter Tryd.func61, Tryd.ntmps61
  go_wp2_with fail
  refine (cut_any s 58 _ HM.out (by omega)).mono ?_
  rintro e w1 ⟨rfl, hb1⟩
  simp only [HX1.out]
  have HB1 := Lib.hid hb1
  clear hb1
  go_upto_if 17 with (fail)
  go_cut [4, 5] (fun v4 v5 wx => ∃ (E E0 : V.Bs) (V1 : ByteArray), v4 = .string ⟨E.toArray⟩ ∧ v5 = .string V1 ∧ E.length ≤ 1000 ∧ V1.size ≤ s.size ∧ Below w.heap.size w wx ∧
    V.debParse s.data.toList = (if V.digits E then V.debTail E0 V1.data.toList else none) ∧ (V.digits E = true → epochOf E0 = E))
  case first =>
    cases H with
    | false =>
      go_wp2
      go_meet
      exact ⟨[48], [], s, rfl, rfl, by simp, Nat.le_refl _, HB1.out, by rw [HP.out]; rfl, fun _ => rfl⟩
    | true =>
      go_wp2
      go_meet
      exact ⟨ep, ep, ⟨re.toArray⟩, rfl, rfl, by omega, hl2, HB1.out, by
        rw [HP.out]
        have : V.numb ep false = V.digits ep := by unfold V.numb; simp
        rw [this]; rfl, fun hd => by
        unfold epochOf
        rw [if_neg]
        intro e0
        have := digits_pos hd
        rw [e0] at this
        simp at this⟩
  case rest =>
    obtain ⟨E, E0, V1, rfl, rfl, hel, hsz, hb2, hpar, hep⟩ := hcut
    have HB2 := Lib.hid hb2
    have HPAR := Lib.hid hpar
    have HEP := Lib.hid hep
    clear hb2 hpar hep HP HX1 HB1
    obtain ⟨wo, rfl⟩ : ∃ wo : World, wo = wc := ⟨_, rfl⟩
    go_wp2_with fail
    refine (Tryd.strings_LastIndex_one V1 ⟨#[45]⟩ rfl (by omega) _).mono ?_
    rintro e w3 ⟨rfl, rfl⟩
    have hld : Lib.lastIndexByte V1 (((ByteArray.mk #[45])[0]'(by decide)).toNat : Int) = V.lastDash V1.data.toList := by unfold V.lastDash; rw [bs_of]; rfl
    rw [hld]
    clear hld
    obtain ⟨ld, hld⟩ : ∃ ld, V.lastDash V1.data.toList = ld := ⟨_, rfl⟩
    have HLD := Lib.hid hld
    rw [hld]
    clear hld
    have hsplit : (ld < 0) ∨ ∃ i : Nat, ld = i ∧ i < V1.size := by
      rw [← HLD.out]
      unfold V.lastDash
      rw [bs_of]
      rcases Lib.lastIndexByte_spec V1 45 with ⟨h, _⟩ | ⟨i, hi, h, _⟩
      · left; omega
      · exact .inr ⟨i, h, hi⟩
    go_upto_if 23 with (fail)
    go_cut [7, 8] (fun v7 v8 wx => ∃ (U R : V.Bs), v7 = .string ⟨U.toArray⟩ ∧ v8 = .string ⟨R.toArray⟩ ∧ U.length ≤ s.size ∧ Below w.heap.size w wx ∧
      V.debTail E0 V1.data.toList = if V.only (V.kind [46, 43, 126, 45]) U && V.dig (U.getD 0 0) then some (E0, U, R) else none)
    case first =>
      rcases hsplit with hneg | ⟨i, rfl, hlt⟩
      · have HN : Hid (V.lastDash V1.data.toList < 0) := Lib.hid (by rw [HLD.out]; exact hneg)
        go_wp2
        go_meet
        exact ⟨V1.data.toList, [], by rw [bs_of], rfl, by rw [bs_size]; exact hsz, HB2.out, debTail_no HN.out⟩
      · have hge : (0 : Int) ≤ (i : Int) := by omega
        have hex0 : V1.extract 0 i = ⟨(V1.data.toList.take i).toArray⟩ := bs_ext (by rw [Lib.extract_data]; simp)
        have hex1 : V1.extract (i + 1) V1.size = ⟨(V1.data.toList.drop (i + 1)).toArray⟩ := bs_ext (by rw [Lib.extract_to_end])
        have HE0 := Lib.hid hex0
        have HE1 := Lib.hid hex1
        have hrl : (V1.data.toList.drop (i + 1)).length ≤ maxLen := by rw [List.length_drop, bs_size]; unfold maxLen; omega
        have htl : (V1.data.toList.take i).length ≤ s.size := by rw [List.length_take, bs_size]; omega
        have HRL := Lib.hid hrl
        have HTL := Lib.hid htl
        clear hex0 hex1 hrl htl
        rcases hk : V.only (V.kind V.allow) (V1.data.toList.drop (i + 1)) with _ | _
        all_goals
          have HK := Lib.hid hk
          clear hk
          go_wp2
          go_region
          go_wp2_with fail
          rw [HE1.out]
          refine (rmade_any ⟨(V1.data.toList.drop (i + 1)).toArray⟩ ⟨#[46, 43, 126]⟩ _ HRL.out).mono ?_
          rintro e w' ⟨rfl, rfl⟩
          have hkk : V.only (V.kind (ByteArray.mk #[46, 43, 126]).data.toList) (ByteArray.mk (V1.data.toList.drop (i + 1)).toArray).data.toList = V.only (V.kind V.allow) (V1.data.toList.drop (i + 1)) := rfl
          rw [hkk, HK.out]
          go_wp2
        · go_ret2
          have HN : Hid (V.debParse s.data.toList = none) := Lib.hid (by rw [HPAR.out, debTail_bad HLD.out HK.out]; simp)
          rw [HN.out]
          exact ⟨HB2.out.drew, rfl⟩
        · go_meet
          exact ⟨V1.data.toList.take i, V1.data.toList.drop (i + 1), by rw [HE0.out], rfl, HTL.out, HB2.out.drew, debTail_yes HLD.out HK.out⟩
    case rest =>
      obtain ⟨U, R, rfl, rfl, hul, hb5, htail⟩ := hcut
      have HB5 := Lib.hid hb5
      have HT := Lib.hid htail
      clear hb5 htail HLD HB2
      rcases hd : V.digits E with _ | _
      · have HD := Lib.hid hd
        have HN : Hid (V.debParse s.data.toList = none) := Lib.hid (by rw [HPAR.out, hd]; rfl)
        clear hd
        go_wp2_with fail
        refine (rdigits_any ⟨E.toArray⟩ _ (by show E.length ≤ _; unfold maxLen; omega)).mono ?_
        rintro e w' ⟨rfl, rfl⟩
        simp only [arr_list, HD.out]
        go_wp2
        go_ret2
        rw [HN.out]
        exact ⟨HB5.out, rfl⟩
      · have HD := Lib.hid hd
        have HE := Lib.hid (HEP.out hd)
        rcases hk : V.only (V.kind [46, 43, 126, 45]) U with _ | _
        · have HK := Lib.hid hk
          have HN : Hid (V.debParse s.data.toList = none) := Lib.hid (by rw [HPAR.out, hd, if_pos rfl, HT.out, hk]; rfl)
          clear hd hk
          go_wp2_with fail
          refine (rdigits_any ⟨E.toArray⟩ _ (by show E.length ≤ _; unfold maxLen; omega)).mono ?_
          rintro e w' ⟨rfl, rfl⟩
          simp only [arr_list, HD.out]
          go_wp2_with fail
          refine (rmade_any ⟨U.toArray⟩ ⟨#[46, 43, 126, 45]⟩ _ (by show U.length ≤ _; unfold maxLen; omega)).mono ?_
          rintro e w' ⟨rfl, rfl⟩
          simp only [arr_list, HK.out]
          go_wp2
          go_ret2
          rw [HN.out]
          exact ⟨HB5.out, rfl⟩
        · have HK := Lib.hid hk
          obtain ⟨u0, ur, rfl⟩ : ∃ u0 ur, U = u0 :: ur := by
            cases U with
            | nil => simp [V.only] at hk
            | cons u0 ur => exact ⟨u0, ur, rfl⟩
          have hu0 : (ByteArray.mk (u0 :: ur).toArray).size = ur.length + 1 := by simp [ByteArray.size]
          rcases hg : V.digB u0.toNat with _ | _
          all_goals
            have HG := Lib.hid hg
            go_wp2_with fail
            refine (rdigits_any ⟨E.toArray⟩ _ (by show E.length ≤ _; unfold maxLen; omega)).mono ?_
            rintro e w' ⟨rfl, rfl⟩
            simp only [arr_list, HD.out]
            go_wp2_with fail
            refine (rmade_any ⟨(u0 :: ur).toArray⟩ ⟨#[46, 43, 126, 45]⟩ _ (by rw [hu0]; unfold maxLen; simp at hul; omega)).mono ?_
            rintro e w' ⟨rfl, rfl⟩
            simp only [arr_list, HK.out]
            go_wp2_with fail
            refine (rdigit_any _ _).mono ?_
            rintro e w' ⟨rfl, rfl⟩
            rw [show V.digB (((ByteArray.mk (u0 :: ur).toArray)[0]'(by rw [hu0]; omega)).toNat : Int) = V.digB u0.toNat from rfl, HG.out]
            go_wp2
            go_ret2
          · have HN : Hid (V.debParse s.data.toList = none) := Lib.hid (by
              rw [HPAR.out, hd, if_pos rfl, HT.out, hk, show V.dig ((u0 :: ur).getD 0 0) = V.digB u0.toNat from rfl, hg]; rfl)
            rw [HN.out]
            exact ⟨HB5.out, rfl⟩
          · have HN : Hid (V.debParse s.data.toList = some (E0, u0 :: ur, R)) := Lib.hid (by
              rw [HPAR.out, hd, if_pos rfl, HT.out, hk, show V.dig ((u0 :: ur).getD 0 0) = V.digB u0.toNat from rfl, hg]; rfl)
            rw [HN.out]
            refine ⟨HB5.out.alloc HB5.out.size _, _, rfl, ?_⟩
            rw [HE.out]
            exact Strs.three _ _ _ _ _
end Go.Proofs.YtoiabbhppbghdaaDoor
