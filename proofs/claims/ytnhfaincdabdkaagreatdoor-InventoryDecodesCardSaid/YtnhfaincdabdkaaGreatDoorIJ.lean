/-
  Walks: the reference of layer 6, Debian versions.
  Walks: the reference of layer 6, which strings are versions.
  Walk: the reference's component.
  Walks of the reference: index, Instant, Valid.
-/
import Derived.Test.YtnhfaincdabdkaaGreatDoorR3
import Derived.Test.YtnhfaincdabdkaaGreatDoorD0
import Derived.Test.YtnhfaincdabdkaaGreatDoorQ2
import Derived.Test.YtnhfaincdabdkaaGreatDoorJC
import Derived.Test.YtnhfaincdabdkaaGreatDoorPJ
import Derived.Deep.DeepCutAuto
import Derived.BigRegion
import Derived.OwnWalk
namespace Go.Proofs.YtnhfaincdabdkaaGreatDoor
open Go.RowKit

/-- the epoch that is not written is 0 -/
def epochOf (e : V.Bs) : V.Bs := if e = [] then [48] else e

def RDeb (r : Option (V.Bs × V.Bs × V.Bs)) (w : World) (e : Ending) (w' : World) : Prop :=
  Below w.heap.size w w' ∧ match r with
  | none => e = .returned (.tuple #[.slice none 0 0, .bool false])
  | some (E, U, R) => ∃ v, e = .returned (.tuple #[v, .bool true]) ∧ Strs w' v [epochOf E, U, R]

theorem Strs.three (w : World) (x y z : V.Bs) (t : Nat) : Strs (w.alloc (.cells #[.string ⟨x.toArray⟩, .string ⟨y.toArray⟩, .string ⟨z.toArray⟩] t)) (.slice (some ⟨w.heap.size, 0, none⟩) 3 3) [x, y, z] :=
  Strs.split w [x, y, z] t

set_option maxRecDepth 100000 in
set_option maxHeartbeats 3200000 in
theorem rdebian_any (s : ByteArray) (w : World) (hm : MaxOk w) (hs : s.size ≤ 1000) :
    Calls Tryz.prog 157 #[.string s] w (RDeb (V.debParse s.data.toList) w) := by
  obtain ⟨ep, re, H, hx1⟩ : ∃ a b c, V.cut1 58 s.data.toList = (a, b, c) := ⟨_, _, _, rfl⟩
  have HP : Hid (V.debParse s.data.toList = if H then if V.numb ep false then V.debTail ep re else none else V.debTail [] s.data.toList) := Lib.hid (by
    unfold V.debParse; rw [hx1])
  have hl1 : ep.length ≤ s.size ∧ re.length ≤ s.size := by
    have := cut1_len 58 s.data.toList
    rw [hx1, bs_size] at this
    exact this
  obtain ⟨hl1, hl2⟩ := hl1
  have HX1 := Lib.hid hx1
  have HM := Lib.hid hm
  clear hx1 hm
  go_enter Tryz.func157, Tryz.ntmps157
  go_wp2_with fail
  refine (cut_any s 58 _ HM.out (by omega)).mono ?_
  rintro e w1 ⟨rfl, hb1⟩
  simp only [HX1.out]
  have HB1 := Lib.hid hb1
  clear hb1
  go_upto_if 17 with (fail)
  go_cut [4, 5] (fun v4 v5 wx => ∃ (E E0 : V.Bs) (V1 : ByteArray), v4 = .string ⟨E.toArray⟩ ∧ v5 = .string V1 ∧ E.length ≤ 1000 ∧ V1.size ≤ s.size ∧ Below w.heap.size w wx ∧
    V.debParse s.data.toList = (if V.digits E then V.debTail E0 V1.data.toList else none) ∧ (V.digits E = true → epochOf E0 = E))
  case first =>
    cases H with
    | false =>
      go_wp2
      go_meet
      exact ⟨[48], [], s, rfl, rfl, by simp, Nat.le_refl _, HB1.out, by rw [HP.out]; rfl, fun _ => rfl⟩
    | true =>
      go_wp2
      go_meet
      exact ⟨ep, ep, ⟨re.toArray⟩, rfl, rfl, by omega, hl2, HB1.out, by
        rw [HP.out]
        have : V.numb ep false = V.digits ep := by unfold V.numb; simp
        rw [this]; rfl, fun hd => by
        unfold epochOf
        rw [if_neg]
        intro e0
        have := digits_pos hd
        rw [e0] at this
        simp at this⟩
  case rest =>
    obtain ⟨E, E0, V1, rfl, rfl, hel, hsz, hb2, hpar, hep⟩ := hcut
    have HB2 := Lib.hid hb2
    have HPAR := Lib.hid hpar
    have HEP := Lib.hid hep
    clear hb2 hpar hep HP HX1 HB1
    obtain ⟨wo, rfl⟩ : ∃ wo : World, wo = wc := ⟨_, rfl⟩
    go_wp2_with fail
    refine (Tryz.strings_LastIndex_one V1 ⟨#[45]⟩ rfl (by omega) _).mono ?_
    rintro e w3 ⟨rfl, rfl⟩
    have hld : Lib.lastIndexByte V1 (((ByteArray.mk #[45])[0]'(by decide)).toNat : Int) = V.lastDash V1.data.toList := by unfold V.lastDash; rw [bs_of]; rfl
    rw [hld]
    clear hld
    obtain ⟨ld, hld⟩ : ∃ ld, V.lastDash V1.data.toList = ld := ⟨_, rfl⟩
    have HLD := Lib.hid hld
    rw [hld]
    clear hld
    have hsplit : (ld < 0) ∨ ∃ i : Nat, ld = i ∧ i < V1.size := by
      rw [← HLD.out]
      unfold V.lastDash
      rw [bs_of]
      rcases Lib.lastIndexByte_spec V1 45 with ⟨h, _⟩ | ⟨i, hi, h, _⟩
      · left; omega
      · exact .inr ⟨i, h, hi⟩
    go_upto_if 23 with (fail)
    go_cut [7, 8] (fun v7 v8 wx => ∃ (U R : V.Bs), v7 = .string ⟨U.toArray⟩ ∧ v8 = .string ⟨R.toArray⟩ ∧ U.length ≤ s.size ∧ Below w.heap.size w wx ∧
      V.debTail E0 V1.data.toList = if V.only (V.kind [46, 43, 126, 45]) U && V.dig (U.getD 0 0) then some (E0, U, R) else none)
    case first =>
      rcases hsplit with hneg | ⟨i, rfl, hlt⟩
      · have HN : Hid (V.lastDash V1.data.toList < 0) := Lib.hid (by rw [HLD.out]; exact hneg)
        go_wp2
        go_meet
        exact ⟨V1.data.toList, [], by rw [bs_of], rfl, by rw [bs_size]; exact hsz, HB2.out, debTail_no HN.out⟩
      · have hge : (0 : Int) ≤ (i : Int) := by omega
        have hex0 : V1.extract 0 i = ⟨(V1.data.toList.take i).toArray⟩ := bs_ext (by rw [Lib.extract_data]; simp)
        have hex1 : V1.extract (i + 1) V1.size = ⟨(V1.data.toList.drop (i + 1)).toArray⟩ := bs_ext (by rw [Lib.extract_to_end])
        have HE0 := Lib.hid hex0
        have HE1 := Lib.hid hex1
        have hrl : (V1.data.toList.drop (i + 1)).length ≤ maxLen := by rw [List.length_drop, bs_size]; unfold maxLen; omega
        have htl : (V1.data.toList.take i).length ≤ s.size := by rw [List.length_take, bs_size]; omega
        have HRL := Lib.hid hrl
        have HTL := Lib.hid htl
        clear hex0 hex1 hrl htl
        rcases hk : V.only (V.kind V.allow) (V1.data.toList.drop (i + 1)) with _ | _
        all_goals
          have HK := Lib.hid hk
          clear hk
          go_wp2
          go_region
          go_wp2_with fail
          rw [HE1.out]
          refine (rmade_any ⟨(V1.data.toList.drop (i + 1)).toArray⟩ ⟨#[46, 43, 126]⟩ _ HRL.out).mono ?_
          rintro e w' ⟨rfl, rfl⟩
          have hkk : V.only (V.kind (ByteArray.mk #[46, 43, 126]).data.toList) (ByteArray.mk (V1.data.toList.drop (i + 1)).toArray).data.toList = V.only (V.kind V.allow) (V1.data.toList.drop (i + 1)) := rfl
          rw [hkk, HK.out]
          go_wp2
        · go_ret2
          have HN : Hid (V.debParse s.data.toList = none) := Lib.hid (by rw [HPAR.out, debTail_bad HLD.out HK.out]; simp)
          rw [HN.out]
          exact ⟨HB2.out.drew, rfl⟩
        · go_meet
          exact ⟨V1.data.toList.take i, V1.data.toList.drop (i + 1), by rw [HE0.out], rfl, HTL.out, HB2.out.drew, debTail_yes HLD.out HK.out⟩
    case rest =>
      obtain ⟨U, R, rfl, rfl, hul, hb5, htail⟩ := hcut
      have HB5 := Lib.hid hb5
      have HT := Lib.hid htail
      clear hb5 htail HLD HB2
      rcases hd : V.digits E with _ | _
      · have HD := Lib.hid hd
        have HN : Hid (V.debParse s.data.toList = none) := Lib.hid (by rw [HPAR.out, hd]; rfl)
        clear hd
        go_wp2_with fail
        refine (rdigits_any ⟨E.toArray⟩ _ (by show E.length ≤ _; unfold maxLen; omega)).mono ?_
        rintro e w' ⟨rfl, rfl⟩
        simp only [HD.out]
        go_wp2
        go_ret2
        rw [HN.out]
        exact ⟨HB5.out, rfl⟩
      · have HD := Lib.hid hd
        have HE := Lib.hid (HEP.out hd)
        rcases hk : V.only (V.kind [46, 43, 126, 45]) U with _ | _
        · have HK := Lib.hid hk
          have HN : Hid (V.debParse s.data.toList = none) := Lib.hid (by rw [HPAR.out, hd, if_pos rfl, HT.out, hk]; rfl)
          clear hd hk
          go_wp2_with fail
          refine (rdigits_any ⟨E.toArray⟩ _ (by show E.length ≤ _; unfold maxLen; omega)).mono ?_
          rintro e w' ⟨rfl, rfl⟩
          simp only [HD.out]
          go_wp2_with fail
          refine (rmade_any ⟨U.toArray⟩ ⟨#[46, 43, 126, 45]⟩ _ (by show U.length ≤ _; unfold maxLen; omega)).mono ?_
          rintro e w' ⟨rfl, rfl⟩
          simp only [HK.out]
          go_wp2
          go_ret2
          rw [HN.out]
          exact ⟨HB5.out, rfl⟩
        · have HK := Lib.hid hk
          obtain ⟨u0, ur, rfl⟩ : ∃ u0 ur, U = u0 :: ur := by
            cases U with
            | nil => simp [V.only] at hk
            | cons u0 ur => exact ⟨u0, ur, rfl⟩
          have hu0 : (ByteArray.mk (u0 :: ur).toArray).size = ur.length + 1 := by simp [ByteArray.size]
          rcases hg : V.digB u0.toNat with _ | _
          all_goals
            have HG := Lib.hid hg
            go_wp2_with fail
            refine (rdigits_any ⟨E.toArray⟩ _ (by show E.length ≤ _; unfold maxLen; omega)).mono ?_
            rintro e w' ⟨rfl, rfl⟩
            simp only [HD.out]
            go_wp2_with fail
            refine (rmade_any ⟨(u0 :: ur).toArray⟩ ⟨#[46, 43, 126, 45]⟩ _ (by rw [hu0]; unfold maxLen; simp at hul; omega)).mono ?_
            rintro e w' ⟨rfl, rfl⟩
            simp only [HK.out]
            go_wp2_with fail
            refine (rdigit_any _ _).mono ?_
            rintro e w' ⟨rfl, rfl⟩
            rw [show V.digB (((ByteArray.mk (u0 :: ur).toArray)[0]'(by rw [hu0]; omega)).toNat : Int) = V.digB u0.toNat from rfl, HG.out]
            go_wp2
            go_ret2
          · have HN : Hid (V.debParse s.data.toList = none) := Lib.hid (by
              rw [HPAR.out, hd, if_pos rfl, HT.out, hk, show V.dig ((u0 :: ur).getD 0 0) = V.digB u0.toNat from rfl, hg]; rfl)
            rw [HN.out]
            exact ⟨HB5.out, rfl⟩
          · have HN : Hid (V.debParse s.data.toList = some (E0, u0 :: ur, R)) := Lib.hid (by
              rw [HPAR.out, hd, if_pos rfl, HT.out, hk, show V.dig ((u0 :: ur).getD 0 0) = V.digB u0.toNat from rfl, hg]; rfl)
            rw [HN.out]
            refine ⟨HB5.out.alloc HB5.out.size _, _, rfl, ?_⟩
            rw [HE.out]
            exact Strs.three _ _ _ _ _
end Go.Proofs.YtnhfaincdabdkaaGreatDoor
namespace Go.Proofs.YtnhfaincdabdkaaGreatDoor
open Go.RowKit

theorem nonempty_of {s : ByteArray} (h : 1 ≤ s.size) : s.toList.isEmpty = false := by
  rw [Lib.toList_data]
  have : 0 < s.data.toList.length := by rw [bs_size]; omega
  cases hl : s.data.toList with
  | nil => rw [hl] at this; simp at this
  | cons => rfl

set_option maxRecDepth 100000 in
set_option maxHeartbeats 1600000 in
theorem rvalid_any (n : Int) (s : ByteArray) (w : World) (hm : MaxOk w) (hs : s.size ≤ maxLen) :
    Calls Tryz.prog 126 #[.int .i64 n, .string s] w fun e w' => e = .returned (.bool (V.valid n s.data.toList)) ∧ Below w.heap.size w w' := by
  unfold maxLen at hs
  have HM := Lib.hid hm
  clear hm
  by_cases hbad : s.size = 0 ∨ 64 < s.size
  · have HF : Hid (V.valid n s.data.toList = false) := Lib.hid (by
      unfold V.valid
      rw [bs_size]
      rcases hbad with h | h
      · rw [h]; rfl
      · have : decide (s.size ≤ 64) = false := by simp; omega
        rw [this]; simp)
    rcases hbad with h0 | h64
    · have he : s = ⟨#[]⟩ := bs_ext (by
        have : s.data.toList = [] := List.eq_nil_of_length_eq_zero (by rw [bs_size]; exact h0)
        rw [this])
      subst he
      go_enter Tryz.func126, Tryz.ntmps126
      go_wp2
      go_ret
      exact ⟨ret_bool HF.out.symm, Below.refl _ _⟩
    · have hne : s.toList.isEmpty = false := nonempty_of (by omega)
      have hne' : ¬ s.toList = [] := by simpa using hne
      go_enter Tryz.func126, Tryz.ntmps126
      go_wp2
      go_ret
      exact ⟨ret_bool HF.out.symm, Below.refl _ _⟩
  · have h1 : 1 ≤ s.size := by omega
    have h2 : s.size ≤ 64 := by omega
    have HF : Hid (V.valid n s.data.toList = V.schOk n s.data.toList) := Lib.hid (by
      unfold V.valid
      rw [bs_size]
      simp [h1, h2])
    have hne : s.toList.isEmpty = false := nonempty_of h1
    have hne' : ¬ s.toList = [] := by simpa using hne
    have hle64 : (s.size : Int) ≤ 64 := by omega
    clear hbad
    by_cases n1 : n = 1
    · subst n1
      have HS : Hid (V.schOk 1 s.data.toList = (V.semParse s.data.toList).isSome) := Lib.hid rfl
      go_enter Tryz.func126, Tryz.ntmps126
      go_wp2_with fail
      refine (rsemver_any s _ HM.out (by omega)).mono ?_
      rintro e w1 ⟨hb, he⟩
      rcases hp : V.semParse s.data.toList with _ | ⟨l, ids⟩
      · rw [hp] at he HS
        subst he
        go_wp2
        go_ret
        exact ⟨ret_bool (by rw [HF.out, HS.out]; rfl), hb⟩
      · rw [hp] at he HS
        obtain ⟨v, u, rfl, _, _⟩ := he
        go_wp2
        go_ret
        exact ⟨ret_bool (by rw [HF.out, HS.out]; rfl), hb⟩
    · by_cases n2 : n = 2
      · subst n2
        have HS : Hid (V.schOk 2 s.data.toList = (V.debParse s.data.toList).isSome) := Lib.hid rfl
        go_enter Tryz.func126, Tryz.ntmps126
        go_wp2_with fail
        refine (rdebian_any s _ HM.out (by omega)).mono ?_
        rintro e w1 ⟨hb, he⟩
        rcases hp : V.debParse s.data.toList with _ | ⟨E, U, R⟩
        · rw [hp] at he HS
          subst he
          go_wp2
          go_ret
          exact ⟨ret_bool (by rw [HF.out, HS.out]; rfl), hb⟩
        · rw [hp] at he HS
          obtain ⟨v, rfl, _⟩ := he
          go_wp2
          go_ret
          exact ⟨ret_bool (by rw [HF.out, HS.out]; rfl), hb⟩
      · by_cases n3 : n = 3
        · subst n3
          have HS : Hid (V.schOk 3 s.data.toList = (V.splitOn 46 s.data.toList).all fun x => V.numb x false) := Lib.hid rfl
          go_enter Tryz.func126, Tryz.ntmps126
          go_wp2_with fail
          refine (split_any s 46 _ HM.out (by omega)).mono ?_
          rintro e w4 ⟨rfl, hw4⟩
          have hle := splitOn_le 46 s.data.toList
          have hmem := Lib.hid (splitOn_mem 46 s.data.toList)
          rw [bs_size] at hle hmem
          obtain ⟨L0, hL0⟩ : ∃ L0, V.splitOn 46 s.data.toList = L0 := ⟨_, rfl⟩
          rw [hL0] at hw4 hle hmem HS ⊢
          have hcs := Lib.hid (split_cells hw4)
          have HB4 : Hid (Below w.heap.size w w4) := Lib.hid (by rw [hw4]; exact (Below.refl _ _).alloc (Nat.le_refl _) _)
          clear hw4 hL0
          have hnd : ∀ x : V.Bs, V.numb x false = V.digits x := fun x => by unfold V.numb; simp
          have HND := Lib.hid hnd
          clear hnd
          go_wp2
          go_loop [11] (fun i => ∃ k : Nat, k ≤ L0.length ∧ i = .int .i64 k ∧ (L0.take k).all (fun x => V.numb x false) = true) (fun i => L0.length - (intOf i).toNat)
          case atStart => exact ⟨0, Nat.zero_le _, rfl, rfl⟩
          case round =>
            obtain ⟨k, hk, rfl, hp⟩ := hrel
            have HQ := Lib.hid hp
            clear hp
            by_cases hlt : k < L0.length
            · have hc := hcs.out k hlt
              have hsz : L0[k].length ≤ s.size := hmem.out _ (List.getElem_mem hlt)
              have HT := Lib.hid (all_take' (p := fun x => V.numb x false) hlt)
              rcases hpk : V.digits L0[k] with _ | _
              all_goals
                have HPK := Lib.hid hpk
                clear hpk
                go_wp2_with fail
                refine (rdigits_any ⟨L0[k].toArray⟩ _ (by show L0[k].length ≤ _; unfold maxLen; omega)).mono ?_
                rintro e w' ⟨rfl, rfl⟩
                simp only [HPK.out]
                go_wp2
              · go_ret
                exact ⟨ret_bool (by rw [HF.out, HS.out, all_no (k := k) hlt (by show V.numb _ false = false; rw [HND.out]; exact HPK.out)]), HB4.out⟩
              · go_round
                case rel => exact ⟨k + 1, by omega, by go_num, by rw [HT.out, HQ.out, HND.out]; exact HPK.out⟩
                case measure => simp [intOf]; omega
            · have ht : L0.take k = L0 := List.take_of_length_le (by omega)
              rw [ht] at HQ
              clear ht
              go_wp2
              go_ret
              exact ⟨ret_bool (by rw [HF.out, HS.out]; exact HQ.out.symm), HB4.out⟩
        · have HS : Hid (V.schOk n s.data.toList = false) := Lib.hid (by unfold V.schOk; simp [n1, n2, n3])
          have b1 : (n == 1) = false := by simpa using n1
          have b2 : (n == 2) = false := by simpa using n2
          have b3 : (n == 3) = false := by simpa using n3
          go_enter Tryz.func126, Tryz.ntmps126
          go_wp2
          go_ret
          exact ⟨ret_bool (by rw [HF.out, HS.out]), Below.refl _ _⟩
end Go.Proofs.YtnhfaincdabdkaaGreatDoor
namespace Go.Proofs.YtnhfaincdabdkaaGreatDoor
open Go.RowKit

set_option maxRecDepth 100000 in
set_option maxHeartbeats 800000 in
theorem rcomponent_any (c : V.Comp) (w : World) (hm : MaxOk w) (hc : CompWf c) :
    Calls Tryz.prog 102 #[cval c] w fun e w' => e = .returned (.bool (V.compOk c)) ∧ Below w.heap.size w w' := by
  have HM := Lib.hid hm
  have HC := Lib.hid hc
  have h1 := ccells_1 c
  have h2 := ccells_2 c
  have h3 := ccells_3 c
  have HD : Hid (V.compOk c = (V.valid c.sch c.ver && V.pathOk c.name)) := Lib.hid (Bool.and_comm _ _)
  have hn := Lib.hid hc.name
  have hv := Lib.hid hc.ver
  clear hm hc
  unfold cval
  generalize ccells c = cs at *
  generalize V.compOk c = r at *
  obtain ⟨par, sch, name, ver, dig⟩ := c
  simp only at *
  go_enter Tryz.func102, Tryz.ntmps102
  go_wp2_with fail
  refine (rvalid_any _ _ _ (HM.out.below ((Below.refl _ w).alloc (Nat.le_refl _) _)) (by show ver.toArray.size ≤ _; simpa using hv.out)).mono ?_
  rintro e w1 ⟨rfl, hb1⟩
  have hb0 := (Below.refl w.heap.size w).alloc (Nat.le_refl _) (.cells cs 88)
  have HB1 := Lib.hid (hb0.trans (hb1.mono hb0.size))
  have hc2 : w1.cell? ⟨w.heap.size, 2, none⟩ = some (.string ⟨name.toArray⟩) := by rw [hb1.cell (p := ⟨w.heap.size, 2, none⟩) (by simp), World.cell?_alloc_new]; exact h2
  clear hb0 hb1 h1 h2 h3
  rw [bs_mk]
  rcases hp : V.valid sch ver with _ | _
  · rw [hp] at HD
    clear hp
    go_wp2
    go_ret
    exact ⟨ret_bool HD.out.symm, HB1.out⟩
  · rw [hp] at HD
    clear hp
    go_wp2_with fail
    refine (rpath_any _ _ (HM.out.below HB1.out) (by show name.toArray.size ≤ _; simpa using hn.out)).mono ?_
    rintro e w2 ⟨rfl, hb2⟩
    have HB2 := Lib.hid (HB1.out.trans (hb2.mono HB1.out.size))
    clear hb2
    go_wp2
    go_ret
    exact ⟨ret_bool (by rw [HD.out]; rfl), HB2.out⟩
end Go.Proofs.YtnhfaincdabdkaaGreatDoor
namespace Go.Proofs.YtnhfaincdabdkaaGreatDoor
open Go.RowKit

set_option maxRecDepth 100000 in
theorem rinstant_any (t : Int) (w : World) :
    Calls Tryz.prog 101 #[.int .i64 t] w fun e w' => e = .returned (.bool (decide (0 ≤ t) && decide (t ≤ 1099511627776))) ∧ w' = w := by
  go_enter Tryz.func101, Tryz.ntmps101
  by_cases h1 : 0 ≤ t
  · have e1 : decide (0 ≤ t) = true := decide_eq_true h1
    rw [e1]
    go_wp2
    go_ret
    exact ⟨rfl, rfl⟩
  · have e1 : decide (0 ≤ t) = false := decide_eq_false h1
    rw [e1]
    go_wp2
    go_ret
    exact ⟨rfl, rfl⟩
end Go.Proofs.YtnhfaincdabdkaaGreatDoor
