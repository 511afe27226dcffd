/-
  Walks: the reference of layer 6, upstream versions and revisions compared.
  Walks: the reference of layer 6, the orders of semantic and Debian versions.
  Walks: the reference of layer 6, the order of semantic versions; Order, Scheme.
-/
import Derived.Test.YtpjjkbdkgaehkaaGreatDoorR3
import Derived.Test.YtpjjkbdkgaehkaaGreatDoorV5
import Derived.Test.YtpjjkbdkgaehkaaGreatDoorP6
import Derived.Test.YtpjjkbdkgaehkaaGreatDoorR6
import Derived.Test.YtpjjkbdkgaehkaaGreatDoorC2
import Derived.Test.YtpjjkbdkgaehkaaGreatDoorSL
import Derived.StillTailTactics
namespace Go.Proofs.YtpjjkbdkgaehkaaGreatDoor
open Go.RowKit

set_option maxRecDepth 100000 in
set_option maxHeartbeats 800000 in
theorem rsplit_any (s : ByteArray) (d : Bool) (w : World) (hs : s.size ≤ maxLen) :
    Calls Tryz.prog 163 #[.string s, .bool d] w fun e w' => e = .returned (.tuple #[.string ⟨(V.takeD s.data.toList d).1.toArray⟩, .string ⟨(V.takeD s.data.toList d).2.toArray⟩]) ∧ Below w.heap.size w w' := by
  unfold maxLen at hs
  go_enter Tryz.func163, Tryz.ntmps163
  go_wp2
  go_loop [6] (fun i => ∃ k : Nat, k ≤ s.size ∧ i = .int .i64 k ∧ (s.data.toList.take k).all (fun c => V.dig c == d) = true) (fun i => s.size - (intOf i).toNat)
  case atStart => exact ⟨0, Nat.zero_le _, rfl, rfl⟩
  case round =>
    obtain ⟨k, hk, rfl, hp⟩ := hrel
    have HP := Lib.hid hp
    clear hp
    have fin : (k = s.size ∨ ∃ h : k < s.size, (V.digB s[k].toNat == d) = false) → Hid (s.extract 0 k = ⟨(V.takeD s.data.toList d).1.toArray⟩ ∧ s.extract k s.size = ⟨(V.takeD s.data.toList d).2.toArray⟩) := fun h => by
      have := V.take_at s.data.toList (fun c => V.dig c == d) k (by rw [bs_size]; exact hk) HP.out (by
        rcases h with h | ⟨h, h2⟩
        · left; rw [bs_size]; exact h
        · right
          have e : s.data.toList[k]'(by rw [bs_size]; exact h) = s[k] := by simp; rfl
          exact ⟨by rw [bs_size]; exact h, by rw [e]; exact h2⟩)
      refine Lib.hid ⟨bs_ext ?_, bs_ext ?_⟩
      · rw [extract_to, this.1]; simp [V.takeD]
      · rw [Lib.extract_to_end, this.2]; simp [V.takeD]
    have FIN := Lib.hid fin
    clear fin
    by_cases hlt : k < s.size
    · have hl : k < s.data.toList.length := by rw [bs_size]; exact hlt
      have HT := Lib.hid (V.all_take (p := fun c => V.dig c == d) hl)
      have HE : Hid (s.data.toList[k] = s[k]) := Lib.hid (by simp; rfl)
      rcases hD : V.digB s[k].toNat with _ | _ <;> cases d
      all_goals
        have HD := Lib.hid hD
        clear hD
        go_wp2_with fail
        refine (rdigit_any _ _).mono ?_
        rintro e w' ⟨rfl, rfl⟩
        simp only [HD.out]
        go_wp2
      · go_round
        case rel => exact ⟨k + 1, by omega, by go_num, by rw [HT.out, HP.out, HE.out]; show (true && (V.digB s[k].toNat == false)) = true; rw [HD.out]; rfl⟩
        case measure => simp [intOf]; omega
      · have HF := FIN.out (.inr ⟨hlt, by rw [HD.out]; rfl⟩)
        go_region
        all_goals
          go_wp2
          go_ret2
          exact ⟨by rw [HF.out.1, HF.out.2]; rfl, by first | exact Below.refl _ _ | exact (Below.refl _ _).drew⟩
      · have HF := FIN.out (.inr ⟨hlt, by rw [HD.out]; rfl⟩)
        go_region
        all_goals
          go_wp2
          go_ret2
          exact ⟨by rw [HF.out.1, HF.out.2]; rfl, by first | exact Below.refl _ _ | exact (Below.refl _ _).drew⟩
      · go_round
        case rel => exact ⟨k + 1, by omega, by go_num, by rw [HT.out, HP.out, HE.out]; show (true && (V.digB s[k].toNat == true)) = true; rw [HD.out]; rfl⟩
        case measure => simp [intOf]; omega
    · have HF := FIN.out (.inl (by omega))
      go_wp2
      go_region
      all_goals
        go_wp2
        go_ret2
        exact ⟨by rw [HF.out.1, HF.out.2]; rfl, by first | exact Below.refl _ _ | exact (Below.refl _ _).drew⟩

set_option maxRecDepth 100000 in
set_option maxHeartbeats 800000 in
theorem rweight_any (s : ByteArray) (i : Nat) (w : World) (_hs : s.size ≤ maxLen) (_hi : i ≤ maxLen) :
    Calls Tryz.prog 164 #[.string s, .int .i64 i] w fun e w' => e = .returned (.int .i64 (V.rwt s.data.toList i)) ∧ w = w' := by
  unfold maxLen at _hs _hi
  by_cases hlt : i < s.size
  · have HG := Lib.hid (at_getD hlt)
    have hb8 := s[i].toNat_lt
    by_cases h1 : s[i] = 126
    · have HW : Hid (V.rwt s.data.toList i = 0) := Lib.hid (by unfold V.rwt; rw [if_neg (by rw [bs_size]; omega), HG.out, if_pos h1])
      have hb : ((s[i].toNat : Int) == 126) = true := by rw [h1]; rfl
      clear h1
      go_enter Tryz.func164, Tryz.ntmps164
      go_wp2
      go_ret
      exact ⟨ret_int HW.out.symm, rfl⟩
    · have hb : ((s[i].toNat : Int) == 126) = false := by
        rw [beq_eq_false_iff_ne]; intro e; apply h1; rw [← UInt8.toNat_inj]
        have : s[i].toNat = 126 := by omega
        rw [this]; rfl
      rcases hL : V.letB s[i].toNat with _ | _
      · have HW : Hid (V.rwt s.data.toList i = 300 + s[i].toNat) := Lib.hid (by
          unfold V.rwt; rw [if_neg (by rw [bs_size]; omega), HG.out, if_neg h1, if_neg]
          unfold V.lett; rw [hL]; simp)
        have HL := Lib.hid hL
        clear hL h1
        go_enter Tryz.func164, Tryz.ntmps164
        go_wp2_with fail
        refine (rletter_any _ _).mono ?_
        rintro e w' ⟨rfl, rfl⟩
        simp only [HL.out]
        go_wp2
        go_ret
        exact ⟨ret_int HW.out.symm, rfl⟩
      · have HW : Hid (V.rwt s.data.toList i = 2 + s[i].toNat) := Lib.hid (by
          unfold V.rwt; rw [if_neg (by rw [bs_size]; omega), HG.out, if_neg h1, if_pos]
          unfold V.lett; rw [hL])
        have HL := Lib.hid hL
        clear hL h1
        go_enter Tryz.func164, Tryz.ntmps164
        go_wp2_with fail
        refine (rletter_any _ _).mono ?_
        rintro e w' ⟨rfl, rfl⟩
        simp only [HL.out]
        go_wp2
        go_ret
        exact ⟨ret_int HW.out.symm, rfl⟩
  · have HW : Hid (V.rwt s.data.toList i = 1) := Lib.hid (by unfold V.rwt; rw [if_pos (by rw [bs_size]; omega)])
    go_enter Tryz.func164, Tryz.ntmps164
    go_wp2
    go_ret
    exact ⟨ret_int HW.out.symm, rfl⟩

set_option maxRecDepth 100000 in
set_option maxHeartbeats 3200000 in
theorem rpart_any (s t : ByteArray) (w : World) (hs : s.size ≤ maxLen) (ht : t.size ≤ maxLen) (has : V.Ascii s.data.toList) (hat : V.Ascii t.data.toList) :
    Calls Tryz.prog 139 #[.string s, .string t] w fun e w' => e = .returned (.int .i64 (V.textsC s.data.toList t.data.toList)) ∧ Below w.heap.size w w' := by
  unfold maxLen at hs ht
  have HAS := Lib.hid has
  have HAT := Lib.hid hat
  clear has hat
  go_enter Tryz.func139, Tryz.ntmps139
  go_wp2
  go_loopw [0, 1] (fun v1 v2 wr => ∃ a b : ByteArray, v1 = .string a ∧ v2 = .string b ∧ a.size ≤ s.size ∧ b.size ≤ t.size ∧ V.Ascii a.data.toList ∧ V.Ascii b.data.toList ∧ V.textsC a.data.toList b.data.toList = V.textsC s.data.toList t.data.toList ∧ Below w.heap.size w wr) (fun v1 v2 _ => szOf v1 + szOf v2)
  case atStart => exact ⟨s, t, rfl, rfl, Nat.le_refl _, Nat.le_refl _, HAS.out, HAT.out, rfl, Below.refl _ _⟩
  case round =>
    obtain ⟨a, b, rfl, rfl, has, hbt, haa, hab, htx, hB⟩ := hrel
    have HT := Lib.hid htx
    have HB := Lib.hid hB
    have HAA := Lib.hid haa
    have HAB := Lib.hid hab
    clear htx hB haa hab
    rcases hea : a.toList.isEmpty with _ | _ <;> rcases heb : b.toList.isEmpty with _ | _
    case true.true =>
      have HR : Hid (V.textsC s.data.toList t.data.toList = 0) := Lib.hid (by
        rw [Lib.toList_data] at hea heb
        rw [← HT.out, List.isEmpty_iff.1 hea, List.isEmpty_iff.1 heb]; rfl)
      go_wp2
      go_ret
      exact ⟨ret_int HR.out.symm, HB.out⟩
    all_goals
      have hne : ¬ (a.data.toList.isEmpty && b.data.toList.isEmpty) = true := by rw [← Lib.toList_data, ← Lib.toList_data, hea, heb]; simp
      have hstep := V.textsC_step _ _ hne
      have HNE := Lib.hid hne
      clear hne
      obtain ⟨x, a1, hxa⟩ : ∃ x a1, V.takeD a.data.toList false = (x, a1) := ⟨_, _, rfl⟩
      obtain ⟨y, b1, hyb⟩ : ∃ y b1, V.takeD b.data.toList false = (y, b1) := ⟨_, _, rfl⟩
      obtain ⟨p, a2, hpa⟩ : ∃ p a2, V.takeD a1 true = (p, a2) := ⟨_, _, rfl⟩
      obtain ⟨q, b2, hqb⟩ : ∃ q b2, V.takeD b1 true = (q, b2) := ⟨_, _, rfl⟩
      have l1 := V.takeD_len a.data.toList false
      have l2 := V.takeD_len b.data.toList false
      have l3 := V.takeD_len a1 true
      have l4 := V.takeD_len b1 true
      have AX := Lib.hid (HAA.out.take false)
      have AA1 := HAA.out.rest false
      have AY := Lib.hid (HAB.out.take false)
      have AB1 := HAB.out.rest false
      rw [hxa] at AX AA1
      rw [hyb] at AY AB1
      have AA2 := Lib.hid (AA1.rest true)
      have AB2 := Lib.hid (AB1.rest true)
      rw [hpa] at AA2
      rw [hqb] at AB2
      clear AA1 AB1
      rw [hxa, bs_size] at l1
      rw [hyb, bs_size] at l2
      rw [hpa] at l3
      rw [hqb] at l4
      have l5 : a2.length + b2.length < a.size + b.size := by
        by_cases ha : a.data.toList = []
        · have hb : b.data.toList ≠ [] := fun e => HNE.out (by rw [ha, e]; rfl)
          have := V.takeD_two _ hb
          rw [hyb] at this
          simp only [hqb, bs_size] at this
          simp only at l1 l3; omega
        · have := V.takeD_two _ ha
          rw [hxa] at this
          simp only [hpa, bs_size] at this
          simp only at l2 l4; omega
      rw [hxa, hyb] at hstep
      simp only [hpa, hqb] at hstep
      rw [HT.out] at hstep
      have HSTEP := Lib.hid hstep
      have HXA := Lib.hid hxa
      have HYB := Lib.hid hyb
      have HPA := Lib.hid hpa
      have HQB := Lib.hid hqb
      simp only at l1 l2 l3 l4
      have m1 : x.length ≤ s.size := by omega
      have m2 : y.length ≤ t.size := by omega
      have m3 : a1.length ≤ s.size := by omega
      have m4 : b1.length ≤ t.size := by omega
      have m5 : a2.length ≤ s.size := by omega
      have m6 : b2.length ≤ t.size := by omega
      have m7 : p.length ≤ s.size := by omega
      have m8 : q.length ≤ t.size := by omega
      have L5 := Lib.hid l5
      clear hstep hxa hyb hpa hqb l1 l2 l3 l4 l5
      go_wp2_with fail
      refine (rsplit_any a false _ (by unfold maxLen; omega)).mono ?_
      rintro e w1 ⟨rfl, hb1⟩
      simp only [HXA.out]
      go_wp2_with fail
      refine (rsplit_any b false _ (by unfold maxLen; omega)).mono ?_
      rintro e w2 ⟨rfl, hb2⟩
      simp only [HYB.out]
      have HB2 := Lib.hid (HB.out.trans ((hb1.trans (hb2.mono hb1.size)).mono HB.out.size))
      clear hb1 hb2
      go_wp2
      go_loop [9] (fun i => ∃ k : Nat, k ≤ max x.length y.length ∧ i = .int .i64 k ∧ ∀ j, j < k → Lib.compareInt (V.wt x j) (V.wt y j) = 0) (fun i => max x.length y.length - (intOf i).toNat)
      case atStart => exact ⟨0, Nat.zero_le _, rfl, fun j hj => by omega⟩
      case round =>
        obtain ⟨k, hk, rfl, hz⟩ := hrel
        have HZ := Lib.hid hz
        clear hz
        by_cases hlt : k < max x.length y.length
        · have hor : (k < x.length) ∨ (¬ k < x.length ∧ k < y.length) := by omega
          have hcut := wcmp_hit x y k hlt HZ.out
          have HCUT := Lib.hid hcut
          have HLT := Lib.hid hlt
          have HSG := Lib.hid (V.sgn_rwt x y k AX.out AY.out)
          have hr1 := V.rwt_rng x k
          have hr2 := V.rwt_rng y k
          obtain ⟨c1, hc1⟩ : ∃ c1, V.rwt x k = c1 := ⟨_, rfl⟩
          obtain ⟨c2, hc2⟩ : ∃ c2, V.rwt y k = c2 := ⟨_, rfl⟩
          rw [hc1] at hr1 HSG
          rw [hc2] at hr2 HSG
          have HC1 := Lib.hid hc1
          have HC2 := Lib.hid hc2
          obtain ⟨r1, r1'⟩ := hr1
          obtain ⟨r2, r2'⟩ := hr2
          clear hcut hlt hc1 hc2
          rcases hor with h1 | ⟨h1, h2⟩
          all_goals
            go_wp2_with fail
            refine (rweight_any ⟨x.toArray⟩ k _ (by show x.length ≤ _; unfold maxLen; omega) (by unfold maxLen; omega)).mono ?_
            rintro e w' ⟨rfl, rfl⟩
            simp only [HC1.out]
            go_wp2_with fail
            refine (rweight_any ⟨y.toArray⟩ k _ (by show y.length ≤ _; unfold maxLen; omega) (by unfold maxLen; omega)).mono ?_
            rintro e w' ⟨rfl, rfl⟩
            simp only [HC2.out]
            by_cases h0 : c1 = c2
            · have HR : Hid (∀ j, j < k + 1 → Lib.compareInt (V.wt x j) (V.wt y j) = 0) := Lib.hid (fun j hj => by
                by_cases e : j = k
                · subst e; rw [← HSG.out, h0, Int.sub_self]; rfl
                · exact HZ.out j (by omega))
              have HL2 := HLT.out
              have hb : (c1 - c2 != 0) = false := by rw [h0, Int.sub_self]; rfl
              clear h0
              go_wp2
              go_round
              case rel => exact ⟨k + 1, by omega, by go_num, HR.out⟩
              case measure => simp [intOf]; omega
            · have HR : Hid (V.textsC s.data.toList t.data.toList = V.sgn (c1 - c2)) := Lib.hid (by
                have h5 : Lib.compareInt (V.wt x k) (V.wt y k) ≠ 0 := by rw [← HSG.out, Ne, V.sgn_zero]; omega
                rw [HSTEP.out, HCUT.out h5, V.cor_ne h5, HSG.out])
              have hb : (c1 - c2 != 0) = true := by rw [bne_iff_ne]; omega
              clear h0
              go_wp2_with fail
              refine (rsign_any _ _).mono ?_
              rintro e w' ⟨rfl, rfl⟩
              go_wp2
              go_ret
              exact ⟨ret_int HR.out.symm, HB2.out⟩
        · have HZ0 : Hid (V.wcmp x y = 0) := Lib.hid (wcmp_zero x y (fun j hj => HZ.out j (by omega)))
          have h1 : ¬ k < x.length := by omega
          have h2 : ¬ k < y.length := by omega
          clear hlt
          go_wp2_with fail
          refine (rsplit_any ⟨a1.toArray⟩ true _ (by show a1.length ≤ _; unfold maxLen; omega)).mono ?_
          rintro e w3 ⟨rfl, hb3⟩
          simp only [HPA.out]
          go_wp2_with fail
          refine (rsplit_any ⟨b1.toArray⟩ true _ (by show b1.length ≤ _; unfold maxLen; omega)).mono ?_
          rintro e w4 ⟨rfl, hb4⟩
          simp only [HQB.out]
          go_wp2_with fail
          refine (rorder_any ⟨p.toArray⟩ ⟨q.toArray⟩ _ (by show p.length ≤ _; unfold maxLen; omega) (by show q.length ≤ _; unfold maxLen; omega)).mono ?_
          rintro e w5 ⟨rfl, rfl⟩
          simp only 
          have HB5 := Lib.hid (HB2.out.trans ((hb3.trans (hb4.mono hb3.size)).mono HB2.out.size))
          clear hb3 hb4
          by_cases h0 : V.numbers p q = 0
          · have HR : Hid (V.textsC a2 b2 = V.textsC s.data.toList t.data.toList) := Lib.hid (by
              rw [HSTEP.out, HZ0.out, h0]; rfl)
            rw [h0]
            clear h0
            go_wp2
            go_roundw
            case rel => exact ⟨⟨a2.toArray⟩, ⟨b2.toArray⟩, rfl, rfl, m5, m6, by simp only ; exact AA2.out, by simp only ; exact AB2.out, by simp only ; exact HR.out, HB5.out⟩
            case measure => exact L5.out
          · have HR : Hid (V.textsC s.data.toList t.data.toList = V.numbers p q) := Lib.hid (by
              rw [HSTEP.out, HZ0.out, V.cor_zero, V.cor_ne h0])
            have hb : (V.numbers p q != 0) = true := by simpa using h0
            generalize V.numbers p q = c at *
            clear h0
            go_wp2
            go_ret
            exact ⟨ret_int HR.out.symm, HB5.out⟩

theorem rpart_at (x y : V.Bs) (w : World) (hx : x.length ≤ 1000) (hy : y.length ≤ 1000) (ax : V.Ascii x) (ay : V.Ascii y) :
    Calls Tryz.prog 139 #[.string ⟨x.toArray⟩, .string ⟨y.toArray⟩] w fun e w' => e = .returned (.int .i64 (V.textsC x y)) ∧ Below w.heap.size w w' := by
  have h := rpart_any ⟨x.toArray⟩ ⟨y.toArray⟩ w (by show x.length ≤ _; unfold maxLen; omega) (by show y.length ≤ _; unfold maxLen; omega)
  simp only  at h
  exact h ax ay
end Go.Proofs.YtpjjkbdkgaehkaaGreatDoor
namespace Go.Proofs.YtpjjkbdkgaehkaaGreatDoor
open Go.RowKit

theorem rdeb_some {r : Option (V.Bs × V.Bs × V.Bs)} {E U R : V.Bs} {w : World} {e : Ending} {w' : World} (h : RDeb r w e w') (hr : r = some (E, U, R)) :
    ∃ b off cap, e = .returned (.tuple #[.slice (some ⟨b, off, none⟩) 3 cap, .bool true]) ∧ b < w'.heap.size ∧ w'.cell? ⟨b, off, none⟩ = some (.string ⟨(epochOf E).toArray⟩) ∧
      w'.cell? ⟨b, off + 1, none⟩ = some (.string ⟨U.toArray⟩) ∧ w'.cell? ⟨b, off + 2, none⟩ = some (.string ⟨R.toArray⟩) ∧ Below w.heap.size w w' := by
  subst hr
  obtain ⟨hb, v, rfl, hs⟩ := h
  obtain ⟨b, off, cap, rfl, hlt, hc⟩ := hs.head (by simp)
  exact ⟨b, off, cap, rfl, hlt, hc 0 (by simp), hc 1 (by simp), hc 2 (by simp), hb⟩

theorem value_epoch (e : V.Bs) : V.value (epochOf e) = V.value e := by
  unfold epochOf
  split
  · rename_i h; subst h; rfl
  · rfl

theorem rorder_q (x y : V.Bs) (w : World) (hx : x.length ≤ 1000) (hy : y.length ≤ 1000) :
    Calls Tryz.prog 136 #[.string ⟨x.toArray⟩, .string ⟨y.toArray⟩] w fun e w' => e = .returned (.int .i64 (V.numbers x y)) ∧ w' = w := by
  have h := rorder_any ⟨x.toArray⟩ ⟨y.toArray⟩ w (by show x.length ≤ _; unfold maxLen; omega) (by show y.length ≤ _; unfold maxLen; omega)
  simp only  at h
  exact h.mono fun _ _ h => ⟨h.1, h.2.symm⟩

set_option maxRecDepth 100000 in
set_option maxHeartbeats 3200000 in
theorem rbyDebian_any (s t : ByteArray) (x0 x1 x2 y0 y1 y2 : V.Bs) (w : World) (hm : MaxOk w) (hs : s.size ≤ 64) (ht : t.size ≤ 64)
    (hp : V.debParse s.data.toList = some (x0, x1, x2)) (hq : V.debParse t.data.toList = some (y0, y1, y2)) :
    Calls Tryz.prog 108 #[.string s, .string t] w fun e w' => e = .returned (.int .i64 (V.debCmp (x0, x1, x2) (y0, y1, y2))) ∧ Below w.heap.size w w' := by
  have fa := V.debParse_facts hp
  have fb := V.debParse_facts hq
  rw [bs_size] at fa fb
  have ga := V.debParse_ascii hp
  have gb := V.debParse_ascii hq
  obtain ⟨fa0, fa1, fa2⟩ := fa
  obtain ⟨fb0, fb1, fb2⟩ := fb
  simp only at fa0 fa1 fa2 fb0 fb1 fb2
  have GA := Lib.hid ga
  have GB := Lib.hid gb
  have hex : (epochOf x0).length ≤ 65 := by unfold epochOf; split <;> (try simp) <;> omega
  have hey : (epochOf y0).length ≤ 65 := by unfold epochOf; split <;> (try simp) <;> omega
  have HF : Hid (V.debCmp (x0, x1, x2) (y0, y1, y2) = V.cor (V.numbers (epochOf x0) (epochOf y0)) (V.cor (V.textsC x1 y1) (V.textsC x2 y2))) := Lib.hid (by
    unfold V.debCmp
    rw [V.numbers_value (value_epoch x0) (value_epoch y0)]
    simp only [V.orI, V.cor_right])
  obtain ⟨ex, hex'⟩ : ∃ x, epochOf x0 = x := ⟨_, rfl⟩
  obtain ⟨ey, hey'⟩ : ∃ x, epochOf y0 = x := ⟨_, rfl⟩
  rw [hex'] at hex HF
  rw [hey'] at hey HF
  have HEX := Lib.hid hex'
  have HEY := Lib.hid hey'
  have HP := Lib.hid hp
  have HQ := Lib.hid hq
  have HM := Lib.hid hm
  clear hp hq hm ga gb hex' hey'
  go_enter Tryz.func108, Tryz.ntmps108
  go_wp2_with fail
  refine (rdebian_any s _ HM.out (by omega)).mono ?_
  rintro e w1 h
  obtain ⟨b, off, cap, rfl, hlt, c0, c1, c2, hb1⟩ := rdeb_some h HP.out
  rw [HEX.out] at c0
  have hm1 := HM.out.below hb1
  have HB1 := Lib.hid hb1
  clear h hb1
  go_wp2_with fail
  refine (rdebian_any t _ hm1 (by omega)).mono ?_
  rintro e w2 h
  obtain ⟨b', off', cap', rfl, hlt', d0, d1, d2, hb2⟩ := rdeb_some h HQ.out
  rw [HEY.out] at d0
  have e0 := (hb2.cell (p := ⟨b, off, none⟩) hlt).trans c0
  have e1 := (hb2.cell (p := ⟨b, off + 1, none⟩) hlt).trans c1
  have e2 := (hb2.cell (p := ⟨b, off + 2, none⟩) hlt).trans c2
  have hlt2 : b < w2.heap.size := Nat.lt_of_lt_of_le hlt hb2.size
  have HB2 := Lib.hid (HB1.out.trans (hb2.mono HB1.out.size))
  clear h hb2 c0 c1 c2 hlt
  go_wp2_with fail
  go_quiet ((go_at_call 136; exact Calls.quiet_of_same (rorder_q ex ey _ (by omega) (by omega))))
  rename_i nq
  have f1 : (w2.drewN nq).cell? ⟨b, off + 1, none⟩ = some (.string ⟨x1.toArray⟩) := by rw [World.cell?_drewN]; exact e1
  have f2 : (w2.drewN nq).cell? ⟨b, off + 2, none⟩ = some (.string ⟨x2.toArray⟩) := by rw [World.cell?_drewN]; exact e2
  have g1 : (w2.drewN nq).cell? ⟨b', off' + 1, none⟩ = some (.string ⟨y1.toArray⟩) := by rw [World.cell?_drewN]; exact d1
  have g2 : (w2.drewN nq).cell? ⟨b', off' + 2, none⟩ = some (.string ⟨y2.toArray⟩) := by rw [World.cell?_drewN]; exact d2
  have HBW := Lib.hid (below_drewN HB2.out nq)
  have lt1 : b < (w2.drewN nq).heap.size := Nat.lt_of_lt_of_le hlt2 (below_drewN (Below.refl w2.heap.size w2) nq).size
  have lt2 : b' < (w2.drewN nq).heap.size := Nat.lt_of_lt_of_le hlt' (below_drewN (Below.refl w2.heap.size w2) nq).size
  clear e0 e1 e2 d0 d1 d2 HB2 hlt2 hlt'
  generalize w2.drewN nq = W at *
  by_cases h0 : V.numbers ex ey = 0
  · have HF2 : Hid (V.debCmp (x0, x1, x2) (y0, y1, y2) = V.cor (V.textsC x1 y1) (V.textsC x2 y2)) := Lib.hid (by rw [HF.out, h0]; rfl)
    rw [h0]
    clear h0
    go_wp2
    go_still_tail 6, (by kernel_rfl)
    change wpList _ _ _ _ _ W.drew
    have k2 : W.drew.cell? ⟨b, off + 2, none⟩ = some (.string ⟨x2.toArray⟩) := by rw [World.cell?_drew]; exact f2
    have l2 : W.drew.cell? ⟨b', off' + 2, none⟩ = some (.string ⟨y2.toArray⟩) := by rw [World.cell?_drew]; exact g2
    have HBV := Lib.hid HBW.out.drew
    have lt1' : b < W.drew.heap.size := lt1
    have lt2' : b' < W.drew.heap.size := lt2
    clear f1 f2 g1 g2 lt1 lt2 HBW
    generalize W.drew = W2 at *
    go_wp2_with fail
    refine (rpart_at x1 y1 _ (by omega) (by omega) GA.out.1 GB.out.1).mono ?_
    rintro e w3 ⟨rfl, hb3⟩
    have m2 := (hb3.cell (p := ⟨b, off + 2, none⟩) lt1').trans k2
    have n2 := (hb3.cell (p := ⟨b', off' + 2, none⟩) lt2').trans l2
    have HB3 := Lib.hid (HBV.out.trans (hb3.mono HBV.out.size))
    clear k2 l2 lt1' lt2' hb3 HBV
    by_cases h0 : V.textsC x1 y1 = 0
    · have HF3 : Hid (V.debCmp (x0, x1, x2) (y0, y1, y2) = V.textsC x2 y2) := Lib.hid (by rw [HF2.out, h0]; rfl)
      rw [h0]
      clear h0
      go_wp2
      go_still_tail 6, (by kernel_rfl)
      change wpList _ _ _ _ _ w3.drew
      have HBV := Lib.hid HB3.out.drew
      clear m2 n2 HB3
      generalize w3.drew = W4 at *
      go_wp2_with fail
      refine (rpart_at x2 y2 _ (by omega) (by omega) GA.out.2 GB.out.2).mono ?_
      rintro e w5 ⟨rfl, hb5⟩
      have HB5 := Lib.hid (HBV.out.trans (hb5.mono HBV.out.size))
      clear hb5
      go_wp2
      go_ret
      exact ⟨ret_int HF3.out.symm, HB5.out⟩
    · have HF3 : Hid (V.debCmp (x0, x1, x2) (y0, y1, y2) = V.textsC x1 y1) := Lib.hid (by rw [HF2.out, V.cor_ne h0])
      have hb : (V.textsC x1 y1 != 0) = true := by simpa using h0
      generalize V.textsC x1 y1 = c at *
      clear h0
      go_wp2
      go_ret
      exact ⟨ret_int HF3.out.symm, HB3.out⟩
  · have HF2 : Hid (V.debCmp (x0, x1, x2) (y0, y1, y2) = V.numbers ex ey) := Lib.hid (by rw [HF.out, V.cor_ne h0])
    have hb : (V.numbers ex ey != 0) = true := by simpa using h0
    generalize V.numbers ex ey = c at *
    clear h0
    go_wp2
    go_ret
    exact ⟨ret_int HF2.out.symm, HBW.out⟩
theorem rdots_len (s : ByteArray) (hs : s.size ≤ 64) : (V.splitOn 46 s.data.toList).length ≤ 65 ∧ ∀ j, ((V.splitOn 46 s.data.toList).getD j [48]).length ≤ 65 := by
  have h1 := splitOn_le 46 s.data.toList
  have h2 := splitOn_mem 46 s.data.toList
  rw [bs_size] at h1 h2
  refine ⟨by omega, fun j => ?_⟩
  rw [List.getD_eq_getElem?_getD]
  rcases hk : (V.splitOn 46 s.data.toList)[j]? with _ | x
  · simp
  · have := h2 x (List.mem_of_getElem? hk); simp; omega

set_option maxRecDepth 100000 in
set_option maxHeartbeats 3200000 in
theorem rbyDots_any (s t : ByteArray) (w : World) (hm : MaxOk w) (hs : s.size ≤ 64) (ht : t.size ≤ 64) :
    Calls Tryz.prog 109 #[.string s, .string t] w fun e w' => e = .returned (.int .i64 (V.dotCmp s.data.toList t.data.toList)) ∧ Below w.heap.size w w' := by
  have HF := Lib.hid (V.pad_dots s.data.toList t.data.toList)
  have hls := rdots_len s hs
  have hlt := rdots_len t ht
  obtain ⟨L, hL⟩ : ∃ L, V.splitOn 46 s.data.toList = L := ⟨_, rfl⟩
  obtain ⟨M, hM⟩ : ∃ M, V.splitOn 46 t.data.toList = M := ⟨_, rfl⟩
  rw [hL] at hls HF
  rw [hM] at hlt HF
  obtain ⟨l1, HL1⟩ := hls
  obtain ⟨m1, HM1⟩ := hlt
  have HL1 := Lib.hid HL1
  have HM1 := Lib.hid HM1
  have HMX := Lib.hid hm
  have HL := Lib.hid hL
  have HM := Lib.hid hM
  clear hm hL hM
  go_enter Tryz.func109, Tryz.ntmps109
  go_wp2_with fail
  refine (split_any s 46 _ HMX.out (by omega)).mono ?_
  rintro e w1 ⟨rfl, hw1⟩
  rw [HL.out] at hw1 ⊢
  have hb1 : Below w.heap.size w w1 := by rw [hw1]; exact (Below.refl _ _).alloc (Nat.le_refl _) _
  have c1 := split_cells hw1
  have z1 : w.heap.size < w1.heap.size := by rw [hw1]; simp
  clear hw1
  go_wp2_with fail
  refine (split_any t 46 _ (HMX.out.below hb1) (by omega)).mono ?_
  rintro e w2 ⟨rfl, hw2⟩
  rw [HM.out] at hw2 ⊢
  have hb2 : Below w1.heap.size w1 w2 := by rw [hw2]; exact (Below.refl _ _).alloc (Nat.le_refl _) _
  have HC1 : Hid (∀ (j : Nat) (_ : j < L.length), w2.cell? ⟨w.heap.size, j, none⟩ = some (.string ⟨(L.getD j [48]).toArray⟩)) := Lib.hid (fun j hj => by
    rw [hb2.cell (p := ⟨w.heap.size, j, none⟩) z1, c1 j hj, List.getD_eq_getElem?_getD, List.getElem?_eq_getElem hj]; rfl)
  have HC2 : Hid (∀ (j : Nat) (_ : j < M.length), w2.cell? ⟨w1.heap.size, j, none⟩ = some (.string ⟨(M.getD j [48]).toArray⟩)) := Lib.hid (fun j hj => by
    rw [split_cells hw2 j hj, List.getD_eq_getElem?_getD, List.getElem?_eq_getElem hj]; rfl)
  have HB2 := Lib.hid (hb1.trans (hb2.mono hb1.size))
  clear hb1 hb2 c1 z1 hw2
  go_wp2
  go_loop [7] (fun i => ∃ k : Nat, k ≤ max L.length M.length ∧ i = .int .i64 k ∧ ∀ j, j < k → V.numbers (L.getD j [48]) (M.getD j [48]) = 0) (fun i => max L.length M.length - (intOf i).toNat)
  case atStart => exact ⟨0, Nat.zero_le _, rfl, fun j hj => by omega⟩
  case round =>
    obtain ⟨k, hk, rfl, hz⟩ := hrel
    have HZ := Lib.hid hz
    clear hz
    by_cases hor : k < L.length ∨ k < M.length
    · have hsl := HL1.out k
      have hsm := HM1.out k
      have HHIT := Lib.hid (V.pad_hit k L M HZ.out hor)
      obtain ⟨x, hx⟩ : ∃ x, L.getD k [48] = x := ⟨_, rfl⟩
      obtain ⟨y, hy⟩ : ∃ y, M.getD k [48] = y := ⟨_, rfl⟩
      have HX := Lib.hid hx
      have HY := Lib.hid hy
      have hcx := HC1.out k
      have hcy := HC2.out k
      rw [hx] at hsl hcx HHIT
      rw [hy] at hsm hcy HHIT
      have hex : ¬ k < L.length → x = [48] := fun h => by rw [← hx, List.getD_eq_getElem?_getD, List.getElem?_eq_none (by omega)]; rfl
      have hey : ¬ k < M.length → y = [48] := fun h => by rw [← hy, List.getD_eq_getElem?_getD, List.getElem?_eq_none (by omega)]; rfl
      have HNEXT : Hid (V.numbers x y = 0 → ∀ j, j < k + 1 → V.numbers (L.getD j [48]) (M.getD j [48]) = 0) := Lib.hid (fun h0 j hj => by
        by_cases e : j = k
        · subst e; rw [HX.out, HY.out]; exact h0
        · exact HZ.out j (by omega))
      have hkm : Hid (k < max L.length M.length) := Lib.hid (by omega)
      clear hx hy
      have three : (k < L.length ∧ k < M.length) ∨ (k < L.length ∧ ¬ k < M.length) ∨ (¬ k < L.length ∧ k < M.length) := by omega
      clear hor
      rcases three with ⟨a1, a2⟩ | ⟨a1, a2⟩ | ⟨a1, a2⟩
      · have d1 := hcx a1
        have d2 := hcy a2
        clear hex hey hcx hcy
        go_wp2_with fail
        refine (rorder_q x y _ (by omega) (by omega)).mono ?_
        rintro e w' ⟨rfl, rfl⟩
        by_cases h0 : V.numbers x y = 0
        · have HN := Lib.hid (HNEXT.out h0)
          rw [h0]
          clear h0
          have hk2 := hkm.out
          go_wp2
          go_round
          case rel => exact ⟨k + 1, by omega, by go_num, HN.out⟩
          case measure => simp [intOf]; omega
        · have HR : Hid (V.dotCmp s.data.toList t.data.toList = V.numbers x y) := Lib.hid (by rw [← HF.out]; exact HHIT.out h0)
          have hb : (V.numbers x y != 0) = true := by simpa using h0
          generalize V.numbers x y = c at *
          clear h0
          go_wp2
          go_ret
          exact ⟨ret_int HR.out.symm, HB2.out⟩
      · have d1 := hcx a1
        obtain rfl := hey a2
        clear hex hey hcx hcy
        go_wp2_with fail
        refine (rorder_q x [48] _ (by omega) (by simp)).mono ?_
        rintro e w' ⟨rfl, rfl⟩
        by_cases h0 : V.numbers x [48] = 0
        · have HN := Lib.hid (HNEXT.out h0)
          rw [h0]
          clear h0
          have hk2 := hkm.out
          go_wp2
          go_round
          case rel => exact ⟨k + 1, by omega, by go_num, HN.out⟩
          case measure => simp [intOf]; omega
        · have HR : Hid (V.dotCmp s.data.toList t.data.toList = V.numbers x [48]) := Lib.hid (by rw [← HF.out]; exact HHIT.out h0)
          have hb : (V.numbers x [48] != 0) = true := by simpa using h0
          generalize V.numbers x [48] = c at *
          clear h0
          go_wp2
          go_ret
          exact ⟨ret_int HR.out.symm, HB2.out⟩
      · have d2 := hcy a2
        obtain rfl := hex a1
        clear hex hey hcx hcy
        go_wp2_with fail
        refine (rorder_q [48] y _ (by simp) (by omega)).mono ?_
        rintro e w' ⟨rfl, rfl⟩
        by_cases h0 : V.numbers [48] y = 0
        · have HN := Lib.hid (HNEXT.out h0)
          rw [h0]
          clear h0
          have hk2 := hkm.out
          go_wp2
          go_round
          case rel => exact ⟨k + 1, by omega, by go_num, HN.out⟩
          case measure => simp [intOf]; omega
        · have HR : Hid (V.dotCmp s.data.toList t.data.toList = V.numbers [48] y) := Lib.hid (by rw [← HF.out]; exact HHIT.out h0)
          have hb : (V.numbers [48] y != 0) = true := by simpa using h0
          generalize V.numbers [48] y = c at *
          clear h0
          go_wp2
          go_ret
          exact ⟨ret_int HR.out.symm, HB2.out⟩
    · have HE : Hid (V.dotCmp s.data.toList t.data.toList = 0) := Lib.hid (by rw [← HF.out]; exact V.pad_end k L M HZ.out hor)
      have a1 : ¬ k < L.length := by omega
      have a2 : ¬ k < M.length := by omega
      clear hor
      go_wp2
      go_ret
      exact ⟨ret_int HE.out.symm, HB2.out⟩
end Go.Proofs.YtpjjkbdkgaehkaaGreatDoor
namespace Go.Proofs.YtpjjkbdkgaehkaaGreatDoor
open Go.RowKit

theorem ridentifier_q (x y : V.Bs) (w : World) (hx : x.length ≤ 1000) (hy : y.length ≤ 1000) :
    Calls Tryz.prog 137 #[.string ⟨x.toArray⟩, .string ⟨y.toArray⟩] w fun e w' => e = .returned (.int .i64 (V.identC x y)) ∧ w' = w := by
  have h := ridentifier_any ⟨x.toArray⟩ ⟨y.toArray⟩ w (by show x.length ≤ _; unfold maxLen; omega) (by show y.length ≤ _; unfold maxLen; omega)
  simp only  at h
  exact h.mono fun _ _ h => ⟨h.1, h.2.symm⟩

theorem sem_three {s : V.Bs} {l pre : List V.Bs} (h : V.semParse s = some (l, pre)) : l.length = 3 := by
  unfold V.semParse at h
  split at h
  · cases h
  · rename_i hn
    split at h
    · simp only [Option.some.injEq, Prod.mk.injEq] at h
      obtain ⟨rfl, _⟩ := h
      simp only [Bool.or_eq_true, not_or] at hn
      simpa using hn.2
    · cases h

theorem pre_len {s : V.Bs} {l pre : List V.Bs} (h : V.semParse s = some (l, pre)) : pre.length ≤ s.length + 1 := by
  unfold V.semParse at h
  split at h
  · cases h
  · split at h
    · simp only [Option.some.injEq, Prod.mk.injEq] at h
      obtain ⟨_, h⟩ := h
      have h1 := V.cut1_le 43 s
      have h2 := V.cut1_le 45 (V.cut1 43 s).1
      have h3 := splitOn_le 46 (V.cut1 45 (V.cut1 43 s).1).2.1
      split at h
      · subst h; omega
      · subst h; simp
    · cases h

theorem sem_hit (x y : List V.Bs × List V.Bs) (k : Nat) (hk : k < 3) (h : ∀ j, j < k → V.numbers (x.1.getD j []) (y.1.getD j []) = 0) (h0 : V.numbers (x.1.getD k []) (y.1.getD k []) ≠ 0) :
    V.semCmp x y = V.numbers (x.1.getD k []) (y.1.getD k []) := by
  have h3 : k = 0 ∨ k = 1 ∨ k = 2 := by omega
  unfold V.semCmp
  rcases h3 with rfl | rfl | rfl
  · simp only [V.orI, V.cor_ne h0]
  · simp only [V.orI, h 0 (by omega), V.cor_zero, V.cor_ne h0]
  · simp only [V.orI, h 0 (by omega), h 1 (by omega), V.cor_zero, V.cor_ne h0]
theorem sem_zero (x y : List V.Bs × List V.Bs) (h : ∀ j, j < 3 → V.numbers (x.1.getD j []) (y.1.getD j []) = 0) : V.semCmp x y = V.preCmp x.2 y.2 := by
  unfold V.semCmp
  simp only [V.orI, h 0 (by omega), h 1 (by omega), h 2 (by omega), V.cor_zero]

theorem rsem_some {r : Option (List V.Bs × List V.Bs)} {l pre : List V.Bs} {w : World} {e : Ending} {w' : World} (h : RSem r w e w') (hr : r = some (l, pre)) (h3 : l.length = 3) :
    ∃ b off cap a c, e = .returned (.tuple #[.slice (some ⟨b, off, none⟩) 3 cap, .slice a pre.length c, .bool true]) ∧ b < w'.heap.size ∧ (∀ j, j < 3 → w'.cell? ⟨b, off + j, none⟩ = some (.string ⟨(l.getD j []).toArray⟩)) ∧
      Strs w' (.slice a pre.length c) pre ∧ Below w.heap.size w w' := by
  subst hr
  obtain ⟨hb, v, u, rfl, hs, hu⟩ := h
  obtain ⟨b, off, cap, rfl, hlt, hc⟩ := hs.head (by omega)
  have hu' := hu
  obtain ⟨a, c, rfl⟩ := hu.slice
  rw [h3] at hc
  exact ⟨b, off, cap, a, c, by rw [h3], hlt, hc, hu', hb⟩

set_option maxRecDepth 100000 in
set_option maxHeartbeats 3200000 in
theorem rbySemver_any (s t : ByteArray) (la pa lb pb : List V.Bs) (w : World) (hm : MaxOk w) (hs : s.size ≤ 64) (ht : t.size ≤ 64)
    (hp : V.semParse s.data.toList = some (la, pa)) (hq : V.semParse t.data.toList = some (lb, pb)) :
    Calls Tryz.prog 107 #[.string s, .string t] w fun e w' => e = .returned (.int .i64 (V.semCmp (la, pa) (lb, pb))) ∧ Below w.heap.size w w' := by
  have fa := V.semParse_facts hp
  have fb := V.semParse_facts hq
  have na := pre_len hp
  have nb := pre_len hq
  rw [bs_size] at fa fb na nb
  have GA : Hid (∀ j, (la.getD j []).length ≤ 64) := Lib.hid (fun j => by have := V.getD_le fa.1 j; omega)
  have GB : Hid (∀ j, (lb.getD j []).length ≤ 64) := Lib.hid (fun j => by have := V.getD_le fb.1 j; omega)
  have IA : Hid (∀ j, (pa.getD j []).length ≤ 64) := Lib.hid (fun j => by have := V.getD_le (fun x hx => (fa.2 x hx).1) j; omega)
  have IB : Hid (∀ j, (pb.getD j []).length ≤ 64) := Lib.hid (fun j => by have := V.getD_le (fun x hx => (fb.2 x hx).1) j; omega)
  have hpa : pa.length ≤ 65 := by omega
  have hpb : pb.length ≤ 65 := by omega
  have T1 := Lib.hid (sem_three hp)
  have T2 := Lib.hid (sem_three hq)
  have HP := Lib.hid hp
  have HQ := Lib.hid hq
  have HM := Lib.hid hm
  clear hp hq hm fa fb na nb
  go_enter Tryz.func107, Tryz.ntmps107
  go_wp2_with fail
  refine (rsemver_any s _ HM.out (by omega)).mono ?_
  rintro e w1 h
  obtain ⟨b1, o1, cap1, a3, c3, rfl, lt1, hc1, hs1, hb1⟩ := rsem_some h HP.out T1.out
  have hm1 := HM.out.below hb1
  have HB1 := Lib.hid hb1
  have HC1 := Lib.hid hc1
  have HS1 := Lib.hid hs1
  clear h hb1 hc1 hs1
  go_wp2_with fail
  refine (rsemver_any t _ hm1 (by omega)).mono ?_
  rintro e w2 h
  obtain ⟨b2, o2, cap2, a4, c4, rfl, lt2, hc2, hs2, hb2⟩ := rsem_some h HQ.out T2.out
  have lt1' : b1 < w2.heap.size := Nat.lt_of_lt_of_le lt1 hb2.size
  have HC1' : Hid (∀ j, j < 3 → w2.cell? ⟨b1, o1 + j, none⟩ = some (.string ⟨(la.getD j []).toArray⟩)) := Lib.hid (fun j hj => (hb2.cell (p := ⟨b1, o1 + j, none⟩) lt1).trans (HC1.out j hj))
  have HC2 := Lib.hid hc2
  have HS1' := Lib.hid (HS1.out.below hb2)
  have HS2 := Lib.hid hs2
  have HB2 := Lib.hid (HB1.out.trans (hb2.mono HB1.out.size))
  clear h hb2 hc2 hs2 HC1 HS1 hm1 lt1
  go_wp2
  go_loopw [11] (fun i wr => ∃ k : Nat, k ≤ 3 ∧ i = .int .i64 k ∧ (∀ j, j < k → V.numbers (la.getD j []) (lb.getD j []) = 0) ∧ Below w2.heap.size w2 wr) (fun i _ => 3 - (intOf i).toNat)
  case atStart => exact ⟨0, Nat.zero_le _, rfl, fun j hj => by omega, Below.refl _ _⟩
  case round =>
    obtain ⟨k, hk, rfl, hz, hB⟩ := hrel
    have HZ := Lib.hid hz
    have HB := Lib.hid hB
    clear hz hB
    by_cases hlt : k < 3
    · have hx := (HB.out.cell (p := ⟨b1, o1 + k, none⟩) lt1').trans (HC1'.out k hlt)
      have hy := (HB.out.cell (p := ⟨b2, o2 + k, none⟩) lt2).trans (HC2.out k hlt)
      have hlx := GA.out k
      have hly := GB.out k
      have HHIT := Lib.hid (sem_hit (la, pa) (lb, pb) k hlt HZ.out)
      have HNEXT : Hid (V.numbers (la.getD k []) (lb.getD k []) = 0 → ∀ j, j < k + 1 → V.numbers (la.getD j []) (lb.getD j []) = 0) := Lib.hid (fun h0 j hj => by
        by_cases e : j = k
        · subst e; exact h0
        · exact HZ.out j (by omega))
      simp only at HHIT
      generalize la.getD k [] = x at *
      generalize lb.getD k [] = y at *
      go_wp2
      go_quiet ((go_at_call 136; exact Calls.quiet_of_same (rorder_q x y _ (by omega) (by omega))))
      rename_i nq
      have HB5 := Lib.hid (below_drewN HB.out nq)
      clear hx hy
      generalize wr.drewN nq = W at *
      by_cases h0 : V.numbers x y = 0
      · have HN := Lib.hid (HNEXT.out h0)
        rw [h0]
        clear h0
        go_wp2
        go_roundw
        case rel => exact ⟨k + 1, by omega, by go_num, HN.out, HB5.out⟩
        case measure => simp [intOf]; omega
      · have HR : Hid (V.semCmp (la, pa) (lb, pb) = V.numbers x y) := Lib.hid (HHIT.out h0)
        have hb : (V.numbers x y != 0) = true := by simpa using h0
        generalize V.numbers x y = c at *
        clear h0
        go_wp2
        go_ret
        exact ⟨ret_int HR.out.symm, HB2.out.trans (HB5.out.mono HB2.out.size)⟩
    · obtain rfl : k = 3 := by omega
      have HF : Hid (V.semCmp (la, pa) (lb, pb) = V.preCmp pa pb) := Lib.hid (sem_zero _ _ HZ.out)
      have hP : Hid (V.preCmp pa pb = if pa.isEmpty || pb.isEmpty then Lib.compareInt pb.length pa.length else V.listCmp V.identC pa pb) := rfl
      have HBE := Lib.hid (HB2.out.trans (HB.out.mono HB2.out.size))
      clear hlt
      by_cases h1 : pa.length = 0
      · have b1e : ((pa.length : Int) == 0) = true := by rw [h1]; rfl
        have b1g : ¬ (0 < pa.length) := by omega
        have HF3 : Hid (V.semCmp (la, pa) (lb, pb) = Lib.compareInt pb.length 0) := Lib.hid (by
          rw [HF.out, hP.out, if_pos (by rw [List.eq_nil_of_length_eq_zero h1]; rfl), h1]; rfl)
        clear h1
        by_cases h2 : 0 < pb.length
        · have HF4 : Hid (V.semCmp (la, pa) (lb, pb) = 1) := Lib.hid (by
            rw [HF3.out]; unfold Lib.compareInt; rw [if_neg (by omega), if_pos (by omega)])
          go_wp2
          go_ret
          exact ⟨ret_int HF4.out.symm, HBE.out⟩
        · have HF4 : Hid (V.semCmp (la, pa) (lb, pb) = 0) := Lib.hid (by
            rw [HF3.out]; unfold Lib.compareInt; rw [if_neg (by omega), if_neg (by omega)])
          go_wp2
          go_ret
          exact ⟨ret_int HF4.out.symm, HBE.out⟩
      · have b1e : ((pa.length : Int) == 0) = false := by rw [beq_eq_false_iff_ne]; omega
        have b1g : 0 < pa.length := by omega
        by_cases h2 : pb.length = 0
        · have b2e : ((pb.length : Int) == 0) = true := by rw [h2]; rfl
          have HF4 : Hid (V.semCmp (la, pa) (lb, pb) = -1) := Lib.hid (by
            rw [HF.out, hP.out, if_pos (by rw [List.eq_nil_of_length_eq_zero h2]; simp), h2]; unfold Lib.compareInt; rw [if_pos (by simp; omega)])
          clear h1 h2
          go_wp2
          go_ret
          exact ⟨ret_int HF4.out.symm, HBE.out⟩
        · have b2e : ((pb.length : Int) == 0) = false := by rw [beq_eq_false_iff_ne]; omega
          have b2g : 0 < pb.length := by omega
          have HF3 : Hid (V.semCmp (la, pa) (lb, pb) = V.listCmp V.identC pa pb) := Lib.hid (by
            rw [HF.out, hP.out, if_neg]
            cases pa <;> cases pb <;> simp at h1 h2 ⊢)
          clear h1 h2
          obtain ⟨b5, o5, e5, lt5, _⟩ := HS1'.out.at 0 b1g
          obtain ⟨b6, o6, e6, lt6, _⟩ := HS2.out.at 0 b2g
          have HD1 : Hid (∀ j, j < pa.length → w2.cell? ⟨b5, o5 + j, none⟩ = some (.string ⟨(pa.getD j []).toArray⟩)) := Lib.hid (fun j hj => by
            obtain ⟨b', o', e', _, h⟩ := HS1'.out.at j hj
            rw [e5] at e'; cases e'; exact h)
          have HD2 : Hid (∀ j, j < pb.length → w2.cell? ⟨b6, o6 + j, none⟩ = some (.string ⟨(pb.getD j []).toArray⟩)) := Lib.hid (fun j hj => by
            obtain ⟨b', o', e', _, h⟩ := HS2.out.at j hj
            rw [e6] at e'; cases e'; exact h)
          subst e5 e6
          clear HS1' HS2
          obtain ⟨wo, hwo⟩ : ∃ wo : World, wo = wr := ⟨_, rfl⟩
          subst hwo
          go_wp2
          go_loopw [13] (fun i wr => ∃ k : Nat, k ≤ pa.length ∧ k ≤ pb.length ∧ i = .int .i64 k ∧ (∀ j, j < k → V.identC (pa.getD j []) (pb.getD j []) = 0) ∧ Below w2.heap.size w2 wr) (fun i _ => pa.length - (intOf i).toNat)
          case atStart => exact ⟨0, Nat.zero_le _, Nat.zero_le _, rfl, fun j hj => by omega, HB.out⟩
          case round =>
            obtain ⟨k, hk1, hk2, rfl, hz, hB⟩ := hrel
            have HZ := Lib.hid hz
            have HB := Lib.hid hB
            clear hz hB
            by_cases hlt1 : k < pa.length
            · by_cases hlt2 : k < pb.length
              · have hx := (HB.out.cell (p := ⟨b5, o5 + k, none⟩) lt5).trans (HD1.out k hlt1)
                have hy := (HB.out.cell (p := ⟨b6, o6 + k, none⟩) lt6).trans (HD2.out k hlt2)
                have hlx := IA.out k
                have hly := IB.out k
                have HHIT := Lib.hid (listCmp_hit k pa pb hlt1 hlt2 HZ.out)
                have HNEXT : Hid (V.identC (pa.getD k []) (pb.getD k []) = 0 → ∀ j, j < k + 1 → V.identC (pa.getD j []) (pb.getD j []) = 0) := Lib.hid (fun h0 j hj => by
                  by_cases e : j = k
                  · subst e; exact h0
                  · exact HZ.out j (by omega))
                generalize pa.getD k [] = x at *
                generalize pb.getD k [] = y at *
                go_wp2
                go_quiet ((go_at_call 137; exact Calls.quiet_of_same (ridentifier_q x y _ (by omega) (by omega))))
                rename_i nq
                have HB5 := Lib.hid (below_drewN HB.out nq)
                clear hx hy
                generalize wr.drewN nq = W at *
                by_cases h0 : V.identC x y = 0
                · have HN := Lib.hid (HNEXT.out h0)
                  rw [h0]
                  clear h0
                  go_wp2
                  go_roundw
                  case rel => exact ⟨k + 1, by omega, by omega, by go_num, HN.out, HB5.out⟩
                  case measure => simp [intOf]; omega
                · have HR : Hid (V.semCmp (la, pa) (lb, pb) = V.identC x y) := Lib.hid (by rw [HF3.out]; exact HHIT.out h0)
                  have hb : (V.identC x y != 0) = true := by simpa using h0
                  generalize V.identC x y = c at *
                  clear h0
                  go_wp2
                  go_ret
                  exact ⟨ret_int HR.out.symm, HB2.out.trans (HB5.out.mono HB2.out.size)⟩
              · have HR : Hid (V.semCmp (la, pa) (lb, pb) = V.sgn ((pa.length : Int) - pb.length)) := Lib.hid (by
                  rw [HF3.out, listCmp_left k pa pb hlt1 (by omega) HZ.out]; unfold V.sgn; rw [if_neg (by omega), if_pos (by omega)])
                go_wp2_with fail
                refine (rsign_any _ _).mono ?_
                rintro e w' ⟨rfl, rfl⟩
                go_wp2
                go_ret
                exact ⟨ret_int HR.out.symm, HB2.out.trans (HB.out.mono HB2.out.size)⟩
            · have HR : Hid (V.semCmp (la, pa) (lb, pb) = V.sgn ((pa.length : Int) - pb.length)) := Lib.hid (by
                rw [HF3.out, listCmp_right k pa pb (by omega) hk2 HZ.out]; unfold V.sgn
                by_cases hl : k < pb.length
                · rw [if_pos hl, if_pos (by omega)]
                · rw [if_neg hl, if_neg (by omega), if_neg (by omega)])
              go_wp2_with fail
              refine (rsign_any _ _).mono ?_
              rintro e w' ⟨rfl, rfl⟩
              go_wp2
              go_ret
              exact ⟨ret_int HR.out.symm, HB2.out.trans (HB.out.mono HB2.out.size)⟩

set_option maxHeartbeats 400000 in
theorem rscheme_any (n : Int) (w : World) :
    Calls Tryz.prog 38 #[.int .i64 n] w fun e w' => e = .returned (.bool (V.scheme n)) ∧ w = w' := by
  have hs : V.scheme n = (decide (1 ≤ n) && decide (n ≤ 3)) := by
    rw [Bool.eq_iff_iff]; unfold V.scheme; simp; omega
  have HS := Lib.hid hs
  clear hs
  go_enter Tryz.func38, Tryz.ntmps38
  go_wp2
  all_goals go_ret
  all_goals exact ⟨ret_bool (by rw [HS.out]; simp_all; try omega), rfl⟩

set_option maxRecDepth 100000 in
set_option maxHeartbeats 800000 in
theorem rOrder_any (n : Int) (s t : ByteArray) (w : World) (hm : MaxOk w) (hn : V.scheme n = true) (hs : V.valid n s.data.toList = true) (ht : V.valid n t.data.toList = true) :
    Calls Tryz.prog 73 #[.int .i64 n, .string s, .string t] w fun e w' => e = .returned (.int .i64 (V.cmpV n s.data.toList t.data.toList)) ∧ Below w.heap.size w w' := by
  have l1 := V.valid_short hs
  have l2 := V.valid_short ht
  rw [bs_size] at l1 l2
  have HM := Lib.hid hm
  have h3 : n = 1 ∨ n = 2 ∨ n = 3 := by unfold V.scheme at hn; simpa [or_assoc] using hn
  rcases h3 with rfl | rfl | rfl
  · obtain ⟨⟨la, pa⟩, e1⟩ := Option.isSome_iff_exists.1 (show (V.semParse s.data.toList).isSome = true by unfold V.valid V.schOk at hs; simp at hs; exact hs.2)
    obtain ⟨⟨lb, pb⟩, e2⟩ := Option.isSome_iff_exists.1 (show (V.semParse t.data.toList).isSome = true by unfold V.valid V.schOk at ht; simp at ht; exact ht.2)
    have HC : Hid (V.cmpV 1 s.data.toList t.data.toList = V.semCmp (la, pa) (lb, pb)) := Lib.hid (by unfold V.cmpV; rw [if_pos rfl, e1, e2])
    have E1 := Lib.hid e1
    have E2 := Lib.hid e2
    clear e1 e2 hs ht hm hn
    go_enter Tryz.func73, Tryz.ntmps73
    go_wp2_with fail
    refine (rbySemver_any s t la pa lb pb _ HM.out l1 l2 E1.out E2.out).mono ?_
    rintro e w1 ⟨rfl, hb⟩
    have HB := Lib.hid hb
    clear hb
    go_wp2
    go_ret
    exact ⟨ret_int HC.out.symm, HB.out⟩
  · obtain ⟨⟨x0, x1, x2⟩, e1⟩ := Option.isSome_iff_exists.1 (show (V.debParse s.data.toList).isSome = true by unfold V.valid V.schOk at hs; simp at hs; exact hs.2)
    obtain ⟨⟨y0, y1, y2⟩, e2⟩ := Option.isSome_iff_exists.1 (show (V.debParse t.data.toList).isSome = true by unfold V.valid V.schOk at ht; simp at ht; exact ht.2)
    have HC : Hid (V.cmpV 2 s.data.toList t.data.toList = V.debCmp (x0, x1, x2) (y0, y1, y2)) := Lib.hid (by unfold V.cmpV; rw [if_neg (by decide), if_pos rfl, e1, e2])
    have E1 := Lib.hid e1
    have E2 := Lib.hid e2
    clear e1 e2 hs ht hm hn
    go_enter Tryz.func73, Tryz.ntmps73
    go_wp2_with fail
    refine (rbyDebian_any s t x0 x1 x2 y0 y1 y2 _ HM.out l1 l2 E1.out E2.out).mono ?_
    rintro e w1 ⟨rfl, hb⟩
    have HB := Lib.hid hb
    clear hb
    go_wp2
    go_ret
    exact ⟨ret_int HC.out.symm, HB.out⟩
  · have HC : Hid (V.cmpV 3 s.data.toList t.data.toList = V.dotCmp s.data.toList t.data.toList) := Lib.hid (by unfold V.cmpV; rw [if_neg (by decide), if_neg (by decide)])
    clear hs ht hm hn
    go_enter Tryz.func73, Tryz.ntmps73
    go_wp2_with fail
    refine (rbyDots_any s t _ HM.out l1 l2).mono ?_
    rintro e w1 ⟨rfl, hb⟩
    have HB := Lib.hid hb
    clear hb
    go_wp2
    go_ret
    exact ⟨ret_int HC.out.symm, HB.out⟩

end Go.Proofs.YtpjjkbdkgaehkaaGreatDoor
