/-
  Walks: texts cut and weighed.
  Walks: upstream versions and revisions compared.
-/
import Derived.Test.YtpjjkbdkgaehkaaGreatDoorV6
import Derived.Test.YtpjjkbdkgaehkaaGreatDoorP6
import Derived.Test.YtpjjkbdkgaehkaaGreatDoorC2
namespace Go.Proofs.YtpjjkbdkgaehkaaGreatDoor
open Go.RowKit

theorem extract_to {s : ByteArray} {k : Nat} : (s.extract 0 k).data.toList = s.data.toList.take k := by
  rw [Lib.extract_data]; simp

set_option maxRecDepth 100000 in
set_option maxHeartbeats 800000 in
theorem take_any (s : ByteArray) (d : Bool) (w : World) (hs : s.size ≤ maxLen) :
    Calls Tryz.prog 228 #[.string s, .bool d] w fun e w' => e = .returned (.tuple #[.string ⟨(V.takeD s.data.toList d).1.toArray⟩, .string ⟨(V.takeD s.data.toList d).2.toArray⟩]) ∧ Below w.heap.size w w' := by
  unfold maxLen at hs
  go_enter Tryz.func228, Tryz.ntmps228
  go_wp2
  go_loop [6] (fun i => ∃ k : Nat, k ≤ s.size ∧ i = .int .i64 k ∧ (s.data.toList.take k).all (fun c => V.dig c == d) = true) (fun i => s.size - (intOf i).toNat)
  case atStart => exact ⟨0, Nat.zero_le _, rfl, rfl⟩
  case round =>
    obtain ⟨k, hk, rfl, hp⟩ := hrel
    have HP := Lib.hid hp
    clear hp
    have fin : (k = s.size ∨ ∃ h : k < s.size, (V.digB s[k].toNat == d) = false) → Hid (s.extract 0 k = ⟨(V.takeD s.data.toList d).1.toArray⟩ ∧ s.extract k s.size = ⟨(V.takeD s.data.toList d).2.toArray⟩) := fun h => by
      have := V.take_at s.data.toList (fun c => V.dig c == d) k (by rw [bs_size]; exact hk) HP.out (by
        rcases h with h | ⟨h, h2⟩
        · left; rw [bs_size]; exact h
        · right
          have e : s.data.toList[k]'(by rw [bs_size]; exact h) = s[k] := by simp; rfl
          exact ⟨by rw [bs_size]; exact h, by rw [e]; exact h2⟩)
      refine Lib.hid ⟨bs_ext ?_, bs_ext ?_⟩
      · rw [extract_to, this.1]; simp [V.takeD]
      · rw [Lib.extract_to_end, this.2]; simp [V.takeD]
    have FIN := Lib.hid fin
    clear fin
    by_cases hlt : k < s.size
    · have hl : k < s.data.toList.length := by rw [bs_size]; exact hlt
      have HT := Lib.hid (V.all_take (p := fun c => V.dig c == d) hl)
      have HE : Hid (s.data.toList[k] = s[k]) := Lib.hid (by simp; rfl)
      rcases hD : V.digB s[k].toNat with _ | _ <;> cases d
      all_goals
        have HD := Lib.hid hD
        clear hD
        go_wp2_with fail
        refine (digit_any _ _).mono ?_
        rintro e w' ⟨rfl, rfl⟩
        simp only [HD.out]
        go_wp2
      · go_round
        case rel => exact ⟨k + 1, by omega, by go_num, by rw [HT.out, HP.out, HE.out]; show (true && (V.digB s[k].toNat == false)) = true; rw [HD.out]; rfl⟩
        case measure => simp [intOf]; omega
      · have HF := FIN.out (.inr ⟨hlt, by rw [HD.out]; rfl⟩)
        go_region
        all_goals
          go_wp2
          go_ret2
          exact ⟨by rw [HF.out.1, HF.out.2]; rfl, by first | exact Below.refl _ _ | exact (Below.refl _ _).drew⟩
      · have HF := FIN.out (.inr ⟨hlt, by rw [HD.out]; rfl⟩)
        go_region
        all_goals
          go_wp2
          go_ret2
          exact ⟨by rw [HF.out.1, HF.out.2]; rfl, by first | exact Below.refl _ _ | exact (Below.refl _ _).drew⟩
      · go_round
        case rel => exact ⟨k + 1, by omega, by go_num, by rw [HT.out, HP.out, HE.out]; show (true && (V.digB s[k].toNat == true)) = true; rw [HD.out]; rfl⟩
        case measure => simp [intOf]; omega
    · have HF := FIN.out (.inl (by omega))
      go_wp2
      go_region
      all_goals
        go_wp2
        go_ret2
        exact ⟨by rw [HF.out.1, HF.out.2]; rfl, by first | exact Below.refl _ _ | exact (Below.refl _ _).drew⟩

theorem or128 (c : UInt8) : bits .or .u8 (c.toNat : Int) 128 = ((c ||| 128).toNat : Int) := by
  have h : ∀ n : Fin 256, bits .or .u8 ((n.val : Nat) : Int) 128 = (((n.val ||| 128 : Nat)) : Int) := by decide +kernel
  have := h ⟨c.toNat, c.toNat_lt⟩
  rw [this, UInt8.toNat_or]; rfl

theorem at_getD {s : ByteArray} {i : Nat} (h : i < s.size) : s.data.toList.getD i 0 = s[i] := by
  have : i < s.data.toList.length := by rw [bs_size]; exact h
  simp [List.getD, List.getElem?_eq_getElem this]; rfl

set_option maxRecDepth 100000 in
set_option maxHeartbeats 800000 in
theorem weight_any (s : ByteArray) (i : Nat) (w : World) (_hs : s.size ≤ maxLen) (_hi : i ≤ maxLen) :
    Calls Tryz.prog 230 #[.string s, .int .i64 i] w fun e w' => e = .returned (.int .u8 (V.wt s.data.toList i)) ∧ w = w' := by
  unfold maxLen at _hs _hi
  by_cases hlt : i < s.size
  · have HG := Lib.hid (at_getD hlt)
    by_cases h1 : s[i] = 126
    · have HW : Hid (V.wt s.data.toList i = 1) := Lib.hid (by unfold V.wt; rw [if_neg (by rw [bs_size]; omega), HG.out, if_pos h1])
      have hb : ((s[i].toNat : Int) == 126) = true := by rw [h1]; rfl
      clear h1
      go_enter Tryz.func230, Tryz.ntmps230
      go_wp2
      go_ret
      exact ⟨ret_int HW.out.symm, rfl⟩
    · have hb : ((s[i].toNat : Int) == 126) = false := by
        rw [beq_eq_false_iff_ne]; intro e; apply h1; rw [← UInt8.toNat_inj]
        have : s[i].toNat = 126 := by omega
        rw [this]; rfl
      rcases hL : V.letB s[i].toNat with _ | _
      · have HW : Hid (V.wt s.data.toList i = (s[i] ||| 128).toNat) := Lib.hid (by
          unfold V.wt; rw [if_neg (by rw [bs_size]; omega), HG.out, if_neg h1, if_neg]
          unfold V.lett; rw [hL]; simp)
        have HL := Lib.hid hL
        clear hL h1
        go_enter Tryz.func230, Tryz.ntmps230
        go_wp2_with fail
        refine (letter_any _ _).mono ?_
        rintro e w' ⟨rfl, rfl⟩
        simp only [HL.out]
        go_wp2
        go_ret
        refine ⟨?_, rfl⟩
        rw [HW.out, ← or128]
        rfl
      · have HW : Hid (V.wt s.data.toList i = s[i].toNat) := Lib.hid (by
          unfold V.wt; rw [if_neg (by rw [bs_size]; omega), HG.out, if_neg h1, if_pos]
          unfold V.lett; rw [hL])
        have HL := Lib.hid hL
        clear hL h1
        go_enter Tryz.func230, Tryz.ntmps230
        go_wp2_with fail
        refine (letter_any _ _).mono ?_
        rintro e w' ⟨rfl, rfl⟩
        simp only [HL.out]
        go_wp2
        go_ret
        exact ⟨ret_int HW.out.symm, rfl⟩
  · have HW : Hid (V.wt s.data.toList i = 2) := Lib.hid (by unfold V.wt; rw [if_pos (by rw [bs_size]; omega)])
    go_enter Tryz.func230, Tryz.ntmps230
    go_wp2
    go_ret
    exact ⟨ret_int HW.out.symm, rfl⟩

set_option maxHeartbeats 400000 in
theorem nanByte_any (x : Int) (w : World) :
    Calls Tryz.prog 231 #[.int .u8 x] w fun e w' => e = .returned (.bool false) ∧ w = w' := by
  have h : (x != x) = false := by simp
  go_enter Tryz.func231, Tryz.ntmps231
  go_wp2
  go_ret
  exact ⟨ret_bool (by simp), rfl⟩

set_option maxHeartbeats 800000 in
theorem cmpByte_any (x y : Int) (w : World) :
    Calls Tryz.prog 229 #[.int .u8 x, .int .u8 y] w fun e w' => e = .returned (.int .i64 (Lib.compareInt x y)) ∧ w = w' := by
  go_enter Tryz.func229, Tryz.ntmps229
  go_wp2_with (go_at_call 231; refine (nanByte_any _ _).mono ?_; rintro e w' ⟨rfl, rfl⟩)
  all_goals go_ret
  all_goals exact ⟨ret_int (by unfold Lib.compareInt; (repeat' split) <;> omega), rfl⟩
end Go.Proofs.YtpjjkbdkgaehkaaGreatDoor
namespace Go.Proofs.YtpjjkbdkgaehkaaGreatDoor
open Go.RowKit

theorem max_cases (x y : V.Bs) (k : Nat) : k < max x.length y.length ↔ (k < x.length ∨ k < y.length) := by omega

theorem wcmp_hit (x y : V.Bs) (k : Nat) (hk : k < max x.length y.length) (h : ∀ j, j < k → Lib.compareInt (V.wt x j) (V.wt y j) = 0) (h0 : Lib.compareInt (V.wt x k) (V.wt y k) ≠ 0) :
    V.wcmp x y = Lib.compareInt (V.wt x k) (V.wt y k) := by
  have e : ∀ j, j < max x.length y.length → ((List.range (max x.length y.length)).map fun i => Lib.compareInt (V.wt x i) (V.wt y i)).getD j 0 = Lib.compareInt (V.wt x j) (V.wt y j) := fun j hj => by
    simp [List.getD, List.getElem?_range hj]
  unfold V.wcmp
  rw [V.orI_hit _ k (fun j hj => by rw [e j (by omega)]; exact h j hj) (by simpa using hk) (by rw [e k hk]; exact h0), e k hk]

theorem wcmp_zero (x y : V.Bs) (h : ∀ j, j < max x.length y.length → Lib.compareInt (V.wt x j) (V.wt y j) = 0) : V.wcmp x y = 0 := by
  have e : ∀ j, j < max x.length y.length → ((List.range (max x.length y.length)).map fun i => Lib.compareInt (V.wt x i) (V.wt y i)).getD j 0 = Lib.compareInt (V.wt x j) (V.wt y j) := fun j hj => by
    simp [List.getD, List.getElem?_range hj]
  unfold V.wcmp
  exact V.orI_zero _ (fun j hj => by have hj' : j < max x.length y.length := by simpa using hj
                                     rw [e j hj']; exact h j hj')

set_option maxRecDepth 100000 in
set_option maxHeartbeats 3200000 in
theorem texts_any (s t : ByteArray) (w : World) (hs : s.size ≤ maxLen) (ht : t.size ≤ maxLen) :
    Calls Tryz.prog 224 #[.agg #[], .string s, .string t] w fun e w' => e = .returned (.int .i64 (V.textsC s.data.toList t.data.toList)) ∧ Below w.heap.size w w' := by
  unfold maxLen at hs ht
  go_enter Tryz.func224, Tryz.ntmps224
  go_wp2
  go_loopw [1, 2] (fun v1 v2 wr => ∃ a b : ByteArray, v1 = .string a ∧ v2 = .string b ∧ a.size ≤ s.size ∧ b.size ≤ t.size ∧ V.textsC a.data.toList b.data.toList = V.textsC s.data.toList t.data.toList ∧ Below w.heap.size w wr) (fun v1 v2 _ => szOf v1 + szOf v2)
  case atStart => exact ⟨s, t, rfl, rfl, Nat.le_refl _, Nat.le_refl _, rfl, (Below.refl _ _).alloc (Nat.le_refl _) _⟩
  case round =>
    obtain ⟨a, b, rfl, rfl, has, hbt, htx, hB⟩ := hrel
    have HT := Lib.hid htx
    have HB := Lib.hid hB
    clear htx hB
    rcases hea : a.toList.isEmpty with _ | _ <;> rcases heb : b.toList.isEmpty with _ | _
    case true.true =>
      have HR : Hid (V.textsC s.data.toList t.data.toList = 0) := Lib.hid (by
        rw [Lib.toList_data] at hea heb
        rw [← HT.out, List.isEmpty_iff.1 hea, List.isEmpty_iff.1 heb]; rfl)
      go_wp2
      go_ret
      exact ⟨ret_int HR.out.symm, HB.out⟩
    all_goals
      have hne : ¬ (a.data.toList.isEmpty && b.data.toList.isEmpty) = true := by rw [← Lib.toList_data, ← Lib.toList_data, hea, heb]; simp
      have hstep := V.textsC_step _ _ hne
      have HNE := Lib.hid hne
      clear hne
      obtain ⟨x, a1, hxa⟩ : ∃ x a1, V.takeD a.data.toList false = (x, a1) := ⟨_, _, rfl⟩
      obtain ⟨y, b1, hyb⟩ : ∃ y b1, V.takeD b.data.toList false = (y, b1) := ⟨_, _, rfl⟩
      obtain ⟨p, a2, hpa⟩ : ∃ p a2, V.takeD a1 true = (p, a2) := ⟨_, _, rfl⟩
      obtain ⟨q, b2, hqb⟩ : ∃ q b2, V.takeD b1 true = (q, b2) := ⟨_, _, rfl⟩
      have l1 := V.takeD_len a.data.toList false
      have l2 := V.takeD_len b.data.toList false
      have l3 := V.takeD_len a1 true
      have l4 := V.takeD_len b1 true
      rw [hxa, bs_size] at l1
      rw [hyb, bs_size] at l2
      rw [hpa] at l3
      rw [hqb] at l4
      have l5 : a2.length + b2.length < a.size + b.size := by
        by_cases ha : a.data.toList = []
        · have hb : b.data.toList ≠ [] := fun e => HNE.out (by rw [ha, e]; rfl)
          have := V.takeD_two _ hb
          rw [hyb] at this
          simp only [hqb, bs_size] at this
          simp only at l1 l3; omega
        · have := V.takeD_two _ ha
          rw [hxa] at this
          simp only [hpa, bs_size] at this
          simp only at l2 l4; omega
      rw [hxa, hyb] at hstep
      simp only [hpa, hqb] at hstep
      rw [HT.out] at hstep
      have HSTEP := Lib.hid hstep
      have HXA := Lib.hid hxa
      have HYB := Lib.hid hyb
      have HPA := Lib.hid hpa
      have HQB := Lib.hid hqb
      simp only at l1 l2 l3 l4
      have m1 : x.length ≤ s.size := by omega
      have m2 : y.length ≤ t.size := by omega
      have m3 : a1.length ≤ s.size := by omega
      have m4 : b1.length ≤ t.size := by omega
      have m5 : a2.length ≤ s.size := by omega
      have m6 : b2.length ≤ t.size := by omega
      have L5 := Lib.hid l5
      clear hstep hxa hyb hpa hqb l1 l2 l3 l4 l5
      go_wp2_with fail
      refine (take_any a false _ (by unfold maxLen; omega)).mono ?_
      rintro e w1 ⟨rfl, hb1⟩
      simp only [HXA.out]
      go_wp2_with fail
      refine (take_any b false _ (by unfold maxLen; omega)).mono ?_
      rintro e w2 ⟨rfl, hb2⟩
      simp only [HYB.out]
      have HB2 := Lib.hid (HB.out.trans ((hb1.trans (hb2.mono hb1.size)).mono HB.out.size))
      clear hb1 hb2
      go_wp2
      go_loop [9] (fun i => ∃ k : Nat, k ≤ max x.length y.length ∧ i = .int .i64 k ∧ ∀ j, j < k → Lib.compareInt (V.wt x j) (V.wt y j) = 0) (fun i => max x.length y.length - (intOf i).toNat)
      case atStart => exact ⟨0, Nat.zero_le _, rfl, fun j hj => by omega⟩
      case round =>
        obtain ⟨k, hk, rfl, hz⟩ := hrel
        have HZ := Lib.hid hz
        clear hz
        by_cases hlt : k < max x.length y.length
        · have hor : (k < x.length) ∨ (¬ k < x.length ∧ k < y.length) := by omega
          have hcut := wcmp_hit x y k hlt HZ.out
          have HCUT := Lib.hid hcut
          have HLT := Lib.hid hlt
          clear hcut hlt
          rcases hor with h1 | ⟨h1, h2⟩
          all_goals
            go_wp2_with fail
            refine (weight_any ⟨x.toArray⟩ k _ (by show x.length ≤ _; unfold maxLen; omega) (by unfold maxLen; omega)).mono ?_
            rintro e w' ⟨rfl, rfl⟩
            go_wp2_with fail
            refine (weight_any ⟨y.toArray⟩ k _ (by show y.length ≤ _; unfold maxLen; omega) (by unfold maxLen; omega)).mono ?_
            rintro e w' ⟨rfl, rfl⟩
            go_wp2_with fail
            refine (cmpByte_any _ _ _).mono ?_
            rintro e w' ⟨rfl, rfl⟩
            simp only 
            by_cases h0 : Lib.compareInt (V.wt x k) (V.wt y k) = 0
            · have HR : Hid (∀ j, j < k + 1 → Lib.compareInt (V.wt x j) (V.wt y j) = 0) := Lib.hid (fun j hj => by
                by_cases e : j = k
                · subst e; exact h0
                · exact HZ.out j (by omega))
              rw [h0]
              have HL2 := HLT.out
              clear h0
              go_wp2
              go_round
              case rel => exact ⟨k + 1, by omega, by go_num, HR.out⟩
              case measure => simp [intOf]; omega
            · have HR : Hid (V.textsC s.data.toList t.data.toList = Lib.compareInt (V.wt x k) (V.wt y k)) := Lib.hid (by
                rw [HSTEP.out, HCUT.out h0, V.cor_ne h0])
              have hb : (Lib.compareInt (V.wt x k) (V.wt y k) != 0) = true := by simpa using h0
              generalize Lib.compareInt (V.wt x k) (V.wt y k) = c at *
              clear h0
              go_wp2
              go_ret
              exact ⟨ret_int HR.out.symm, HB2.out⟩
        · have HZ0 : Hid (V.wcmp x y = 0) := Lib.hid (wcmp_zero x y (fun j hj => HZ.out j (by omega)))
          have h1 : ¬ k < x.length := by omega
          have h2 : ¬ k < y.length := by omega
          clear hlt
          go_wp2_with fail
          refine (take_any ⟨a1.toArray⟩ true _ (by show a1.length ≤ _; unfold maxLen; omega)).mono ?_
          rintro e w3 ⟨rfl, hb3⟩
          simp only [HPA.out]
          go_wp2_with fail
          refine (take_any ⟨b1.toArray⟩ true _ (by show b1.length ≤ _; unfold maxLen; omega)).mono ?_
          rintro e w4 ⟨rfl, hb4⟩
          simp only [HQB.out]
          go_wp2_with fail
          refine (numbers_any ⟨p.toArray⟩ ⟨q.toArray⟩ _).mono ?_
          rintro e w5 ⟨rfl, hb5⟩
          simp only 
          have HB5 := Lib.hid (HB2.out.trans ((hb3.trans ((hb4.trans (hb5.mono hb4.size)).mono hb3.size)).mono HB2.out.size))
          clear hb3 hb4 hb5
          by_cases h0 : V.numbers p q = 0
          · have HR : Hid (V.textsC a2 b2 = V.textsC s.data.toList t.data.toList) := Lib.hid (by
              rw [HSTEP.out, HZ0.out, h0]; rfl)
            rw [h0]
            clear h0
            go_wp2
            go_roundw
            case rel => exact ⟨⟨a2.toArray⟩, ⟨b2.toArray⟩, rfl, rfl, m5, m6, by simp only ; exact HR.out, HB5.out⟩
            case measure => exact L5.out
          · have HR : Hid (V.textsC s.data.toList t.data.toList = V.numbers p q) := Lib.hid (by
              rw [HSTEP.out, HZ0.out, V.cor_zero, V.cor_ne h0])
            have hb : (V.numbers p q != 0) = true := by simpa using h0
            generalize V.numbers p q = c at *
            clear h0
            go_wp2
            go_ret
            exact ⟨ret_int HR.out.symm, HB5.out⟩

theorem texts_at (x y : V.Bs) (w : World) (hx : x.length ≤ 1000) (hy : y.length ≤ 1000) :
    Calls Tryz.prog 224 #[.agg #[], .string ⟨x.toArray⟩, .string ⟨y.toArray⟩] w fun e w' => e = .returned (.int .i64 (V.textsC x y)) ∧ Below w.heap.size w w' := by
  have h := texts_any ⟨x.toArray⟩ ⟨y.toArray⟩ w (by show x.length ≤ _; unfold maxLen; omega) (by show y.length ≤ _; unfold maxLen; omega)
  simp only  at h
  exact h
end Go.Proofs.YtpjjkbdkgaehkaaGreatDoor
