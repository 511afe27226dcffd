/-
  Walks: the laws VersionRefuses and VersionKeys.
-/
import Derived.Test.YtabeblbhbekjaaaGreatDoorG3
import Derived.Test.YtabeblbhbekjaaaGreatDoorR10
import Derived.Test.YtabeblbhbekjaaaGreatDoorF1
import Derived.Test.YtabeblbhbekjaaaGreatDoorSC
import Derived.Test.YtabeblbhbekjaaaGreatDoorT3
import Derived.StillTailTactics
namespace Go.Proofs.YtabeblbhbekjaaaGreatDoor
open Go.RowKit

theorem refuses_law (n : Int) (v : V.Bs) : (keyR n v).2 = (V.compareR n v v).2 ∧ ((keyR n v).2 = 0 ∨ (keyR n v).1 = []) := by
  unfold keyR V.compareR
  rcases V.scheme n with _ | _ <;> rcases V.valid n v with _ | _ <;> simp

set_option maxRecDepth 100000 in
set_option maxHeartbeats 1600000 in
theorem versionRefuses_any (n : Int) (s : ByteArray) (w : World) (hm : MaxOk w) (_hn : (Lit.int .i64 n).wf = true) (hs : s.size ≤ maxLen) :
    Calls Tryz.prog 4 #[.int .i64 n, .string s] w fun e w' => e = .returned (.bool true) ∧ Below w.heap.size w w' := by
  have HM := Lib.hid hm
  have HS := Lib.hid hs
  unfold maxLen at hs
  clear hm _hn
  by_cases h1 : 300 < s.size
  · go_enter Tryz.func4, Tryz.ntmps4
    go_wp2
    go_ret
    exact ⟨ret_bool rfl, Below.refl _ _⟩
  · have hs3 : s.size ≤ 300 := by omega
    have HLAW := Lib.hid (refuses_law n s.data.toList)
    clear h1
    go_enter Tryz.func4, Tryz.ntmps4
    go_wp2_with fail
    refine (key_any n s _ HM.out HS.out).mono ?_
    rintro e w1 ⟨rfl, hb1⟩
    have HB1 := Lib.hid hb1
    clear hb1
    go_wp2_with fail
    refine (rcompare_any n s s _ (HM.out.below HB1.out) HS.out HS.out).mono ?_
    rintro e w2 ⟨rfl, hb2⟩
    have HB2 := Lib.hid (HB1.out.trans (hb2.mono HB1.out.size))
    clear hb2
    obtain ⟨h1, h2⟩ := HLAW.out
    generalize (V.compareR n s.data.toList s.data.toList).1 = c at *
    rw [← h1]
    clear h1
    generalize (keyR n s.data.toList).2 = e at *
    generalize (keyR n s.data.toList).1 = k at *
    rcases h2 with rfl | rfl
    all_goals
      go_wp2_with fail
      refine (awake_any _ (HM.out.below HB2.out)).mono ?_
      rintro e w5 ⟨rfl, hb5⟩
      have HB5 := Lib.hid (HB2.out.trans (hb5.mono HB2.out.size))
      clear hb5
      go_wp2
      all_goals
        go_ret
        exact ⟨ret_bool rfl, HB5.out⟩

theorem bytesLess_cb : ∀ a b : V.Bs, Op.bytesLess a b = decide (V.cb a b < 0)
  | [], [] => rfl
  | [], _ :: _ => rfl
  | _ :: _, [] => rfl
  | x :: a, y :: b => by
    unfold Op.bytesLess
    rcases V.cb_cons x y a b with ⟨h, e⟩ | ⟨h, e⟩ | ⟨h, e⟩
    · rw [e]; simp [h]
    · subst h
      have : ¬ x < x := by simp
      rw [e, ← bytesLess_cb a b]; simp [this]
    · have h1 : ¬ x < y := fun g => by rw [UInt8.lt_iff_toNat_lt] at h g; omega
      have h2 : (x == y) = false := by
        rw [beq_eq_false_iff_ne]; intro g; subst g; simp at h
      rw [e, h2]; simp [h1]

theorem eq_cb (a b : V.Bs) : (a == b) = decide (V.cb a b = 0) := by
  rw [Bool.eq_iff_iff]
  simp only [beq_iff_eq, decide_eq_true_eq]
  exact ⟨fun h => by subst h; exact V.cb_refl a, V.cb_eq⟩

/-- the key of a version -/
theorem key_ok (n : Int) (x : V.Bs) (w : World) (hm : MaxOk w) (hn : V.scheme n = true) (hx : V.valid n x = true) :
    Calls Tryz.prog 8 #[.int .i64 n, .string ⟨x.toArray⟩] w fun e w' => e = .returned (.tuple #[.string ⟨(V.keyV n x).toArray⟩, .int .i64 0]) ∧ Below w.heap.size w w' := by
  have l1 := V.valid_short hx
  have h := key_any n ⟨x.toArray⟩ w hm (by show x.length ≤ _; unfold maxLen; omega)
  simp only [arr_list] at h
  unfold keyR at h
  rw [hn, hx] at h
  exact h

theorem order_ok (n : Int) (x y : V.Bs) (c : Int) (w : World) (hm : MaxOk w) (hn : V.scheme n = true) (hx : V.valid n x = true) (hy : V.valid n y = true) (hc : V.cmpV n x y = c) :
    Calls Tryz.prog 9 #[.int .i64 n, .string ⟨x.toArray⟩, .string ⟨y.toArray⟩] w fun e w' => e = .returned (.int .i64 c) ∧ Below w.heap.size w w' := by
  have h := rOrder_any n ⟨x.toArray⟩ ⟨y.toArray⟩ w hm hn (by simp only [arr_list]; exact hx) (by simp only [arr_list]; exact hy)
  simp only [arr_list] at h
  rw [hc] at h
  exact h

theorem cmpV_rng' {n : Int} (hn : V.scheme n = true) {a b : V.Bs} (ha : V.valid n a = true) (hb : V.valid n b = true) : V.cmpV n a b = -1 ∨ V.cmpV n a b = 0 ∨ V.cmpV n a b = 1 := by
  rw [← V.key_law hn ha hb]
  exact V.cb_rng _ _

/-- the facts of a round -/
theorem keys_facts {n : Int} (hn : V.scheme n = true) {a b : V.Bs} (ha : V.valid n a = true) (hb : V.valid n b = true) :
    ∃ c : Int, V.cmpV n a b = c ∧ (c = -1 ∨ c = 0 ∨ c = 1) ∧ Op.bytesLess (V.keyV n a) (V.keyV n b) = decide (c < 0) ∧ (V.keyV n a == V.keyV n b) = decide (c = 0) := by
  refine ⟨_, rfl, cmpV_rng' hn ha hb, ?_, ?_⟩
  · rw [bytesLess_cb, V.key_law hn ha hb]
  · rw [eq_cb, V.key_law hn ha hb]

set_option maxRecDepth 100000 in
set_option maxHeartbeats 6400000 in
theorem versionKeys_any (n : Int) (L : List V.Bs) (v : Value) (a : Option Addr) (m cap : Nat) (w : World) (hmx : MaxOk w) (hn : (Lit.int .i64 n).wf = true) (hL : Strs w v L) (hlen : L.length ≤ maxLen) (hl : ∀ x ∈ L, x.length ≤ maxLen) (ht : Nums w a m) :
    Calls Tryz.prog 3 #[.int .i64 n, v, .slice a m cap] w fun e w' => e = .returned (.bool true) ∧ Below w.heap.size w w' := by
  have HM := Lib.hid hmx
  have HN := Lib.hid hn
  have HL := Lib.hid hL
  have HLL := Lib.hid hl
  have HT := Lib.hid ht
  unfold maxLen at hlen
  obtain ⟨va, vc, rfl, _⟩ := hL
  clear hmx hn hl ht
  by_cases h10 : 10 < L.length
  · go_enter Tryz.func3, Tryz.ntmps3
    go_wp2
    go_ret
    exact ⟨ret_bool rfl, Below.refl _ _⟩
  · have h10' : L.length ≤ 10 := by omega
    clear h10 hlen
    go_enter Tryz.func3, Tryz.ntmps3
    go_wp2_with fail
    refine (scheme_any n _ HN.out).mono ?_
    rintro e w' ⟨rfl, rfl⟩
    have hs := schemeOf_ok n
    generalize schemeOf n = s at *
    have HS := Lib.hid hs
    clear hs
    go_wp2_with fail
    refine (three_any s L _ a m cap _ HM.out HS.out HL.out (by omega) HLL.out HT.out).mono ?_
    rintro e w1 ⟨x, y, z, hx, hy, hz, rfl, hb1⟩
    have HB1 := Lib.hid hb1
    have HX := Lib.hid hx
    have HY := Lib.hid hy
    have HZ := Lib.hid hz
    clear hb1 hx hy hz
    go_wp2
    obtain ⟨W2, hW2⟩ : ∃ W2, W2 = w1.alloc (.cells #[.string ⟨x.toArray⟩, .string ⟨y.toArray⟩, .string ⟨z.toArray⟩] 25) := ⟨_, rfl⟩
    rw [← hW2]
    have hb2 : Below w1.heap.size w1 W2 := by rw [hW2]; exact (Below.refl _ _).alloc (Nat.le_refl _) _
    have hcell : ∀ o, W2.cell? ⟨w1.heap.size, o, none⟩ = #[Value.string ⟨x.toArray⟩, .string ⟨y.toArray⟩, .string ⟨z.toArray⟩][o]? := fun o => by
      rw [hW2, World.cell?_alloc_new]
    have c0 := hcell 0
    have c1 := hcell 1
    have c2 := hcell 2
    simp at c0 c1 c2
    have C0 := Lib.hid c0
    have C1 := Lib.hid c1
    have C2 := Lib.hid c2
    have HB2 := Lib.hid (HB1.out.trans (hb2.mono HB1.out.size))
    clear hW2 hb2 hcell c0 c1 c2
    go_loopw [9] (fun i wr => ∃ k : Nat, k ≤ 3 ∧ i = .int .i64 k ∧ Below W2.heap.size W2 wr) (fun i _ => 3 - (intOf i).toNat)
    case atStart => exact ⟨0, Nat.zero_le _, rfl, Below.refl _ _⟩
    case round =>
      obtain ⟨k, hk, rfl, hB⟩ := hrel
      have HB := Lib.hid hB
      have HBW := Lib.hid (HB2.out.trans (hB.mono HB2.out.size))
      clear hB
      have h4 : k = 0 ∨ k = 1 ∨ k = 2 ∨ k = 3 := by omega
      rcases h4 with rfl | rfl | rfl | rfl
      · obtain ⟨c, hc, hr, hbl, hbe⟩ := keys_facts HS.out HX.out HY.out
        have HC := Lib.hid hc
        have HRG := Lib.hid hr
        have HBL := Lib.hid hbl
        have HBE := Lib.hid hbe
        have d0 := keep_cell HB.out C0.out
        have d1 := keep_cell HB.out C1.out
        clear hc hr hbl hbe hk
        go_wp2_with fail
        refine (key_ok s x _ (HM.out.below HBW.out) HS.out HX.out).mono ?_
        rintro e w3 ⟨rfl, hb3⟩
        have HB3 := Lib.hid (HB.out.trans (hb3.mono HB.out.size))
        have HBW3 := Lib.hid (HB2.out.trans (HB3.out.mono HB2.out.size))
        have e0 := keep_cell hb3 d0
        have e1 := keep_cell hb3 d1
        clear hb3 d0 d1
        go_wp2_with fail
        refine (key_ok s y _ (HM.out.below HBW3.out) HS.out HY.out).mono ?_
        rintro e w4 ⟨rfl, hb4⟩
        have HB4 := Lib.hid (HB3.out.trans (hb4.mono HB3.out.size))
        have f0 := keep_cell hb4 e0
        have f1 := keep_cell hb4 e1
        clear hb4 e0 e1
        generalize V.keyV s x = kx at *
        generalize V.keyV s y = ky at *
        go_wp2
        have wr0 : IntKind.i64.wrap 0 = 0 := by decide
        have wr1 : IntKind.i64.wrap 1 = 1 := by decide
        have wr2 : IntKind.i64.wrap 2 = 2 := by decide
        have wr3 : IntKind.i64.wrap 3 = 3 := by decide
        go_still_tail 9, (by kernel_rfl)
        clear wr0 wr1 wr2 wr3
        change wpList _ _ _ _ _ w4.drew
        have HB5 := Lib.hid HB4.out.drew
        have HBW5 := Lib.hid (HB2.out.trans (HB5.out.mono HB2.out.size))
        clear f0 f1
        generalize w4.drew = W5 at *
        go_wp2_with fail
        refine (order_ok s x y c _ (HM.out.below HBW5.out) HS.out HX.out HY.out HC.out).mono ?_
        rintro e w6 ⟨rfl, hb6⟩
        have HB6 := Lib.hid (HB5.out.trans (hb6.mono HB5.out.size))
        clear hb6 HC
        rcases HRG.out with rfl | rfl | rfl
        all_goals
          have bl := HBL.out
          have be := HBE.out
          simp only [Int.reduceNeg, Int.reduceLT, decide_true, decide_false, Int.reduceEq] at bl be
          go_wp2
          go_roundw
          case rel => exact ⟨1, by omega, by go_num, HB6.out⟩
          case measure => simp [intOf]
      · obtain ⟨c, hc, hr, hbl, hbe⟩ := keys_facts HS.out HY.out HZ.out
        have HC := Lib.hid hc
        have HRG := Lib.hid hr
        have HBL := Lib.hid hbl
        have HBE := Lib.hid hbe
        have d0 := keep_cell HB.out C1.out
        have d1 := keep_cell HB.out C2.out
        clear hc hr hbl hbe hk
        go_wp2_with fail
        refine (key_ok s y _ (HM.out.below HBW.out) HS.out HY.out).mono ?_
        rintro e w3 ⟨rfl, hb3⟩
        have HB3 := Lib.hid (HB.out.trans (hb3.mono HB.out.size))
        have HBW3 := Lib.hid (HB2.out.trans (HB3.out.mono HB2.out.size))
        have e0 := keep_cell hb3 d0
        have e1 := keep_cell hb3 d1
        clear hb3 d0 d1
        go_wp2_with fail
        refine (key_ok s z _ (HM.out.below HBW3.out) HS.out HZ.out).mono ?_
        rintro e w4 ⟨rfl, hb4⟩
        have HB4 := Lib.hid (HB3.out.trans (hb4.mono HB3.out.size))
        have f0 := keep_cell hb4 e0
        have f1 := keep_cell hb4 e1
        clear hb4 e0 e1
        generalize V.keyV s y = kx at *
        generalize V.keyV s z = ky at *
        go_wp2
        have wr0 : IntKind.i64.wrap 0 = 0 := by decide
        have wr1 : IntKind.i64.wrap 1 = 1 := by decide
        have wr2 : IntKind.i64.wrap 2 = 2 := by decide
        have wr3 : IntKind.i64.wrap 3 = 3 := by decide
        go_still_tail 9, (by kernel_rfl)
        clear wr0 wr1 wr2 wr3
        change wpList _ _ _ _ _ w4.drew
        have HB5 := Lib.hid HB4.out.drew
        have HBW5 := Lib.hid (HB2.out.trans (HB5.out.mono HB2.out.size))
        clear f0 f1
        generalize w4.drew = W5 at *
        go_wp2_with fail
        refine (order_ok s y z c _ (HM.out.below HBW5.out) HS.out HY.out HZ.out HC.out).mono ?_
        rintro e w6 ⟨rfl, hb6⟩
        have HB6 := Lib.hid (HB5.out.trans (hb6.mono HB5.out.size))
        clear hb6 HC
        rcases HRG.out with rfl | rfl | rfl
        all_goals
          have bl := HBL.out
          have be := HBE.out
          simp only [Int.reduceNeg, Int.reduceLT, decide_true, decide_false, Int.reduceEq] at bl be
          go_wp2
          go_roundw
          case rel => exact ⟨2, by omega, by go_num, HB6.out⟩
          case measure => simp [intOf]
      · obtain ⟨c, hc, hr, hbl, hbe⟩ := keys_facts HS.out HZ.out HX.out
        have HC := Lib.hid hc
        have HRG := Lib.hid hr
        have HBL := Lib.hid hbl
        have HBE := Lib.hid hbe
        have d0 := keep_cell HB.out C2.out
        have d1 := keep_cell HB.out C0.out
        clear hc hr hbl hbe hk
        go_wp2_with fail
        refine (key_ok s z _ (HM.out.below HBW.out) HS.out HZ.out).mono ?_
        rintro e w3 ⟨rfl, hb3⟩
        have HB3 := Lib.hid (HB.out.trans (hb3.mono HB.out.size))
        have HBW3 := Lib.hid (HB2.out.trans (HB3.out.mono HB2.out.size))
        have e0 := keep_cell hb3 d0
        have e1 := keep_cell hb3 d1
        clear hb3 d0 d1
        go_wp2_with fail
        refine (key_ok s x _ (HM.out.below HBW3.out) HS.out HX.out).mono ?_
        rintro e w4 ⟨rfl, hb4⟩
        have HB4 := Lib.hid (HB3.out.trans (hb4.mono HB3.out.size))
        have f0 := keep_cell hb4 e0
        have f1 := keep_cell hb4 e1
        clear hb4 e0 e1
        generalize V.keyV s z = kx at *
        generalize V.keyV s x = ky at *
        go_wp2
        have wr0 : IntKind.i64.wrap 0 = 0 := by decide
        have wr1 : IntKind.i64.wrap 1 = 1 := by decide
        have wr2 : IntKind.i64.wrap 2 = 2 := by decide
        have wr3 : IntKind.i64.wrap 3 = 3 := by decide
        go_still_tail 9, (by kernel_rfl)
        clear wr0 wr1 wr2 wr3
        change wpList _ _ _ _ _ w4.drew
        have HB5 := Lib.hid HB4.out.drew
        have HBW5 := Lib.hid (HB2.out.trans (HB5.out.mono HB2.out.size))
        clear f0 f1
        generalize w4.drew = W5 at *
        go_wp2_with fail
        refine (order_ok s z x c _ (HM.out.below HBW5.out) HS.out HZ.out HX.out HC.out).mono ?_
        rintro e w6 ⟨rfl, hb6⟩
        have HB6 := Lib.hid (HB5.out.trans (hb6.mono HB5.out.size))
        clear hb6 HC
        rcases HRG.out with rfl | rfl | rfl
        all_goals
          have bl := HBL.out
          have be := HBE.out
          simp only [Int.reduceNeg, Int.reduceLT, decide_true, decide_false, Int.reduceEq] at bl be
          go_wp2
          go_roundw
          case rel => exact ⟨3, by omega, by go_num, HB6.out⟩
          case measure => simp [intOf]
      · go_wp2_with fail
        refine (awake_any _ (HM.out.below HBW.out)).mono ?_
        rintro e w5 ⟨rfl, hb5⟩
        have HB5 := Lib.hid (HBW.out.trans (hb5.mono HBW.out.size))
        clear hb5
        go_wp2
        go_ret
        exact ⟨ret_bool rfl, HB5.out⟩
end Go.Proofs.YtabeblbhbekjaaaGreatDoor
