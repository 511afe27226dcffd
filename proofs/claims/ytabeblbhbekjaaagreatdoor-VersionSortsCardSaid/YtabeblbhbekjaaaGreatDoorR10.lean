/-
  Walks: the reference of layer 6, the order of semantic versions; Order, Scheme, Compare.
-/
import Derived.Test.YtabeblbhbekjaaaGreatDoorR9
import Derived.Test.YtabeblbhbekjaaaGreatDoorR6
import Derived.Test.YtabeblbhbekjaaaGreatDoorP5
namespace Go.Proofs.YtabeblbhbekjaaaGreatDoor
open Go.RowKit

theorem ridentifier_q (x y : V.Bs) (w : World) (hx : x.length ≤ 1000) (hy : y.length ≤ 1000) :
    Calls Tryz.prog 36 #[.string ⟨x.toArray⟩, .string ⟨y.toArray⟩] w fun e w' => e = .returned (.int .i64 (V.identC x y)) ∧ w' = w := by
  have h := ridentifier_any ⟨x.toArray⟩ ⟨y.toArray⟩ w (by show x.length ≤ _; unfold maxLen; omega) (by show y.length ≤ _; unfold maxLen; omega)
  simp only [arr_list] at h
  exact h.mono fun _ _ h => ⟨h.1, h.2.symm⟩

theorem sem_three {s : V.Bs} {l pre : List V.Bs} (h : V.semParse s = some (l, pre)) : l.length = 3 := by
  unfold V.semParse at h
  split at h
  · cases h
  · rename_i hn
    split at h
    · simp only [Option.some.injEq, Prod.mk.injEq] at h
      obtain ⟨rfl, _⟩ := h
      simp only [Bool.or_eq_true, not_or] at hn
      simpa using hn.2
    · cases h

theorem pre_len {s : V.Bs} {l pre : List V.Bs} (h : V.semParse s = some (l, pre)) : pre.length ≤ s.length + 1 := by
  unfold V.semParse at h
  split at h
  · cases h
  · split at h
    · simp only [Option.some.injEq, Prod.mk.injEq] at h
      obtain ⟨_, h⟩ := h
      have h1 := V.cut1_le 43 s
      have h2 := V.cut1_le 45 (V.cut1 43 s).1
      have h3 := splitOn_le 46 (V.cut1 45 (V.cut1 43 s).1).2.1
      split at h
      · subst h; omega
      · subst h; simp
    · cases h

theorem sem_hit (x y : List V.Bs × List V.Bs) (k : Nat) (hk : k < 3) (h : ∀ j, j < k → V.numbers (x.1.getD j []) (y.1.getD j []) = 0) (h0 : V.numbers (x.1.getD k []) (y.1.getD k []) ≠ 0) :
    V.semCmp x y = V.numbers (x.1.getD k []) (y.1.getD k []) := by
  have h3 : k = 0 ∨ k = 1 ∨ k = 2 := by omega
  unfold V.semCmp
  rcases h3 with rfl | rfl | rfl
  · simp only [V.orI, V.cor_ne h0]
  · simp only [V.orI, h 0 (by omega), V.cor_zero, V.cor_ne h0]
  · simp only [V.orI, h 0 (by omega), h 1 (by omega), V.cor_zero, V.cor_ne h0]
theorem sem_zero (x y : List V.Bs × List V.Bs) (h : ∀ j, j < 3 → V.numbers (x.1.getD j []) (y.1.getD j []) = 0) : V.semCmp x y = V.preCmp x.2 y.2 := by
  unfold V.semCmp
  simp only [V.orI, h 0 (by omega), h 1 (by omega), h 2 (by omega), V.cor_zero]

theorem rsem_some {r : Option (List V.Bs × List V.Bs)} {l pre : List V.Bs} {w : World} {e : Ending} {w' : World} (h : RSem r w e w') (hr : r = some (l, pre)) (h3 : l.length = 3) :
    ∃ b off cap a c, e = .returned (.tuple #[.slice (some ⟨b, off, none⟩) 3 cap, .slice a pre.length c, .bool true]) ∧ b < w'.heap.size ∧ (∀ j, j < 3 → w'.cell? ⟨b, off + j, none⟩ = some (.string ⟨(l.getD j []).toArray⟩)) ∧
      Strs w' (.slice a pre.length c) pre ∧ Below w.heap.size w w' := by
  subst hr
  obtain ⟨hb, v, u, rfl, hs, hu⟩ := h
  obtain ⟨b, off, cap, rfl, hlt, hc⟩ := hs.head (by omega)
  have hu' := hu
  obtain ⟨a, c, rfl⟩ := hu.slice
  rw [h3] at hc
  exact ⟨b, off, cap, a, c, by rw [h3], hlt, hc, hu', hb⟩

set_option maxRecDepth 100000 in
set_option maxHeartbeats 3200000 in
theorem rbySemver_any (s t : ByteArray) (la pa lb pb : List V.Bs) (w : World) (hm : MaxOk w) (hs : s.size ≤ 64) (ht : t.size ≤ 64)
    (hp : V.semParse s.data.toList = some (la, pa)) (hq : V.semParse t.data.toList = some (lb, pb)) :
    Calls Tryz.prog 22 #[.string s, .string t] w fun e w' => e = .returned (.int .i64 (V.semCmp (la, pa) (lb, pb))) ∧ Below w.heap.size w w' := by
  have fa := V.semParse_facts hp
  have fb := V.semParse_facts hq
  have na := pre_len hp
  have nb := pre_len hq
  rw [bs_size] at fa fb na nb
  have GA : Hid (∀ j, (la.getD j []).length ≤ 64) := Lib.hid (fun j => by have := V.getD_le fa.1 j; omega)
  have GB : Hid (∀ j, (lb.getD j []).length ≤ 64) := Lib.hid (fun j => by have := V.getD_le fb.1 j; omega)
  have IA : Hid (∀ j, (pa.getD j []).length ≤ 64) := Lib.hid (fun j => by have := V.getD_le (fun x hx => (fa.2 x hx).1) j; omega)
  have IB : Hid (∀ j, (pb.getD j []).length ≤ 64) := Lib.hid (fun j => by have := V.getD_le (fun x hx => (fb.2 x hx).1) j; omega)
  have hpa : pa.length ≤ 65 := by omega
  have hpb : pb.length ≤ 65 := by omega
  have T1 := Lib.hid (sem_three hp)
  have T2 := Lib.hid (sem_three hq)
  have HP := Lib.hid hp
  have HQ := Lib.hid hq
  have HM := Lib.hid hm
  clear hp hq hm fa fb na nb
  go_enter Tryz.func22, Tryz.ntmps22
  go_wp2_with fail
  refine (rsemver_any s _ HM.out (by omega)).mono ?_
  rintro e w1 h
  obtain ⟨b1, o1, cap1, a3, c3, rfl, lt1, hc1, hs1, hb1⟩ := rsem_some h HP.out T1.out
  have hm1 := HM.out.below hb1
  have HB1 := Lib.hid hb1
  have HC1 := Lib.hid hc1
  have HS1 := Lib.hid hs1
  clear h hb1 hc1 hs1
  go_wp2_with fail
  refine (rsemver_any t _ hm1 (by omega)).mono ?_
  rintro e w2 h
  obtain ⟨b2, o2, cap2, a4, c4, rfl, lt2, hc2, hs2, hb2⟩ := rsem_some h HQ.out T2.out
  have lt1' : b1 < w2.heap.size := Nat.lt_of_lt_of_le lt1 hb2.size
  have HC1' : Hid (∀ j, j < 3 → w2.cell? ⟨b1, o1 + j, none⟩ = some (.string ⟨(la.getD j []).toArray⟩)) := Lib.hid (fun j hj => (hb2.cell (p := ⟨b1, o1 + j, none⟩) lt1).trans (HC1.out j hj))
  have HC2 := Lib.hid hc2
  have HS1' := Lib.hid (HS1.out.below hb2)
  have HS2 := Lib.hid hs2
  have HB2 := Lib.hid (HB1.out.trans (hb2.mono HB1.out.size))
  clear h hb2 hc2 hs2 HC1 HS1 hm1 lt1
  go_wp2
  go_loopw [11] (fun i wr => ∃ k : Nat, k ≤ 3 ∧ i = .int .i64 k ∧ (∀ j, j < k → V.numbers (la.getD j []) (lb.getD j []) = 0) ∧ Below w2.heap.size w2 wr) (fun i _ => 3 - (intOf i).toNat)
  case atStart => exact ⟨0, Nat.zero_le _, rfl, fun j hj => by omega, Below.refl _ _⟩
  case round =>
    obtain ⟨k, hk, rfl, hz, hB⟩ := hrel
    have HZ := Lib.hid hz
    have HB := Lib.hid hB
    clear hz hB
    by_cases hlt : k < 3
    · have hx := (HB.out.cell (p := ⟨b1, o1 + k, none⟩) lt1').trans (HC1'.out k hlt)
      have hy := (HB.out.cell (p := ⟨b2, o2 + k, none⟩) lt2).trans (HC2.out k hlt)
      have hlx := GA.out k
      have hly := GB.out k
      have HHIT := Lib.hid (sem_hit (la, pa) (lb, pb) k hlt HZ.out)
      have HNEXT : Hid (V.numbers (la.getD k []) (lb.getD k []) = 0 → ∀ j, j < k + 1 → V.numbers (la.getD j []) (lb.getD j []) = 0) := Lib.hid (fun h0 j hj => by
        by_cases e : j = k
        · subst e; exact h0
        · exact HZ.out j (by omega))
      simp only at HHIT
      generalize la.getD k [] = x at *
      generalize lb.getD k [] = y at *
      go_wp2
      go_quiet ((go_at_call 35; exact Calls.quiet_of_same (rorder_q x y _ (by omega) (by omega))))
      rename_i nq
      have HB5 := Lib.hid (below_drewN HB.out nq)
      clear hx hy
      generalize wr.drewN nq = W at *
      by_cases h0 : V.numbers x y = 0
      · have HN := Lib.hid (HNEXT.out h0)
        rw [h0]
        clear h0
        go_wp2
        go_roundw
        case rel => exact ⟨k + 1, by omega, by go_num, HN.out, HB5.out⟩
        case measure => simp [intOf]; omega
      · have HR : Hid (V.semCmp (la, pa) (lb, pb) = V.numbers x y) := Lib.hid (HHIT.out h0)
        have hb : (V.numbers x y != 0) = true := by simpa using h0
        generalize V.numbers x y = c at *
        clear h0
        go_wp2
        go_ret
        exact ⟨ret_int HR.out.symm, HB2.out.trans (HB5.out.mono HB2.out.size)⟩
    · obtain rfl : k = 3 := by omega
      have HF : Hid (V.semCmp (la, pa) (lb, pb) = V.preCmp pa pb) := Lib.hid (sem_zero _ _ HZ.out)
      have hP : Hid (V.preCmp pa pb = if pa.isEmpty || pb.isEmpty then Lib.compareInt pb.length pa.length else V.listCmp V.identC pa pb) := rfl
      have HBE := Lib.hid (HB2.out.trans (HB.out.mono HB2.out.size))
      clear hlt
      by_cases h1 : pa.length = 0
      · have b1e : ((pa.length : Int) == 0) = true := by rw [h1]; rfl
        have b1g : ¬ (0 < pa.length) := by omega
        have HF3 : Hid (V.semCmp (la, pa) (lb, pb) = Lib.compareInt pb.length 0) := Lib.hid (by
          rw [HF.out, hP.out, if_pos (by rw [List.eq_nil_of_length_eq_zero h1]; rfl), h1]; rfl)
        clear h1
        by_cases h2 : 0 < pb.length
        · have HF4 : Hid (V.semCmp (la, pa) (lb, pb) = 1) := Lib.hid (by
            rw [HF3.out]; unfold Lib.compareInt; rw [if_neg (by omega), if_pos (by omega)])
          go_wp2
          go_ret
          exact ⟨ret_int HF4.out.symm, HBE.out⟩
        · have HF4 : Hid (V.semCmp (la, pa) (lb, pb) = 0) := Lib.hid (by
            rw [HF3.out]; unfold Lib.compareInt; rw [if_neg (by omega), if_neg (by omega)])
          go_wp2
          go_ret
          exact ⟨ret_int HF4.out.symm, HBE.out⟩
      · have b1e : ((pa.length : Int) == 0) = false := by rw [beq_eq_false_iff_ne]; omega
        have b1g : 0 < pa.length := by omega
        by_cases h2 : pb.length = 0
        · have b2e : ((pb.length : Int) == 0) = true := by rw [h2]; rfl
          have HF4 : Hid (V.semCmp (la, pa) (lb, pb) = -1) := Lib.hid (by
            rw [HF.out, hP.out, if_pos (by rw [List.eq_nil_of_length_eq_zero h2]; simp), h2]; unfold Lib.compareInt; rw [if_pos (by simp; omega)])
          clear h1 h2
          go_wp2
          go_ret
          exact ⟨ret_int HF4.out.symm, HBE.out⟩
        · have b2e : ((pb.length : Int) == 0) = false := by rw [beq_eq_false_iff_ne]; omega
          have b2g : 0 < pb.length := by omega
          have HF3 : Hid (V.semCmp (la, pa) (lb, pb) = V.listCmp V.identC pa pb) := Lib.hid (by
            rw [HF.out, hP.out, if_neg]
            cases pa <;> cases pb <;> simp at h1 h2 ⊢)
          clear h1 h2
          obtain ⟨b5, o5, e5, lt5, _⟩ := HS1'.out.at 0 b1g
          obtain ⟨b6, o6, e6, lt6, _⟩ := HS2.out.at 0 b2g
          have HD1 : Hid (∀ j, j < pa.length → w2.cell? ⟨b5, o5 + j, none⟩ = some (.string ⟨(pa.getD j []).toArray⟩)) := Lib.hid (fun j hj => by
            obtain ⟨b', o', e', _, h⟩ := HS1'.out.at j hj
            rw [e5] at e'; cases e'; exact h)
          have HD2 : Hid (∀ j, j < pb.length → w2.cell? ⟨b6, o6 + j, none⟩ = some (.string ⟨(pb.getD j []).toArray⟩)) := Lib.hid (fun j hj => by
            obtain ⟨b', o', e', _, h⟩ := HS2.out.at j hj
            rw [e6] at e'; cases e'; exact h)
          subst e5 e6
          clear HS1' HS2
          obtain ⟨wo, hwo⟩ : ∃ wo : World, wo = wr := ⟨_, rfl⟩
          subst hwo
          go_wp2
          go_loopw [13] (fun i wr => ∃ k : Nat, k ≤ pa.length ∧ k ≤ pb.length ∧ i = .int .i64 k ∧ (∀ j, j < k → V.identC (pa.getD j []) (pb.getD j []) = 0) ∧ Below w2.heap.size w2 wr) (fun i _ => pa.length - (intOf i).toNat)
          case atStart => exact ⟨0, Nat.zero_le _, Nat.zero_le _, rfl, fun j hj => by omega, HB.out⟩
          case round =>
            obtain ⟨k, hk1, hk2, rfl, hz, hB⟩ := hrel
            have HZ := Lib.hid hz
            have HB := Lib.hid hB
            clear hz hB
            by_cases hlt1 : k < pa.length
            · by_cases hlt2 : k < pb.length
              · have hx := (HB.out.cell (p := ⟨b5, o5 + k, none⟩) lt5).trans (HD1.out k hlt1)
                have hy := (HB.out.cell (p := ⟨b6, o6 + k, none⟩) lt6).trans (HD2.out k hlt2)
                have hlx := IA.out k
                have hly := IB.out k
                have HHIT := Lib.hid (listCmp_hit k pa pb hlt1 hlt2 HZ.out)
                have HNEXT : Hid (V.identC (pa.getD k []) (pb.getD k []) = 0 → ∀ j, j < k + 1 → V.identC (pa.getD j []) (pb.getD j []) = 0) := Lib.hid (fun h0 j hj => by
                  by_cases e : j = k
                  · subst e; exact h0
                  · exact HZ.out j (by omega))
                generalize pa.getD k [] = x at *
                generalize pb.getD k [] = y at *
                go_wp2
                go_quiet ((go_at_call 36; exact Calls.quiet_of_same (ridentifier_q x y _ (by omega) (by omega))))
                rename_i nq
                have HB5 := Lib.hid (below_drewN HB.out nq)
                clear hx hy
                generalize wr.drewN nq = W at *
                by_cases h0 : V.identC x y = 0
                · have HN := Lib.hid (HNEXT.out h0)
                  rw [h0]
                  clear h0
                  go_wp2
                  go_roundw
                  case rel => exact ⟨k + 1, by omega, by omega, by go_num, HN.out, HB5.out⟩
                  case measure => simp [intOf]; omega
                · have HR : Hid (V.semCmp (la, pa) (lb, pb) = V.identC x y) := Lib.hid (by rw [HF3.out]; exact HHIT.out h0)
                  have hb : (V.identC x y != 0) = true := by simpa using h0
                  generalize V.identC x y = c at *
                  clear h0
                  go_wp2
                  go_ret
                  exact ⟨ret_int HR.out.symm, HB2.out.trans (HB5.out.mono HB2.out.size)⟩
              · have HR : Hid (V.semCmp (la, pa) (lb, pb) = V.sgn ((pa.length : Int) - pb.length)) := Lib.hid (by
                  rw [HF3.out, listCmp_left k pa pb hlt1 (by omega) HZ.out]; unfold V.sgn; rw [if_neg (by omega), if_pos (by omega)])
                go_wp2_with fail
                refine (rsign_any _ _).mono ?_
                rintro e w' ⟨rfl, rfl⟩
                go_wp2
                go_ret
                exact ⟨ret_int HR.out.symm, HB2.out.trans (HB.out.mono HB2.out.size)⟩
            · have HR : Hid (V.semCmp (la, pa) (lb, pb) = V.sgn ((pa.length : Int) - pb.length)) := Lib.hid (by
                rw [HF3.out, listCmp_right k pa pb (by omega) hk2 HZ.out]; unfold V.sgn
                by_cases hl : k < pb.length
                · rw [if_pos hl, if_pos (by omega)]
                · rw [if_neg hl, if_neg (by omega), if_neg (by omega)])
              go_wp2_with fail
              refine (rsign_any _ _).mono ?_
              rintro e w' ⟨rfl, rfl⟩
              go_wp2
              go_ret
              exact ⟨ret_int HR.out.symm, HB2.out.trans (HB.out.mono HB2.out.size)⟩

set_option maxHeartbeats 400000 in
theorem rscheme_any (n : Int) (w : World) :
    Calls Tryz.prog 26 #[.int .i64 n] w fun e w' => e = .returned (.bool (V.scheme n)) ∧ w = w' := by
  have hs : V.scheme n = (decide (1 ≤ n) && decide (n ≤ 3)) := by
    rw [Bool.eq_iff_iff]; unfold V.scheme; simp; omega
  have HS := Lib.hid hs
  clear hs
  go_enter Tryz.func26, Tryz.ntmps26
  go_wp2
  all_goals go_ret
  all_goals exact ⟨ret_bool (by rw [HS.out]; simp_all; try omega), rfl⟩

set_option maxRecDepth 100000 in
set_option maxHeartbeats 800000 in
theorem rOrder_any (n : Int) (s t : ByteArray) (w : World) (hm : MaxOk w) (hn : V.scheme n = true) (hs : V.valid n s.data.toList = true) (ht : V.valid n t.data.toList = true) :
    Calls Tryz.prog 9 #[.int .i64 n, .string s, .string t] w fun e w' => e = .returned (.int .i64 (V.cmpV n s.data.toList t.data.toList)) ∧ Below w.heap.size w w' := by
  have l1 := V.valid_short hs
  have l2 := V.valid_short ht
  rw [bs_size] at l1 l2
  have HM := Lib.hid hm
  have h3 : n = 1 ∨ n = 2 ∨ n = 3 := by unfold V.scheme at hn; simpa [or_assoc] using hn
  rcases h3 with rfl | rfl | rfl
  · obtain ⟨⟨la, pa⟩, e1⟩ := Option.isSome_iff_exists.1 (show (V.semParse s.data.toList).isSome = true by unfold V.valid V.schOk at hs; simp at hs; exact hs.2)
    obtain ⟨⟨lb, pb⟩, e2⟩ := Option.isSome_iff_exists.1 (show (V.semParse t.data.toList).isSome = true by unfold V.valid V.schOk at ht; simp at ht; exact ht.2)
    have HC : Hid (V.cmpV 1 s.data.toList t.data.toList = V.semCmp (la, pa) (lb, pb)) := Lib.hid (by unfold V.cmpV; rw [if_pos rfl, e1, e2])
    have E1 := Lib.hid e1
    have E2 := Lib.hid e2
    clear e1 e2 hs ht hm hn
    go_enter Tryz.func9, Tryz.ntmps9
    go_wp2_with fail
    refine (rbySemver_any s t la pa lb pb _ HM.out l1 l2 E1.out E2.out).mono ?_
    rintro e w1 ⟨rfl, hb⟩
    have HB := Lib.hid hb
    clear hb
    go_wp2
    go_ret
    exact ⟨ret_int HC.out.symm, HB.out⟩
  · obtain ⟨⟨x0, x1, x2⟩, e1⟩ := Option.isSome_iff_exists.1 (show (V.debParse s.data.toList).isSome = true by unfold V.valid V.schOk at hs; simp at hs; exact hs.2)
    obtain ⟨⟨y0, y1, y2⟩, e2⟩ := Option.isSome_iff_exists.1 (show (V.debParse t.data.toList).isSome = true by unfold V.valid V.schOk at ht; simp at ht; exact ht.2)
    have HC : Hid (V.cmpV 2 s.data.toList t.data.toList = V.debCmp (x0, x1, x2) (y0, y1, y2)) := Lib.hid (by unfold V.cmpV; rw [if_neg (by decide), if_pos rfl, e1, e2])
    have E1 := Lib.hid e1
    have E2 := Lib.hid e2
    clear e1 e2 hs ht hm hn
    go_enter Tryz.func9, Tryz.ntmps9
    go_wp2_with fail
    refine (rbyDebian_any s t x0 x1 x2 y0 y1 y2 _ HM.out l1 l2 E1.out E2.out).mono ?_
    rintro e w1 ⟨rfl, hb⟩
    have HB := Lib.hid hb
    clear hb
    go_wp2
    go_ret
    exact ⟨ret_int HC.out.symm, HB.out⟩
  · have HC : Hid (V.cmpV 3 s.data.toList t.data.toList = V.dotCmp s.data.toList t.data.toList) := Lib.hid (by unfold V.cmpV; rw [if_neg (by decide), if_neg (by decide)])
    clear hs ht hm hn
    go_enter Tryz.func9, Tryz.ntmps9
    go_wp2_with fail
    refine (rbyDots_any s t _ HM.out l1 l2).mono ?_
    rintro e w1 ⟨rfl, hb⟩
    have HB := Lib.hid hb
    clear hb
    go_wp2
    go_ret
    exact ⟨ret_int HC.out.symm, HB.out⟩

set_option maxRecDepth 100000 in
set_option maxHeartbeats 1600000 in
theorem rcompare_any (n : Int) (s t : ByteArray) (w : World) (hm : MaxOk w) (hs : s.size ≤ maxLen) (ht : t.size ≤ maxLen) :
    Calls Tryz.prog 11 #[.int .i64 n, .string s, .string t] w fun e w' =>
      e = .returned (.tuple #[.int .i64 (V.compareR n s.data.toList t.data.toList).1, .int .i64 (V.compareR n s.data.toList t.data.toList).2]) ∧ Below w.heap.size w w' := by
  have HF : Hid (V.compareR n s.data.toList t.data.toList = if !V.scheme n then (0, 14) else if V.valid n s.data.toList && V.valid n t.data.toList then (V.cmpV n s.data.toList t.data.toList, 0) else (0, 1)) := rfl
  have HM := Lib.hid hm
  have HS := Lib.hid hs
  have HT := Lib.hid ht
  clear hm hs ht
  rcases h1 : V.scheme n with _ | _
  · rw [h1] at HF
    have H1 := Lib.hid h1
    clear h1
    have HR := Lib.hid (show V.compareR n s.data.toList t.data.toList = (0, 14) from HF.out)
    go_enter Tryz.func11, Tryz.ntmps11
    go_wp2_with fail
    refine (rscheme_any _ _).mono ?_
    rintro e w' ⟨rfl, rfl⟩
    simp only [H1.out]
    go_wp2
    go_ret2
    exact ⟨by rw [HR.out]; rfl, Below.refl _ _⟩
  · rcases h2 : V.valid n s.data.toList with _ | _
    · rw [h1, h2] at HF
      have H1 := Lib.hid h1
      have H2 := Lib.hid h2
      clear h1 h2
      have HR := Lib.hid (show V.compareR n s.data.toList t.data.toList = (0, 1) from HF.out)
      go_enter Tryz.func11, Tryz.ntmps11
      go_wp2_with fail
      refine (rscheme_any _ _).mono ?_
      rintro e w' ⟨rfl, rfl⟩
      simp only [H1.out]
      go_wp2_with fail
      refine (rvalid_any n s _ HM.out HS.out).mono ?_
      rintro e w1 ⟨rfl, hb⟩
      have HB := Lib.hid hb
      clear hb
      simp only [H2.out]
      go_wp2
      go_ret2
      exact ⟨by rw [HR.out]; rfl, HB.out⟩
    · rcases h3 : V.valid n t.data.toList with _ | _
      · rw [h1, h2, h3] at HF
        have H1 := Lib.hid h1
        have H2 := Lib.hid h2
        have H3 := Lib.hid h3
        clear h1 h2 h3
        have HR := Lib.hid (show V.compareR n s.data.toList t.data.toList = (0, 1) from HF.out)
        go_enter Tryz.func11, Tryz.ntmps11
        go_wp2_with fail
        refine (rscheme_any _ _).mono ?_
        rintro e w' ⟨rfl, rfl⟩
        simp only [H1.out]
        go_wp2_with fail
        refine (rvalid_any n s _ HM.out HS.out).mono ?_
        rintro e w1 ⟨rfl, hb⟩
        have HB := Lib.hid hb
        clear hb
        simp only [H2.out]
        go_wp2_with fail
        refine (rvalid_any n t _ (HM.out.below HB.out) HT.out).mono ?_
        rintro e w2 ⟨rfl, hb⟩
        have HB2 := Lib.hid (HB.out.trans (hb.mono HB.out.size))
        clear hb
        simp only [H3.out]
        go_wp2
        go_ret2
        exact ⟨by rw [HR.out]; rfl, HB2.out⟩
      · rw [h1, h2, h3] at HF
        have H1 := Lib.hid h1
        have H2 := Lib.hid h2
        have H3 := Lib.hid h3
        clear h1 h2 h3
        have HR := Lib.hid (show V.compareR n s.data.toList t.data.toList = (V.cmpV n s.data.toList t.data.toList, 0) from HF.out)
        go_enter Tryz.func11, Tryz.ntmps11
        go_wp2_with fail
        refine (rscheme_any _ _).mono ?_
        rintro e w' ⟨rfl, rfl⟩
        simp only [H1.out]
        go_wp2_with fail
        refine (rvalid_any n s _ HM.out HS.out).mono ?_
        rintro e w1 ⟨rfl, hb⟩
        have HB := Lib.hid hb
        clear hb
        simp only [H2.out]
        go_wp2_with fail
        refine (rvalid_any n t _ (HM.out.below HB.out) HT.out).mono ?_
        rintro e w2 ⟨rfl, hb⟩
        have HB2 := Lib.hid (HB.out.trans (hb.mono HB.out.size))
        clear hb
        simp only [H3.out]
        go_wp2_with fail
        refine (rOrder_any n s t _ (HM.out.below HB2.out) H1.out H2.out H3.out).mono ?_
        rintro e w3 ⟨rfl, hb⟩
        have HB3 := Lib.hid (HB2.out.trans (hb.mono HB2.out.size))
        clear hb
        go_wp2
        go_ret2
        exact ⟨by rw [HR.out]; rfl, HB3.out⟩
end Go.Proofs.YtabeblbhbekjaaaGreatDoor
