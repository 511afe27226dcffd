/-
  Walks: the reference of layer 7: cuts and bounds.
  Walks: the reference of layer 7: covers.
  Walks: the reference of layer 7: holds, between.
-/
import Derived.Test.YtpjjkbdkgaehkaaGreatDoorRO
import Derived.Test.YtpjjkbdkgaehkaaGreatDoorMC
import Derived.Test.YtpjjkbdkgaehkaaGreatDoorU9
import Derived.Test.YtpjjkbdkgaehkaaGreatDoorMF
import Derived.Test.YtpjjkbdkgaehkaaGreatDoorMK
namespace Go.Proofs.YtpjjkbdkgaehkaaGreatDoor
open Go.RowKit

/-- a cut of the reference as a value -/
def ecV (x : V.Ec) : Value := .agg #[.int .i64 x.e, .string ⟨x.v.toArray⟩, .int .i64 x.s]

set_option maxRecDepth 100000 in
theorem rrLow_any (x : V.Itv) (w : World) : Calls Tryz.prog 105 #[itvV x] w fun e w' => e = .returned (ecV (V.eLow x)) ∧ Below w.heap.size w w' := by
  obtain ⟨lo, lk, hi, hk⟩ := x
  have HF : Hid (V.eLow ⟨lo, lk, hi, hk⟩ = if lk = 1 then ⟨0, lo, 0⟩ else if lk = 2 then ⟨0, lo, 1⟩ else V.ebot) := Lib.hid rfl
  unfold itvV ecV
  simp only
  by_cases h1 : lk = 1
  · subst h1
    have HR : Hid (V.eLow ⟨lo, 1, hi, hk⟩ = ⟨0, lo, 0⟩) := Lib.hid rfl
    rw [HR.out]
    go_enter Tryz.func105, Tryz.ntmps105
    go_wp2
    exact bodyPost_ret (v := .agg #[.int .i64 0, .string ⟨lo.toArray⟩, .int .i64 0]) (by simp [results, Tryz.results105, go_sem]) rfl ⟨rfl, ((((Below.refl _ _).alloc (Nat.le_refl _) _).alloc (by simp) _))⟩
  · by_cases h2 : lk = 2
    · subst h2
      have HR : Hid (V.eLow ⟨lo, 2, hi, hk⟩ = ⟨0, lo, 1⟩) := Lib.hid rfl
      rw [HR.out]
      go_enter Tryz.func105, Tryz.ntmps105
      go_wp2
      exact bodyPost_ret (v := .agg #[.int .i64 0, .string ⟨lo.toArray⟩, .int .i64 1]) (by simp [results, Tryz.results105, go_sem]) rfl ⟨rfl, ((((Below.refl _ _).alloc (Nat.le_refl _) _).alloc (by simp) _))⟩
    · have b1 : (lk == 1) = false := by simpa using h1
      have b2 : (lk == 2) = false := by simpa using h2
      have HR : Hid (V.eLow ⟨lo, lk, hi, hk⟩ = ⟨-1, [], 0⟩) := Lib.hid (by rw [HF.out, if_neg h1, if_neg h2]; rfl)
      rw [HR.out]
      clear h1 h2
      go_enter Tryz.func105, Tryz.ntmps105
      go_wp2
      exact bodyPost_ret (v := .agg #[.int .i64 (-1), .string ⟨#[]⟩, .int .i64 0]) (by simp [results, Tryz.results105, go_sem]) rfl ⟨rfl, ((((Below.refl _ _).alloc (Nat.le_refl _) _).alloc (by simp) _))⟩
set_option maxRecDepth 100000 in
theorem rrHigh_any (x : V.Itv) (w : World) : Calls Tryz.prog 106 #[itvV x] w fun e w' => e = .returned (ecV (V.eHigh x)) ∧ Below w.heap.size w w' := by
  obtain ⟨lo, lk, hi, hk⟩ := x
  have HF : Hid (V.eHigh ⟨lo, lk, hi, hk⟩ = if hk = 1 then ⟨0, hi, 1⟩ else if hk = 2 then ⟨0, hi, 0⟩ else V.etop) := Lib.hid rfl
  unfold itvV ecV
  simp only
  by_cases h1 : hk = 1
  · subst h1
    have HR : Hid (V.eHigh ⟨lo, lk, hi, 1⟩ = ⟨0, hi, 1⟩) := Lib.hid rfl
    rw [HR.out]
    go_enter Tryz.func106, Tryz.ntmps106
    go_wp2
    exact bodyPost_ret (v := .agg #[.int .i64 0, .string ⟨hi.toArray⟩, .int .i64 1]) (by simp [results, Tryz.results106, go_sem]) rfl ⟨rfl, ((((Below.refl _ _).alloc (Nat.le_refl _) _).alloc (by simp) _))⟩
  · by_cases h2 : hk = 2
    · subst h2
      have HR : Hid (V.eHigh ⟨lo, lk, hi, 2⟩ = ⟨0, hi, 0⟩) := Lib.hid rfl
      rw [HR.out]
      go_enter Tryz.func106, Tryz.ntmps106
      go_wp2
      exact bodyPost_ret (v := .agg #[.int .i64 0, .string ⟨hi.toArray⟩, .int .i64 0]) (by simp [results, Tryz.results106, go_sem]) rfl ⟨rfl, ((((Below.refl _ _).alloc (Nat.le_refl _) _).alloc (by simp) _))⟩
    · have b1 : (hk == 1) = false := by simpa using h1
      have b2 : (hk == 2) = false := by simpa using h2
      have HR : Hid (V.eHigh ⟨lo, lk, hi, hk⟩ = ⟨1, [], 0⟩) := Lib.hid (by rw [HF.out, if_neg h1, if_neg h2]; rfl)
      rw [HR.out]
      clear h1 h2
      go_enter Tryz.func106, Tryz.ntmps106
      go_wp2
      exact bodyPost_ret (v := .agg #[.int .i64 1, .string ⟨#[]⟩, .int .i64 0]) (by simp [results, Tryz.results106, go_sem]) rfl ⟨rfl, ((((Below.refl _ _).alloc (Nat.le_refl _) _).alloc (by simp) _))⟩

set_option maxRecDepth 100000 in
set_option maxHeartbeats 1600000 in
theorem rrCompare_any (n : Int) (a b : V.Ec) (w : World) (hm : MaxOk w) (hn : V.scheme n = true) (ha : V.EcOk n a) (hb : V.EcOk n b) :
    Calls Tryz.prog 104 #[.int .i64 n, ecV a, ecV b] w fun e w' => e = .returned (.int .i64 (V.ecmp n a b)) ∧ Below w.heap.size w w' := by
  have HZ : Hid (V.ecmp n a b = if a.e ≠ b.e ∨ a.e ≠ 0 then a.e - b.e else if V.cmpV n a.v b.v ≠ 0 then V.cmpV n a.v b.v else a.s - b.s) := Lib.hid rfl
  have HB := Lib.hid (show Below w.heap.size w ((w.alloc (.cells #[.int .i64 a.e, .string ⟨a.v.toArray⟩, .int .i64 a.s] 150)).alloc (.cells #[.int .i64 b.e, .string ⟨b.v.toArray⟩, .int .i64 b.s] 150)) from ((Below.refl _ _).alloc (Nat.le_refl _) _).alloc (by simp) _)
  have HM := Lib.hid hm
  have HN := Lib.hid hn
  clear hm hn
  unfold ecV
  rcases ha with rfl | rfl | ⟨⟨x, p⟩, hx, rfl⟩ <;> rcases hb with rfl | rfl | ⟨⟨y, q⟩, hy, rfl⟩
  rotate_right
  · have HX := Lib.hid (show V.valid n x = true from hx)
    have HY := Lib.hid (show V.valid n y = true from hy)
    clear hx hy
    unfold V.eat at HB HZ ⊢
    simp only at HB HZ ⊢
    obtain ⟨sp, hsp⟩ : ∃ sp : Int, sp = if p then 1 else 0 := ⟨_, rfl⟩
    obtain ⟨sq, hsq⟩ : ∃ sq : Int, sq = if q then 1 else 0 := ⟨_, rfl⟩
    have hsp1 : 0 ≤ sp ∧ sp ≤ 1 := by rw [hsp]; cases p <;> simp
    have hsq1 : 0 ≤ sq ∧ sq ≤ 1 := by rw [hsq]; cases q <;> simp
    obtain ⟨hsp1, hsp2⟩ := hsp1
    obtain ⟨hsq1, hsq2⟩ := hsq1
    rw [← hsp, ← hsq] at HB HZ ⊢
    clear hsp hsq
    have HM0 := Lib.hid (HM.out.below HB.out)
    obtain ⟨z, hz⟩ : ∃ z, V.cmpV n x y = z := ⟨_, rfl⟩
    rw [hz] at HZ
    have HC := Lib.hid hz
    clear hz
    have e1 : ((w.alloc (.cells #[.int .i64 0, .string ⟨x.toArray⟩, .int .i64 sp] 150)).alloc (.cells #[.int .i64 0, .string ⟨y.toArray⟩, .int .i64 sq] 150)).cell? ⟨w.heap.size, 2, none⟩ = some (.int .i64 sp) := by simp [cell_alloc]
    have e2 : ((w.alloc (.cells #[.int .i64 0, .string ⟨x.toArray⟩, .int .i64 sp] 150)).alloc (.cells #[.int .i64 0, .string ⟨y.toArray⟩, .int .i64 sq] 150)).cell? ⟨w.heap.size + 1, 2, none⟩ = some (.int .i64 sq) := by simp [cell_alloc]
    have hw := rOrder_any n ⟨x.toArray⟩ ⟨y.toArray⟩ ((w.alloc (.cells #[.int .i64 0, .string ⟨x.toArray⟩, .int .i64 sp] 150)).alloc (.cells #[.int .i64 0, .string ⟨y.toArray⟩, .int .i64 sq] 150)) HM0.out HN.out (by rw [bs_mk]; exact HX.out) (by rw [bs_mk]; exact HY.out)
    rw [bs_mk, bs_mk, HC.out] at hw
    have HW := Lib.hid hw
    have HE := Lib.hid (And.intro e1 e2)
    clear hw e1 e2
    go_enter Tryz.func104, Tryz.ntmps104
    go_wp2_with fail
    refine HW.out.mono ?_
    rintro e w1 ⟨rfl, hb1⟩
    have c1 := (hb1.cell (p := ⟨w.heap.size, 2, none⟩) (by simp; omega)).trans HE.out.1
    have c2 := (hb1.cell (p := ⟨w.heap.size + 1, 2, none⟩) (by simp)).trans HE.out.2
    have HB1 := Lib.hid (HB.out.trans (hb1.mono HB.out.size))
    clear hb1
    by_cases h0 : z = 0
    · subst h0
      have HF2 : Hid (V.ecmp n ⟨0, x, sp⟩ ⟨0, y, sq⟩ = sp - sq) := Lib.hid (by rw [HZ.out]; simp)
      clear HZ
      go_wp2
      go_ret
      exact ⟨ret_int HF2.out.symm, HB1.out⟩
    · have hz1 : (z != 0) = true := by simpa using h0
      have HF2 : Hid (V.ecmp n ⟨0, x, sp⟩ ⟨0, y, sq⟩ = z) := Lib.hid (by
        rw [HZ.out, if_neg (by simp), if_pos h0])
      clear h0 HZ
      go_wp2
      go_ret
      exact ⟨ret_int HF2.out.symm, HB1.out⟩
  all_goals try (cases p)
  all_goals try (cases q)
  all_goals
    try unfold V.ebot at HB HZ ⊢
    try unfold V.etop at HB HZ ⊢
    try unfold V.eat at HB HZ ⊢
    simp only at HB HZ ⊢
    go_enter Tryz.func104, Tryz.ntmps104
    go_wp2
    go_ret
    exact ⟨ret_int (by unfold V.ecmp; simp), HB.out⟩

theorem rrBound_any (n : Int) (v : V.Bs) (k : Int) (w : World) (hm : MaxOk w) (hv : v.length ≤ maxLen) :
    Calls Tryz.prog 103 #[.int .i64 n, .int .i64 k, .string ⟨v.toArray⟩] w fun e w' => e = .returned (.bool (V.boundB n v k)) ∧ Below w.heap.size w w' := by
  have HF : Hid (V.boundB n v k = if k = 0 then v.isEmpty else (decide (k = 1) || decide (k = 2)) && V.valid n v) := rfl
  by_cases h0 : k = 0
  · subst h0
    rw [if_pos rfl] at HF
    by_cases hv0 : v = []
    · subst hv0
      go_enter Tryz.func103, Tryz.ntmps103
      go_wp2
      go_ret
      exact ⟨rfl, Below.refl _ _⟩
    · have HFE : Hid (V.boundB n v 0 = false) := Lib.hid (by rw [HF.out]; simpa using hv0)
      have hne : ¬ v = [] := hv0
      clear hv0 HF
      go_enter Tryz.func103, Tryz.ntmps103
      go_wp2
      go_ret
      exact ⟨ret_bool (by rw [HFE.out]; simpa using hne), Below.refl _ _⟩
  · rw [if_neg h0] at HF
    have b0 : (k == 0) = false := by simpa using h0
    by_cases h12 : k = 1 ∨ k = 2
    · have HF2 : Hid (V.boundB n v k = V.valid n v) := Lib.hid (by rw [HF.out]; rcases h12 with h | h <;> simp [h])
      have HM := Lib.hid hm
      clear HF hm
      rcases h12 with rfl | rfl
      all_goals
        go_enter Tryz.func103, Tryz.ntmps103
        go_wp2_with fail
        refine (rvalid_any n ⟨v.toArray⟩ _ HM.out hv).mono ?_
        rintro e w1 ⟨rfl, hb1⟩
        rw [bs_mk]
        have HB1 := Lib.hid hb1
        clear hb1
        go_wp2
        go_ret
        exact ⟨ret_bool HF2.out.symm, HB1.out⟩
    · have b1 : (k == 1) = false := by simpa using fun h => h12 (.inl h)
      have b2 : (k == 2) = false := by simpa using fun h => h12 (.inr h)
      have HF2 : Hid (V.boundB n v k = false) := Lib.hid (by rw [HF.out, decide_eq_false (fun h => h12 (.inl h)), decide_eq_false (fun h => h12 (.inr h))]; rfl)
      clear HF h12 h0
      go_enter Tryz.func103, Tryz.ntmps103
      go_wp2
      go_ret
      exact ⟨ret_bool HF2.out.symm, Below.refl _ _⟩
end Go.Proofs.YtpjjkbdkgaehkaaGreatDoor
namespace Go.Proofs.YtpjjkbdkgaehkaaGreatDoor
open Go.RowKit

set_option maxRecDepth 100000 in
set_option maxHeartbeats 3200000 in
theorem rrCovers_any (n : Int) (v : Value) (l : List V.Itv) (a b : V.Ec) (w : World) (hm : MaxOk w) (hn : V.scheme n = true) (hv : Itvs w v l) (hB : ∀ x ∈ l, V.boundsB n x = true) (ha : V.EcOk n a) (hb : V.EcOk n b) (hl : l.length ≤ 1000) :
    Calls Tryz.prog 133 #[setV n v, ecV a, ecV b] w fun e w' => e = .returned (.bool (V.coversB n l a b)) ∧ Below w.heap.size w w' := by
  have HV := Lib.hid hv
  obtain ⟨va, vc, rfl⟩ := hv.slice
  have HA := Lib.hid ha
  have HBE := Lib.hid hb
  have HSC := Lib.hid hn
  have HBND := Lib.hid hB
  obtain ⟨p, hp⟩ : ∃ p : V.Itv → Bool, p = fun x => decide (V.ecmp n (V.eLow x) a ≤ 0) && decide (V.ecmp n b (V.eHigh x) ≤ 0) := ⟨_, rfl⟩
  have HF : Hid (V.coversB n l a b = l.any p) := Lib.hid (by rw [hp]; rfl)
  have HP := Lib.hid hp
  have hb0 : Below w.heap.size w (((w.alloc (.cells #[.int .i64 n, .slice va l.length vc] 39)).alloc (.cells #[.int .i64 a.e, .string ⟨a.v.toArray⟩, .int .i64 a.s] 150)).alloc (.cells #[.int .i64 b.e, .string ⟨b.v.toArray⟩, .int .i64 b.s] 150)) := (((Below.refl _ _).alloc (Nat.le_refl _) _).alloc (by simp) _).alloc (by simp; omega) _
  have HB0 := Lib.hid hb0
  have HM := Lib.hid (hm.below hb0)
  have c0 : (((w.alloc (.cells #[.int .i64 n, .slice va l.length vc] 39)).alloc (.cells #[.int .i64 a.e, .string ⟨a.v.toArray⟩, .int .i64 a.s] 150)).alloc (.cells #[.int .i64 b.e, .string ⟨b.v.toArray⟩, .int .i64 b.s] 150)).cell? ⟨w.heap.size, 0, none⟩ = some (.int .i64 n) := by simp [cell_alloc]; try omega
  have c1 : (((w.alloc (.cells #[.int .i64 n, .slice va l.length vc] 39)).alloc (.cells #[.int .i64 a.e, .string ⟨a.v.toArray⟩, .int .i64 a.s] 150)).alloc (.cells #[.int .i64 b.e, .string ⟨b.v.toArray⟩, .int .i64 b.s] 150)).cell? ⟨w.heap.size, 1, none⟩ = some (.slice va l.length vc) := by simp [cell_alloc]; try omega
  have a0 : (((w.alloc (.cells #[.int .i64 n, .slice va l.length vc] 39)).alloc (.cells #[.int .i64 a.e, .string ⟨a.v.toArray⟩, .int .i64 a.s] 150)).alloc (.cells #[.int .i64 b.e, .string ⟨b.v.toArray⟩, .int .i64 b.s] 150)).cell? ⟨w.heap.size + 1, 0, none⟩ = some (.int .i64 a.e) := by simp [cell_alloc]
  have a1 : (((w.alloc (.cells #[.int .i64 n, .slice va l.length vc] 39)).alloc (.cells #[.int .i64 a.e, .string ⟨a.v.toArray⟩, .int .i64 a.s] 150)).alloc (.cells #[.int .i64 b.e, .string ⟨b.v.toArray⟩, .int .i64 b.s] 150)).cell? ⟨w.heap.size + 1, 1, none⟩ = some (.string ⟨a.v.toArray⟩) := by simp [cell_alloc]
  have a2 : (((w.alloc (.cells #[.int .i64 n, .slice va l.length vc] 39)).alloc (.cells #[.int .i64 a.e, .string ⟨a.v.toArray⟩, .int .i64 a.s] 150)).alloc (.cells #[.int .i64 b.e, .string ⟨b.v.toArray⟩, .int .i64 b.s] 150)).cell? ⟨w.heap.size + 1, 2, none⟩ = some (.int .i64 a.s) := by simp [cell_alloc]
  have b0 : (((w.alloc (.cells #[.int .i64 n, .slice va l.length vc] 39)).alloc (.cells #[.int .i64 a.e, .string ⟨a.v.toArray⟩, .int .i64 a.s] 150)).alloc (.cells #[.int .i64 b.e, .string ⟨b.v.toArray⟩, .int .i64 b.s] 150)).cell? ⟨w.heap.size + 1 + 1, 0, none⟩ = some (.int .i64 b.e) := by simp [cell_alloc]
  have b1 : (((w.alloc (.cells #[.int .i64 n, .slice va l.length vc] 39)).alloc (.cells #[.int .i64 a.e, .string ⟨a.v.toArray⟩, .int .i64 a.s] 150)).alloc (.cells #[.int .i64 b.e, .string ⟨b.v.toArray⟩, .int .i64 b.s] 150)).cell? ⟨w.heap.size + 1 + 1, 1, none⟩ = some (.string ⟨b.v.toArray⟩) := by simp [cell_alloc]
  have b2 : (((w.alloc (.cells #[.int .i64 n, .slice va l.length vc] 39)).alloc (.cells #[.int .i64 a.e, .string ⟨a.v.toArray⟩, .int .i64 a.s] 150)).alloc (.cells #[.int .i64 b.e, .string ⟨b.v.toArray⟩, .int .i64 b.s] 150)).cell? ⟨w.heap.size + 1 + 1, 2, none⟩ = some (.int .i64 b.s) := by simp [cell_alloc]
  have HC := Lib.hid (And.intro c0 (And.intro c1 (And.intro a0 (And.intro a1 (And.intro a2 (And.intro b0 (And.intro b1 b2)))))))
  clear hv hb0 hm c0 a0 a1 a2 b0 b1 b2 ha hb hn hB
  unfold setV ecV
  go_enter Tryz.func133, Tryz.ntmps133
  go_wp2
  clear c1
  generalize ((w.alloc (.cells #[.int .i64 n, .slice va l.length vc] 39)).alloc (.cells #[.int .i64 a.e, .string ⟨a.v.toArray⟩, .int .i64 a.s] 150)).alloc (.cells #[.int .i64 b.e, .string ⟨b.v.toArray⟩, .int .i64 b.s] 150) = w0 at *
  go_loopw [7] (fun iv wx => ∃ k : Nat, k ≤ l.length ∧ iv = .int .i64 k ∧ (l.take k).any p = false ∧ Below w0.heap.size w0 wx) (fun iv _ => l.length - (intOf iv).toNat)
  case atStart => exact ⟨0, Nat.zero_le _, rfl, rfl, Below.refl _ _⟩
  case round =>
    obtain ⟨k, hk, rfl, hz, hbx⟩ := hrel
    have HZ := Lib.hid hz
    have HBX := Lib.hid hbx
    have HBF := Lib.hid (HB0.out.trans (hbx.mono HB0.out.size))
    have d1 := below_keep HBX.out HC.out.2.1
    clear hz hbx
    by_cases hlt : k < l.length
    · obtain ⟨g, off, rfl, hb0, hx⟩ := HV.out.at k hlt
      obtain ⟨h0, h1, h2, h3⟩ := hx.below hb0 HBF.out
      have hi1 : (0 : Int) ≤ (k : Int) := by omega
      have hi2 : (k : Int) < (l.length : Int) := by omega
      have HBK : Hid (V.boundsB n l[k] = true) := Lib.hid (HBND.out _ (List.getElem_mem hlt))
      have HYES := Lib.hid (fun hb => any_step (p := p) HZ.out hlt hb)
      have HNO := Lib.hid (fun hb => any_yes (p := p) hlt hb)
      clear hx
      generalize l[k] = x at *
      have HPX : Hid (p x = (decide (V.ecmp n (V.eLow x) a ≤ 0) && decide (V.ecmp n b (V.eHigh x) ≤ 0))) := Lib.hid (by rw [HP.out])
      have hbA : Below wr.heap.size wr (wr.alloc (.cells #[.string ⟨x.lo.toArray⟩, .int .i64 x.lk, .string ⟨x.hi.toArray⟩, .int .i64 x.hk] 80)) := (Below.refl _ wr).alloc (Nat.le_refl _) _
      have HM1 := Lib.hid ((HM.out.below HBX.out).below hbA)
      have HBA := Lib.hid (HBX.out.trans (hbA.mono HBX.out.size))
      have e0 := below_keep HBA.out HC.out.1
      have a0 := below_keep HBA.out HC.out.2.2.1
      have a1 := below_keep HBA.out HC.out.2.2.2.1
      have a2 := below_keep HBA.out HC.out.2.2.2.2.1
      have b0 := below_keep HBA.out HC.out.2.2.2.2.2.1
      have b1 := below_keep HBA.out HC.out.2.2.2.2.2.2.1
      have b2 := below_keep HBA.out HC.out.2.2.2.2.2.2.2
      have hx4 : ItvAt (wr.alloc (.cells #[.string ⟨x.lo.toArray⟩, .int .i64 x.lk, .string ⟨x.hi.toArray⟩, .int .i64 x.hk] 80)) wr.heap.size 0 x := by
        refine ⟨?_, ?_, ?_, ?_⟩ <;> simp [cell_alloc]
      have HX4 := Lib.hid hx4
      clear hbA hx4
      go_wp2_with fail
      generalize wr.alloc (.cells #[.string ⟨x.lo.toArray⟩, .int .i64 x.lk, .string ⟨x.hi.toArray⟩, .int .i64 x.hk] 80) = W1 at *
      obtain ⟨f0, f1, f2, f3⟩ := HX4.out
      rw [Nat.zero_add] at f1 f2 f3
      clear h0 h1 h2 h3 d1
      obtain ⟨z, hz⟩ : ∃ z, z = V.ecmp n (V.eLow x) a := ⟨_, rfl⟩
      obtain ⟨z2, hz2⟩ : ∃ z, z = V.ecmp n b (V.eHigh x) := ⟨_, rfl⟩
      have HC1 := Lib.hid (rrCompare_any n (V.eLow x) a)
      have HC2 := Lib.hid (rrCompare_any n b (V.eHigh x))
      rw [← hz, ← hz2] at HPX
      rw [← hz] at HC1
      rw [← hz2] at HC2
      clear hz hz2
      by_cases hz0 : z ≤ 0
      · have hd : decide (z ≤ 0) = true := decide_eq_true hz0
        have HPX2 : Hid (p x = decide (z2 ≤ 0)) := Lib.hid (by rw [HPX.out, hd]; rfl)
        clear hz0
        refine wp_region_held_drew (S := (fun W' => MaxOk W' ∧ W'.cell? ⟨w.heap.size, 0, none⟩ = some (.int .i64 n) ∧ W'.cell? ⟨wr.heap.size, 0, none⟩ = some (.string ⟨x.lo.toArray⟩) ∧ W'.cell? ⟨wr.heap.size, 1, none⟩ = some (.int .i64 x.lk) ∧ W'.cell? ⟨wr.heap.size, 2, none⟩ = some (.string ⟨x.hi.toArray⟩) ∧ W'.cell? ⟨wr.heap.size, 3, none⟩ = some (.int .i64 x.hk) ∧ W'.cell? ⟨w.heap.size + 1, 0, none⟩ = some (.int .i64 a.e) ∧ W'.cell? ⟨w.heap.size + 1, 1, none⟩ = some (.string ⟨a.v.toArray⟩) ∧ W'.cell? ⟨w.heap.size + 1, 2, none⟩ = some (.int .i64 a.s) ∧ W'.cell? ⟨w.heap.size + 1 + 1, 0, none⟩ = some (.int .i64 b.e) ∧ W'.cell? ⟨w.heap.size + 1 + 1, 1, none⟩ = some (.string ⟨b.v.toArray⟩) ∧ W'.cell? ⟨w.heap.size + 1 + 1, 2, none⟩ = some (.int .i64 b.s))) (by kernel_rfl) (by (try dsimp only); (try simp only [World.cell?_drew]); exact ⟨HM1.out.below (Below.refl _ _).drew, e0, f0, f1, f2, f3, a0, a1, a2, b0, b1, b2⟩) (fun hHeld => ?_)
        refine wpAnyH_take (i := 0) (v := ?_) rfl (by kernel_rfl) (by kernel_rfl) (by kernel_rfl) (fun _ _ _ h => h) (Or.inl ⟨by rfl, ?_⟩) (by assumption) ?_
        rotate_left
        · (intro w' hSw; (try dsimp only at hSw); go_simp; try with_reducible rfl)
        try simp only [List.getElem_toArray, List.getElem_cons_zero, Act.put, List.setIfInBounds_toArray, List.set_cons_succ, List.set_cons_zero]
        refine wpAnyH_take (i := 1) (v := ?_) rfl (by kernel_rfl) (by kernel_rfl) (by kernel_rfl) (fun _ _ _ h => h) (Or.inl ⟨by rfl, ?_⟩) (by assumption) ?_
        rotate_left
        · (intro w' hSw; (try dsimp only at hSw); go_simp; try with_reducible rfl)
        try simp only [List.getElem_toArray, List.getElem_cons_succ, List.getElem_cons_zero, Act.put, List.setIfInBounds_toArray, List.set_cons_succ, List.set_cons_zero]
        refine wpAnyH_take (i := 2) (v := ?_) rfl (by kernel_rfl) (by kernel_rfl) (by kernel_rfl) (fun _ _ _ h => h) (Or.inl ⟨by rfl, ?_⟩) (by assumption) ?_
        rotate_left
        · (intro w' hSw; (try dsimp only at hSw); go_simp; try with_reducible rfl)
        try simp only [List.getElem_toArray, List.getElem_cons_succ, List.getElem_cons_zero, Act.put, List.setIfInBounds_toArray, List.set_cons_succ, List.set_cons_zero]
        refine wpAnyH_take (i := 4) (v := ?_) rfl (by kernel_rfl) (by kernel_rfl) (by kernel_rfl) (fun _ _ _ h => h) (Or.inl ⟨by rfl, ?_⟩) (by assumption) ?_
        rotate_left
        · (intro w' hSw; (try dsimp only at hSw); go_simp; try with_reducible rfl)
        try simp only [List.getElem_toArray, List.getElem_cons_succ, List.getElem_cons_zero, Act.put, List.setIfInBounds_toArray, List.set_cons_succ, List.set_cons_zero]
        refine wpAnyH_ready (rs := [3]) (by kernel_rfl) (by simp) ?_
        refine AllReadyH.cons (o := _) rfl (fun K hK => ?_) AllReadyH.nil
        go_simp
        refine (rrLow_any x _).mono ?_
        rintro e wc3 ⟨rfl, hbc3⟩
        try dsimp only
        refine hK.out _ _ ?_ (fun hHeld => ?_)
        · (try dsimp only); go_split_ands; exact ⟨MaxOk.below (by assumption) hbc3, below_keep hbc3 (by assumption), below_keep hbc3 (by assumption), below_keep hbc3 (by assumption), below_keep hbc3 (by assumption), below_keep hbc3 (by assumption), below_keep hbc3 (by assumption), below_keep hbc3 (by assumption), below_keep hbc3 (by assumption), below_keep hbc3 (by assumption), below_keep hbc3 (by assumption), below_keep hbc3 (by assumption)⟩
        clear hK K
        try simp only [List.getElem_toArray, List.getElem_cons_succ, List.getElem_cons_zero, Act.put, List.setIfInBounds_toArray, List.set_cons_succ, List.set_cons_zero]
        refine wpAnyH_ready (rs := [5]) (by kernel_rfl) (by simp) ?_
        refine AllReadyH.cons (o := _) rfl (fun K hK => ?_) AllReadyH.nil
        go_simp
        refine (HC1.out _ (by first | assumption | exact And.left (by assumption)) HSC.out (V.eLow_ok HBK.out) HA.out).mono ?_
        rintro e wc5 ⟨rfl, hbc5⟩
        try dsimp only
        refine hK.out _ _ ?_ (fun hHeld => ?_)
        · (try dsimp only); go_split_ands; exact ⟨MaxOk.below (by assumption) hbc5, below_keep hbc5 (by assumption), below_keep hbc5 (by assumption), below_keep hbc5 (by assumption), below_keep hbc5 (by assumption), below_keep hbc5 (by assumption), below_keep hbc5 (by assumption), below_keep hbc5 (by assumption), below_keep hbc5 (by assumption), below_keep hbc5 (by assumption), below_keep hbc5 (by assumption), below_keep hbc5 (by assumption)⟩
        clear hK K
        try simp only [List.getElem_toArray, List.getElem_cons_succ, List.getElem_cons_zero, Act.put, List.setIfInBounds_toArray, List.set_cons_succ, List.set_cons_zero]
        refine wpAnyH_take (i := 6) (v := ?_) rfl (by kernel_rfl) (by kernel_rfl) (by kernel_rfl) (fun _ _ _ h => h) (Or.inl ⟨by rfl, ?_⟩) (by assumption) ?_
        rotate_left
        · (intro w' hSw; (try dsimp only at hSw); go_simp; try with_reducible rfl)
        try simp only [List.getElem_toArray, List.getElem_cons_succ, List.getElem_cons_zero, Act.put, List.setIfInBounds_toArray, List.set_cons_succ, List.set_cons_zero]
        refine wpAnyH_take (i := 7) (v := ?_) rfl (by kernel_rfl) (by kernel_rfl) (by kernel_rfl) (fun _ _ _ h => h) (Or.inl ⟨by rfl, ?_⟩) (by assumption) ?_
        rotate_left
        · (intro w' hSw; (try dsimp only at hSw); go_simp; try with_reducible rfl)
        try simp only [List.getElem_toArray, List.getElem_cons_succ, List.getElem_cons_zero, Act.put, List.setIfInBounds_toArray, List.set_cons_succ, List.set_cons_zero]
        refine wpAnyH_take (i := 8) (v := ?_) rfl (by kernel_rfl) (by kernel_rfl) (by kernel_rfl) (fun _ _ _ h => h) (Or.inl ⟨by rfl, ?_⟩) (by assumption) ?_
        rotate_left
        · (intro w' hSw; (try dsimp only at hSw); go_simp; try with_reducible rfl)
        try simp only [List.getElem_toArray, List.getElem_cons_succ, List.getElem_cons_zero, Act.put, List.setIfInBounds_toArray, List.set_cons_succ, List.set_cons_zero]
        refine wpAnyH_take (i := 9) (v := ?_) rfl (by kernel_rfl) (by kernel_rfl) (by kernel_rfl) (fun _ _ _ h => h) (Or.inl ⟨by rfl, ?_⟩) (by assumption) ?_
        rotate_left
        · (intro w' hSw; (try dsimp only at hSw); go_simp; try with_reducible rfl)
        try simp only [List.getElem_toArray, List.getElem_cons_succ, List.getElem_cons_zero, Act.put, List.setIfInBounds_toArray, List.set_cons_succ, List.set_cons_zero]
        refine wpAnyH_take (i := 10) (v := ?_) rfl (by kernel_rfl) (by kernel_rfl) (by kernel_rfl) (fun _ _ _ h => h) (Or.inl ⟨by rfl, ?_⟩) (by assumption) ?_
        rotate_left
        · (intro w' hSw; (try dsimp only at hSw); go_simp; try with_reducible rfl)
        try simp only [List.getElem_toArray, List.getElem_cons_succ, List.getElem_cons_zero, Act.put, List.setIfInBounds_toArray, List.set_cons_succ, List.set_cons_zero]
        refine wpAnyH_take (i := 11) (v := ?_) rfl (by kernel_rfl) (by kernel_rfl) (by kernel_rfl) (fun _ _ _ h => h) (Or.inl ⟨by rfl, ?_⟩) (by assumption) ?_
        rotate_left
        · (intro w' hSw; (try dsimp only at hSw); go_simp; try with_reducible rfl)
        try simp only [List.getElem_toArray, List.getElem_cons_succ, List.getElem_cons_zero, Act.put, List.setIfInBounds_toArray, List.set_cons_succ, List.set_cons_zero]
        refine wpAnyH_ready (rs := [12]) (by kernel_rfl) (by simp) ?_
        refine AllReadyH.cons (o := _) rfl (fun K hK => ?_) AllReadyH.nil
        go_simp
        refine (rrHigh_any x _).mono ?_
        rintro e wc12 ⟨rfl, hbc12⟩
        try dsimp only
        refine hK.out _ _ ?_ (fun hHeld => ?_)
        · (try dsimp only); go_split_ands; exact ⟨MaxOk.below (by assumption) hbc12, below_keep hbc12 (by assumption), below_keep hbc12 (by assumption), below_keep hbc12 (by assumption), below_keep hbc12 (by assumption), below_keep hbc12 (by assumption), below_keep hbc12 (by assumption), below_keep hbc12 (by assumption), below_keep hbc12 (by assumption), below_keep hbc12 (by assumption), below_keep hbc12 (by assumption), below_keep hbc12 (by assumption)⟩
        clear hK K
        try simp only [List.getElem_toArray, List.getElem_cons_succ, List.getElem_cons_zero, Act.put, List.setIfInBounds_toArray, List.set_cons_succ, List.set_cons_zero]
        refine wpAnyH_ready (rs := [13]) (by kernel_rfl) (by simp) ?_
        refine AllReadyH.cons (o := _) rfl (fun K hK => ?_) AllReadyH.nil
        go_simp
        refine (HC2.out _ (by first | assumption | exact And.left (by assumption)) HSC.out HBE.out (V.eHigh_ok HBK.out)).mono ?_
        rintro e wc13 ⟨rfl, hbc13⟩
        try dsimp only
        refine hK.out _ _ ?_ (fun hHeld => ?_)
        · (try dsimp only); go_split_ands; exact ⟨MaxOk.below (by assumption) hbc13, below_keep hbc13 (by assumption), below_keep hbc13 (by assumption), below_keep hbc13 (by assumption), below_keep hbc13 (by assumption), below_keep hbc13 (by assumption), below_keep hbc13 (by assumption), below_keep hbc13 (by assumption), below_keep hbc13 (by assumption), below_keep hbc13 (by assumption), below_keep hbc13 (by assumption), below_keep hbc13 (by assumption)⟩
        clear hK K
        try simp only [List.getElem_toArray, List.getElem_cons_succ, List.getElem_cons_zero, Act.put, List.setIfInBounds_toArray, List.set_cons_succ, List.set_cons_zero]
        refine wpAnyH_take (i := 14) (v := ?_) rfl (by kernel_rfl) (by kernel_rfl) (by kernel_rfl) (fun _ _ _ h => h) (Or.inl ⟨by rfl, ?_⟩) (by assumption) ?_
        rotate_left
        · (intro w' hSw; (try dsimp only at hSw); go_simp; try with_reducible rfl)
        try simp only [List.getElem_toArray, List.getElem_cons_succ, List.getElem_cons_zero, Act.put, List.setIfInBounds_toArray, List.set_cons_succ, List.set_cons_zero]
        refine wpAnyH_take (i := 15) (v := ?_) rfl (by kernel_rfl) (by kernel_rfl) (by kernel_rfl) (fun _ _ _ h => h) (Or.inl ⟨by rfl, ?_⟩) (by assumption) ?_
        rotate_left
        · (intro w' hSw; (try dsimp only at hSw); go_simp; try with_reducible rfl)
        try simp only [List.getElem_toArray, List.getElem_cons_succ, List.getElem_cons_zero, Act.put, List.setIfInBounds_toArray, List.set_cons_succ, List.set_cons_zero]
        refine wpAnyH_done (by kernel_rfl) ?_ _
        have hbz1 : Below W1.heap.size W1 wc5 := ((Below.refl W1.heap.size W1).drew.trans (show Below W1.heap.size W1.drew wc3 from hbc3)).trans (hbc5.mono (show W1.heap.size ≤ wc3.heap.size from hbc3.size))
        have hbz2 : Below wc5.heap.size wc5 wc13 := hbc12.trans (hbc13.mono hbc12.size)
        have HBZ := Lib.hid (HBA.out.trans ((hbz1.trans (hbz2.mono hbz1.size)).mono HBA.out.size))
        clear hbc3 hbc5 hbc12 hbc13 hHeld hbz1 hbz2
        by_cases hz3 : z2 ≤ 0
        · have HR : Hid (V.coversB n l a b = true) := Lib.hid (by rw [HF.out]; exact HNO.out (by rw [HPX2.out]; exact decide_eq_true hz3))
          go_wp2
          go_ret
          exact ⟨ret_bool HR.out.symm, HB0.out.trans (HBZ.out.mono HB0.out.size)⟩
        · have HY := Lib.hid (HYES.out (by rw [HPX2.out]; exact decide_eq_false hz3))
          go_wp2
          go_roundw
          case rel => exact ⟨k + 1, by omega, by go_num, HY.out, HBZ.out⟩
          case measure => simp [intOf]; omega
      · have hd : decide (z ≤ 0) = false := decide_eq_false hz0
        have HY := Lib.hid (HYES.out (by rw [HPX.out, hd]; rfl))
        clear hz0
        refine wp_region_held_drew (S := (fun W' => MaxOk W' ∧ W'.cell? ⟨w.heap.size, 0, none⟩ = some (.int .i64 n) ∧ W'.cell? ⟨wr.heap.size, 0, none⟩ = some (.string ⟨x.lo.toArray⟩) ∧ W'.cell? ⟨wr.heap.size, 1, none⟩ = some (.int .i64 x.lk) ∧ W'.cell? ⟨wr.heap.size, 2, none⟩ = some (.string ⟨x.hi.toArray⟩) ∧ W'.cell? ⟨wr.heap.size, 3, none⟩ = some (.int .i64 x.hk) ∧ W'.cell? ⟨w.heap.size + 1, 0, none⟩ = some (.int .i64 a.e) ∧ W'.cell? ⟨w.heap.size + 1, 1, none⟩ = some (.string ⟨a.v.toArray⟩) ∧ W'.cell? ⟨w.heap.size + 1, 2, none⟩ = some (.int .i64 a.s) ∧ W'.cell? ⟨w.heap.size + 1 + 1, 0, none⟩ = some (.int .i64 b.e) ∧ W'.cell? ⟨w.heap.size + 1 + 1, 1, none⟩ = some (.string ⟨b.v.toArray⟩) ∧ W'.cell? ⟨w.heap.size + 1 + 1, 2, none⟩ = some (.int .i64 b.s))) (by kernel_rfl) (by (try dsimp only); (try simp only [World.cell?_drew]); exact ⟨HM1.out.below (Below.refl _ _).drew, e0, f0, f1, f2, f3, a0, a1, a2, b0, b1, b2⟩) (fun hHeld => ?_)
        refine wpAnyH_take (i := 0) (v := ?_) rfl (by kernel_rfl) (by kernel_rfl) (by kernel_rfl) (fun _ _ _ h => h) (Or.inl ⟨by rfl, ?_⟩) (by assumption) ?_
        rotate_left
        · (intro w' hSw; (try dsimp only at hSw); go_simp; try with_reducible rfl)
        try simp only [List.getElem_toArray, List.getElem_cons_zero, Act.put, List.setIfInBounds_toArray, List.set_cons_succ, List.set_cons_zero]
        refine wpAnyH_take (i := 1) (v := ?_) rfl (by kernel_rfl) (by kernel_rfl) (by kernel_rfl) (fun _ _ _ h => h) (Or.inl ⟨by rfl, ?_⟩) (by assumption) ?_
        rotate_left
        · (intro w' hSw; (try dsimp only at hSw); go_simp; try with_reducible rfl)
        try simp only [List.getElem_toArray, List.getElem_cons_succ, List.getElem_cons_zero, Act.put, List.setIfInBounds_toArray, List.set_cons_succ, List.set_cons_zero]
        refine wpAnyH_take (i := 2) (v := ?_) rfl (by kernel_rfl) (by kernel_rfl) (by kernel_rfl) (fun _ _ _ h => h) (Or.inl ⟨by rfl, ?_⟩) (by assumption) ?_
        rotate_left
        · (intro w' hSw; (try dsimp only at hSw); go_simp; try with_reducible rfl)
        try simp only [List.getElem_toArray, List.getElem_cons_succ, List.getElem_cons_zero, Act.put, List.setIfInBounds_toArray, List.set_cons_succ, List.set_cons_zero]
        refine wpAnyH_take (i := 4) (v := ?_) rfl (by kernel_rfl) (by kernel_rfl) (by kernel_rfl) (fun _ _ _ h => h) (Or.inl ⟨by rfl, ?_⟩) (by assumption) ?_
        rotate_left
        · (intro w' hSw; (try dsimp only at hSw); go_simp; try with_reducible rfl)
        try simp only [List.getElem_toArray, List.getElem_cons_succ, List.getElem_cons_zero, Act.put, List.setIfInBounds_toArray, List.set_cons_succ, List.set_cons_zero]
        refine wpAnyH_ready (rs := [3]) (by kernel_rfl) (by simp) ?_
        refine AllReadyH.cons (o := _) rfl (fun K hK => ?_) AllReadyH.nil
        go_simp
        refine (rrLow_any x _).mono ?_
        rintro e wc3 ⟨rfl, hbc3⟩
        try dsimp only
        refine hK.out _ _ ?_ (fun hHeld => ?_)
        · (try dsimp only); go_split_ands; exact ⟨MaxOk.below (by assumption) hbc3, below_keep hbc3 (by assumption), below_keep hbc3 (by assumption), below_keep hbc3 (by assumption), below_keep hbc3 (by assumption), below_keep hbc3 (by assumption), below_keep hbc3 (by assumption), below_keep hbc3 (by assumption), below_keep hbc3 (by assumption), below_keep hbc3 (by assumption), below_keep hbc3 (by assumption), below_keep hbc3 (by assumption)⟩
        clear hK K
        try simp only [List.getElem_toArray, List.getElem_cons_succ, List.getElem_cons_zero, Act.put, List.setIfInBounds_toArray, List.set_cons_succ, List.set_cons_zero]
        refine wpAnyH_ready (rs := [5]) (by kernel_rfl) (by simp) ?_
        refine AllReadyH.cons (o := _) rfl (fun K hK => ?_) AllReadyH.nil
        go_simp
        refine (HC1.out _ (by first | assumption | exact And.left (by assumption)) HSC.out (V.eLow_ok HBK.out) HA.out).mono ?_
        rintro e wc5 ⟨rfl, hbc5⟩
        try dsimp only
        refine hK.out _ _ ?_ (fun hHeld => ?_)
        · (try dsimp only); go_split_ands; exact ⟨MaxOk.below (by assumption) hbc5, below_keep hbc5 (by assumption), below_keep hbc5 (by assumption), below_keep hbc5 (by assumption), below_keep hbc5 (by assumption), below_keep hbc5 (by assumption), below_keep hbc5 (by assumption), below_keep hbc5 (by assumption), below_keep hbc5 (by assumption), below_keep hbc5 (by assumption), below_keep hbc5 (by assumption), below_keep hbc5 (by assumption)⟩
        clear hK K
        try simp only [List.getElem_toArray, List.getElem_cons_succ, List.getElem_cons_zero, Act.put, List.setIfInBounds_toArray, List.set_cons_succ, List.set_cons_zero]
        refine wpAnyH_take (i := 6) (v := ?_) rfl (by kernel_rfl) (by kernel_rfl) (by kernel_rfl) (fun _ _ _ h => h) (Or.inl ⟨by rfl, ?_⟩) (by assumption) ?_
        rotate_left
        · (intro w' hSw; (try dsimp only at hSw); go_simp; try with_reducible rfl)
        try simp only [List.getElem_toArray, List.getElem_cons_succ, List.getElem_cons_zero, Act.put, List.setIfInBounds_toArray, List.set_cons_succ, List.set_cons_zero]
        refine wpAnyH_take (i := 7) (v := ?_) rfl (by kernel_rfl) (by kernel_rfl) (by kernel_rfl) (fun _ _ _ h => h) (Or.inl ⟨by rfl, ?_⟩) (by assumption) ?_
        rotate_left
        · (intro w' hSw; (try dsimp only at hSw); go_simp; try with_reducible rfl)
        try simp only [List.getElem_toArray, List.getElem_cons_succ, List.getElem_cons_zero, Act.put, List.setIfInBounds_toArray, List.set_cons_succ, List.set_cons_zero]
        refine wpAnyH_take (i := 8) (v := undef) rfl (by kernel_rfl) (by kernel_rfl) (by kernel_rfl) (fun _ _ _ h => h) (Or.inr ⟨by rfl, rfl⟩) (by assumption) ?_
        try simp only [List.getElem_toArray, List.getElem_cons_succ, List.getElem_cons_zero, Act.put, List.setIfInBounds_toArray, List.set_cons_succ, List.set_cons_zero]
        refine wpAnyH_take (i := 9) (v := undef) rfl (by kernel_rfl) (by kernel_rfl) (by kernel_rfl) (fun _ _ _ h => h) (Or.inr ⟨by rfl, rfl⟩) (by assumption) ?_
        try simp only [List.getElem_toArray, List.getElem_cons_succ, List.getElem_cons_zero, Act.put, List.setIfInBounds_toArray, List.set_cons_succ, List.set_cons_zero]
        refine wpAnyH_take (i := 10) (v := undef) rfl (by kernel_rfl) (by kernel_rfl) (by kernel_rfl) (fun _ _ _ h => h) (Or.inr ⟨by rfl, rfl⟩) (by assumption) ?_
        try simp only [List.getElem_toArray, List.getElem_cons_succ, List.getElem_cons_zero, Act.put, List.setIfInBounds_toArray, List.set_cons_succ, List.set_cons_zero]
        refine wpAnyH_take (i := 11) (v := undef) rfl (by kernel_rfl) (by kernel_rfl) (by kernel_rfl) (fun _ _ _ h => h) (Or.inr ⟨by rfl, rfl⟩) (by assumption) ?_
        try simp only [List.getElem_toArray, List.getElem_cons_succ, List.getElem_cons_zero, Act.put, List.setIfInBounds_toArray, List.set_cons_succ, List.set_cons_zero]
        refine wpAnyH_take (i := 12) (v := undef) rfl (by kernel_rfl) (by kernel_rfl) (by kernel_rfl) (fun _ _ _ h => h) (Or.inr ⟨by rfl, rfl⟩) (by assumption) ?_
        try simp only [List.getElem_toArray, List.getElem_cons_succ, List.getElem_cons_zero, Act.put, List.setIfInBounds_toArray, List.set_cons_succ, List.set_cons_zero]
        refine wpAnyH_take (i := 13) (v := undef) rfl (by kernel_rfl) (by kernel_rfl) (by kernel_rfl) (fun _ _ _ h => h) (Or.inr ⟨by rfl, rfl⟩) (by assumption) ?_
        try simp only [List.getElem_toArray, List.getElem_cons_succ, List.getElem_cons_zero, Act.put, List.setIfInBounds_toArray, List.set_cons_succ, List.set_cons_zero]
        refine wpAnyH_take (i := 14) (v := undef) rfl (by kernel_rfl) (by kernel_rfl) (by kernel_rfl) (fun _ _ _ h => h) (Or.inr ⟨by rfl, rfl⟩) (by assumption) ?_
        try simp only [List.getElem_toArray, List.getElem_cons_succ, List.getElem_cons_zero, Act.put, List.setIfInBounds_toArray, List.set_cons_succ, List.set_cons_zero]
        refine wpAnyH_take (i := 15) (v := ?_) rfl (by kernel_rfl) (by kernel_rfl) (by kernel_rfl) (fun _ _ _ h => h) (Or.inl ⟨by rfl, ?_⟩) (by assumption) ?_
        rotate_left
        · (intro w' hSw; (try dsimp only at hSw); go_simp; try with_reducible rfl)
        try simp only [List.getElem_toArray, List.getElem_cons_succ, List.getElem_cons_zero, Act.put, List.setIfInBounds_toArray, List.set_cons_succ, List.set_cons_zero]
        refine wpAnyH_done (by kernel_rfl) ?_ _
        have hbz1 : Below W1.heap.size W1 wc5 := ((Below.refl W1.heap.size W1).drew.trans (show Below W1.heap.size W1.drew wc3 from hbc3)).trans (hbc5.mono (show W1.heap.size ≤ wc3.heap.size from hbc3.size))
        have HBZ := Lib.hid (HBA.out.trans (hbz1.mono HBA.out.size))
        clear hbc3 hbc5 hHeld hbz1
        go_wp2
        go_roundw
        case rel => exact ⟨k + 1, by omega, by go_num, HY.out, HBZ.out⟩
        case measure => simp [intOf]; omega
    · obtain rfl : k = l.length := by omega
      have HR : Hid (V.coversB n l a b = false) := Lib.hid (by rw [HF.out]; have := HZ.out; rwa [List.take_length] at this)
      go_wp2
      go_ret
      exact ⟨ret_bool HR.out.symm, HBF.out⟩
end Go.Proofs.YtpjjkbdkgaehkaaGreatDoor
namespace Go.Proofs.YtpjjkbdkgaehkaaGreatDoor
open Go.RowKit

/-- the value of an operation for one piece -/
def holdF (o : Int) (a b : Bool) : Bool := if o = 0 then !a else if o = 1 then a || b else if o = 2 then a && b else a && !b
theorem rrHolds_any (o : Int) (a b : Bool) (w : World) : Calls Tryz.prog 132 #[.int .i64 o, .bool a, .bool b] w fun e w' => e = .returned (.bool (holdF o a b)) ∧ Below w.heap.size w w' := by
  have HF : Hid (∀ a b, holdF o a b = if o = 0 then !a else if o = 1 then a || b else if o = 2 then a && b else a && !b) := Lib.hid (fun _ _ => rfl)
  by_cases h0 : o = 0
  · subst h0
    rcases a with _ | _ <;> rcases b with _ | _
    all_goals
      go_enter Tryz.func132, Tryz.ntmps132
      go_wp2
      go_ret
      exact ⟨rfl, Below.refl _ _⟩
  · by_cases h1 : o = 1
    · subst h1
      rcases a with _ | _ <;> rcases b with _ | _
      all_goals
        go_enter Tryz.func132, Tryz.ntmps132
        go_wp2
        go_ret
        exact ⟨rfl, Below.refl _ _⟩
    · by_cases h2 : o = 2
      · subst h2
        rcases a with _ | _ <;> rcases b with _ | _
        all_goals
          go_enter Tryz.func132, Tryz.ntmps132
          go_wp2
          go_ret
          exact ⟨rfl, Below.refl _ _⟩
      · have b0 : (o == 0) = false := by simpa using h0
        have b1 : (o == 1) = false := by simpa using h1
        have b2 : (o == 2) = false := by simpa using h2
        have HG : Hid (∀ a b, holdF o a b = (a && !b)) := Lib.hid (fun a b => by rw [HF.out, if_neg h0, if_neg h1, if_neg h2])
        clear h0 h1 h2 HF
        rcases a with _ | _ <;> rcases b with _ | _
        all_goals
          go_enter Tryz.func132, Tryz.ntmps132
          go_wp2
          go_ret
          exact ⟨ret_bool (by rw [HG.out]; rfl), Below.refl _ _⟩

theorem below_of4 (w : World) (a b c d : Obj) : Below w.heap.size w ((((w.alloc a).alloc b).alloc c).alloc d) := ((((Below.refl _ _).alloc (Nat.le_refl _) _).alloc (by simp) _).alloc (by simp; omega) _).alloc (by simp; omega) _
/-- the cells of an interval between two cuts -/
theorem btw_cells (a b : V.Ec) : itvV (V.btw a b) = .agg #[.string ⟨(if a.e = 0 then a.v else []).toArray⟩, .int .i64 (if a.e = 0 then 1 + a.s else 0), .string ⟨(if b.e = 0 then b.v else []).toArray⟩, .int .i64 (if b.e = 0 then 2 - b.s else 0)] := rfl
set_option maxRecDepth 100000 in
set_option maxHeartbeats 3200000 in
theorem rrBetween_any (a b : V.Ec) (w : World) (ha : 0 ≤ a.s ∧ a.s ≤ 1) (hb : 0 ≤ b.s ∧ b.s ≤ 1) :
    Calls Tryz.prog 134 #[ecV a, ecV b] w fun e w' => e = .returned (itvV (V.btw a b)) ∧ Below w.heap.size w w' := by
  rw [btw_cells]
  obtain ⟨ae, av, asd⟩ := a
  obtain ⟨be, bv, bs⟩ := b
  obtain ⟨ha1, ha2⟩ := ha
  obtain ⟨hb1, hb2⟩ := hb
  simp only at ha1 ha2 hb1 hb2 ⊢
  have hwa : IntKind.i64.wrap (1 + asd) = 1 + asd := by rw [IntKind.wrap_i64]; omega
  have hwb : IntKind.i64.wrap (2 - bs) = 2 - bs := by rw [IntKind.wrap_i64]; omega
  unfold ecV
  by_cases h1 : ae = 0
  · by_cases h2 : be = 0
    · subst h1 h2
      rw [if_pos rfl, if_pos rfl, if_pos rfl, if_pos rfl]
      go_enter Tryz.func134, Tryz.ntmps134
      go_wp2
      go_region
      all_goals rename_i hK
      all_goals refine hK _ _ ?_
      all_goals clear hK
      go_wp2
      go_region
      all_goals rename_i hK
      all_goals refine hK _ _ ?_
      all_goals clear hK
      go_wp2
      all_goals exact bodyPost_ret (v := .agg #[_, _, _, _]) (by simp [results, Tryz.results134, go_sem]) rfl ⟨rfl, (below_of4 _ _ _ _ _).drew.drew⟩
    · have b0 : (be == 0) = false := by simpa using h2
      subst h1
      rw [if_pos rfl, if_pos rfl, if_neg h2, if_neg h2]
      clear h2
      go_enter Tryz.func134, Tryz.ntmps134
      go_wp2
      go_region
      all_goals rename_i hK
      all_goals refine hK _ _ ?_
      all_goals clear hK
      go_wp2
      all_goals exact bodyPost_ret (v := .agg #[_, _, _, _]) (by simp [results, Tryz.results134, go_sem]) rfl ⟨rfl, (below_of4 _ _ _ _ _).drew⟩
  · have a0 : (ae == 0) = false := by simpa using h1
    rw [if_neg h1, if_neg h1]
    clear h1
    by_cases h2 : be = 0
    · subst h2
      rw [if_pos rfl, if_pos rfl]
      go_enter Tryz.func134, Tryz.ntmps134
      go_wp2
      go_region
      all_goals rename_i hK
      all_goals refine hK _ _ ?_
      all_goals clear hK
      go_wp2
      all_goals exact bodyPost_ret (v := .agg #[_, _, _, _]) (by simp [results, Tryz.results134, go_sem]) rfl ⟨rfl, (below_of4 _ _ _ _ _).drew⟩
    · have b0 : (be == 0) = false := by simpa using h2
      rw [if_neg h2, if_neg h2]
      clear h2
      go_enter Tryz.func134, Tryz.ntmps134
      go_wp2
      exact bodyPost_ret (v := .agg #[_, _, _, _]) (by simp [results, Tryz.results134, go_sem]) rfl ⟨rfl, below_of4 _ _ _ _ _⟩
end Go.Proofs.YtpjjkbdkgaehkaaGreatDoor
