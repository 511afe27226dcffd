/-
  Walks: the library's merge and insertion sort, with the exact order that they leave.
  Walks: the library's stable sort of fewer than 40 elements, with the exact order that it leaves.
-/
import Derived.Test.YtabeblbhbekjaaaGreatDoorI9
namespace Go.Proofs.YtabeblbhbekjaaaGreatDoor
open Go.RowKit

theorem symMerge_any (n : Int) (T : TypeId) (LL : Nat → V.Bs) (b mm cap : Nat) (w0 : World) (hn : V.scheme n = true) (hv : ∀ i, V.valid n (LL i) = true) (hm : mm ≤ 1000) (hT : Cmp n T) : ∀ N : Nat, symSpec n T LL b mm cap w0 N := by
  obtain ⟨K, hmeth, henter, hK⟩ := hT
  intro N
  induction N with
  | zero => intro a c d f w h0 h1 h2; omega
  | succ N ih =>
    intro a c d f w hN hac hcd hdm hat asc1 asc2 tags
    by_cases hL : c = a + 1
    · refine symMergeL_any n T K LL b mm cap a c d f w w0 hL hn hv hm hat (by omega) hdm ?_ ?_ hmeth henter hK
      · rw [← hL]; exact asc2
      · rw [← hL]; exact tags
    · by_cases hR : d = c + 1
      · refine symMergeR_any n T K LL b mm cap a c d f w w0 hR hn hv hm hat (by omega) hdm asc1 ?_ hmeth henter hK
        rw [← hR]; exact tags
      · by_cases hmc : (a + d) / 2 < c
        · exact symMergeG1_any n T K LL b mm cap w0 hn hv hm hmeth henter hK N ih a c d f w hN (by omega) (by omega) hdm hat asc1 asc2 tags ((a + d) / 2) ((a + d) / 2 + c) ((a + d) / 2 + c - 1) ((a + d) / 2 + c - d) ((a + d) / 2) (by omega) (by omega) (by omega) (by omega) (by omega) (by omega) hmc (Lib.hid ⟨rfl, rfl⟩)
        · exact symMergeG2_any n T K LL b mm cap w0 hn hv hm hmeth henter hK N ih a c d f w hN (by omega) (by omega) hdm hat asc1 asc2 tags ((a + d) / 2) ((a + d) / 2 + c) ((a + d) / 2 + c - 1) a c (by omega) (by omega) (by omega) (by omega) (by omega) (by omega) hmc (Lib.hid ⟨rfl, rfl⟩)

/-- one element more, moved to its place -/
theorem merged_insert {R : Nat → Nat → Prop} {f g : V.Ix} {a j k : Nat} (tr : ∀ x y z, R x y → R y z → R x z) (h : V.Merged R f g a k) (h1 : a ≤ j) (h2 : j ≤ k) (hi : ∀ x, j ≤ x → x < k → R (g k) (g x)) (lo : a < j → R (g (j - 1)) (g k)) : V.Merged R f (V.rot g j k (k + 1)) a (k + 1) := by
  have hlo : ∀ x ∈ V.seg g a j, R x (g k) := by
    intro x hx
    obtain ⟨p, p1, p2, _⟩ := V.mem_seg.1 hx
    have hs := h.asc
    rw [V.seg_append g h1 h2, List.pairwise_append] at hs
    rcases V.asc_last hs.1 (by omega) x hx with rfl | g1
    · exact lo (by omega)
    · exact tr _ _ _ g1 (lo (by omega))
  have hm : V.Merged R g (V.rot g j k (k + 1)) a (k + 1) := merged_rot h1 h2 (by omega) (Nat.le_refl _) (by
    have h0 : V.seg g (k + 1) (k + 1) = [] := seg_nil g (Nat.le_refl _)
    rw [h0, List.append_nil, seg_one]
    have hs := h.asc
    rw [V.seg_append g h1 h2, List.pairwise_append] at hs
    rw [List.pairwise_append]
    refine ⟨hs.1, List.pairwise_cons.2 ⟨fun y hy => ?_, hs.2.1⟩, fun x hx y hy => ?_⟩
    · obtain ⟨z, z1, z2, rfl⟩ := V.mem_seg.1 hy
      exact hi z z1 z2
    · rcases List.mem_cons.1 hy with e | e
      · subst e; exact hlo x hx
      · exact hs.2.2 x hx y e)
  refine ⟨fun p hp => ?_, ?_, hm.asc⟩
  · rw [hm.out p hp, h.out p (by omega)]
  · refine hm.perm.trans ?_
    rw [V.seg_append g (show a ≤ k by omega) (show k ≤ k + 1 by omega), V.seg_append f (show a ≤ k by omega) (show k ≤ k + 1 by omega), seg_one, seg_one, h.out k (.inr (Nat.le_refl _))]
    exact List.Perm.append_right _ h.perm

set_option maxRecDepth 100000 in
set_option maxHeartbeats 6400000 in
theorem insertionX_any (n : Int) (T : TypeId) (LL : Nat → V.Bs) (b mm cap a d : Nat) (f : V.Ix) (w w0 : World) (hn : V.scheme n = true) (hv : ∀ i, V.valid n (LL i) = true) (hm : mm ≤ 1000) (hT : Cmp n T) (had : a ≤ d) (hdm : d ≤ mm) (hat : At LL b mm w0 f w)
    (hinc : ∀ x y, a ≤ x → x < y → y < d → f x < f y) :
    Calls Tryz.prog 49 #[.slice (some ⟨b, 0, none⟩) mm cap, .int .i64 a, .int .i64 d, cmpVal T] w (SymPost (Bef n LL) LL b mm w0 f a d) := by
  obtain ⟨K, hmeth, henter, hK⟩ := hT
  have HAT := Lib.hid hat
  have HV := Lib.hid hv
  have HN := Lib.hid hn
  have HK := Lib.hid hK
  have TR := Lib.hid (Bef.trans hn hv)
  have HINC := Lib.hid hinc
  clear hat hv hn hK hinc
  unfold cmpVal
  go_enter Tryz.func49, Tryz.ntmps49
  go_wp2
  go_loopw [8] (fun i wr => ∃ (k : Nat) (g : V.Ix), a + 1 ≤ k ∧ k ≤ max d (a + 1) ∧ i = .int .i64 k ∧ V.Merged (Bef n LL) f g a (min k d) ∧ At LL b mm w0 g wr) (fun i _ => d - (intOf i).toNat)
  case atStart => exact ⟨a + 1, f, Nat.le_refl _, by omega, by go_num, merged_self (by
    rcases Nat.lt_or_ge a d with h | h
    · rw [Nat.min_eq_left (by omega), seg_one]; simp
    · rw [seg_nil f (by omega)]; simp), HAT.out⟩
  case round =>
    obtain ⟨k, g, hk1, hk2, rfl, hmg, hat⟩ := hrel
    have HMG := Lib.hid hmg
    have HA := Lib.hid hat
    clear hmg hat
    by_cases hkm : k < d
    · obtain ⟨wo, rfl⟩ : ∃ wo : World, wo = wr := ⟨_, rfl⟩
      have HM2 : Hid (V.Merged (Bef n LL) f g a k) := Lib.hid (by have := HMG.out; rwa [Nat.min_eq_left (by omega)] at this)
      have HLT : Hid (∀ x, a ≤ x → x < k → g x < g k) := Lib.hid (fun x h1 h2 => by
        have hx : g x ∈ V.seg f a k := (HM2.out.perm.mem_iff).1 (V.mem_seg.2 ⟨x, h1, h2, rfl⟩)
        obtain ⟨y, y1, y2, e⟩ := V.mem_seg.1 hx
        rw [← e, HM2.out.out k (.inr (Nat.le_refl _))]
        exact HINC.out y k y1 y2 hkm)
      go_wp2
      go_loopw [9] (fun i wr => ∃ j : Nat, a ≤ j ∧ j ≤ k ∧ i = .int .i64 j ∧ (∀ x, j ≤ x → x < k → Bef n LL (g k) (g x)) ∧ At LL b mm w0 (V.rot g j k (k + 1)) wr) (fun i _ => (intOf i).toNat)
      case atStart => exact ⟨k, by omega, Nat.le_refl _, rfl, fun x h1 h2 => by omega, by rw [rotR_start]; exact HA.out⟩
      case round =>
        obtain ⟨j, hj1, hj2, rfl, hhi, hat⟩ := hrel
        have HHI := Lib.hid hhi
        have HA5 := Lib.hid hat
        clear hhi hat
        by_cases hj0 : a < j
        · have r0 : V.rot g j k (k + 1) j = g k := by
            unfold V.rot; rw [if_pos ⟨Nat.le_refl _, by omega⟩, if_pos (by omega)]; congr 1; omega
          have r1 : V.rot g j k (k + 1) (j - 1) = g (j - 1) := V.rot_out g (.inl (by omega))
          have d0 := HA5.out.row.cell j (by omega)
          have d2 := HA5.out.row.cell (j - 1) (by omega)
          rw [r0] at d0
          rw [r1] at d2
          have hat2 := HLT.out (j - 1) (by omega) (by omega)
          have hcmp : V.cmpV n (LL (g k)) (LL (g (j - 1))) < 0 ↔ Bef n LL (g k) (g (j - 1)) := Bef.right hat2
          have hleft : ¬ V.cmpV n (LL (g k)) (LL (g (j - 1))) < 0 → Bef n LL (g (j - 1)) (g k) := Bef.left HN.out HV.out hat2
          have HV0 := Lib.hid (HV.out (g k))
          have HV1 := Lib.hid (HV.out (g (j - 1)))
          obtain ⟨c, hc⟩ : ∃ c, V.cmpV n (LL (g k)) (LL (g (j - 1))) = c := ⟨_, rfl⟩
          have HC := Lib.hid hc
          rw [hc] at hcmp hleft
          have HYES : Hid (c < 0 → ∀ x, j - 1 ≤ x → x < k → Bef n LL (g k) (g x)) := Lib.hid (fun q x h1 h2 => by
            by_cases e : x = j - 1
            · subst e; exact hcmp.1 q
            · exact HHI.out x (by omega) h2)
          have HNO : Hid (¬ c < 0 → V.Merged (Bef n LL) f (V.rot g j k (k + 1)) a (k + 1)) := Lib.hid (fun q => merged_insert TR.out HM2.out hj1 hj2 HHI.out (fun _ => hleft q))
          have HR0 := Lib.hid r0
          have HR1 := Lib.hid r1
          have hw1 : IntKind.i64.wrap ((j : Int) - 1) = (j : Int) - 1 := IntWalk.i64_in _ (by omega)
          have hn1 : ((j : Int) - 1).toNat = j - 1 := by omega
          have hp1 : (0 : Int) ≤ (j : Int) - 1 := by omega
          have hp2 : (0 : Int) ≤ (j : Int) := by omega
          have hp3 : (j : Int) < (mm : Int) := by omega
          have hp4 : (j : Int) - 1 < (mm : Int) := by omega
          have hp5 : (1 : Int) ≤ (j : Int) := by omega
          have hp6 : j < mm := by omega
          have hp7 : (a : Int) < (j : Int) := by omega
          clear hat2 hcmp hleft hc r0 r1
          generalize hy0 : LL (g k) = y0 at *
          generalize hy1 : LL (g (j - 1)) = y1 at *
          have HY0 := Lib.hid hy0
          have HY1 := Lib.hid hy1
          clear hy0 hy1
          go_wp2
          go_still_tail 14, (by kernel_rfl)
          change wpList _ _ _ _ _ wr.drew
          have HA6 := Lib.hid (HA5.out.below (Below.refl _ wr).drew)
          clear d0 d2
          generalize wr.drew = W1 at *
          go_wp2_with fail
          refine (HK.out y0 y1 _ HV0.out HV1.out HA6.out.max).mono ?_
          rintro e W2 ⟨rfl, hb2⟩
          have HA7 := Lib.hid (HA6.out.below hb2)
          clear hb2
          rw [HC.out]
          by_cases hcn : c < 0
          · have d0 := HA7.out.row.cell j (by omega)
            have d2 := HA7.out.row.cell (j - 1) (by omega)
            have f0 := HA7.out.row.free j (by omega)
            have f1 := HA7.out.row.free (j - 1) (by omega)
            rw [HR0.out, HY0.out] at d0
            rw [HR1.out, HY1.out] at d2
            have HSW := Lib.hid ((HA7.out.below (Below.refl _ W2).drew).swap (p := j) (q := j - 1) (by omega) (by omega) (by omega))
            rw [HR0.out, HR1.out, HY0.out, HY1.out] at HSW
            go_wp2
            go_region
            clear d0 d2 f0 f1
            go_wp2
            go_roundw
            case rel => exact ⟨j - 1, by omega, by omega, by rw [← hn1, Int.toNat_of_nonneg hp1], HYES.out hcn, HSW.out.congr (fun i _ => by rw [rotR_next g (show 0 < j by omega) hj2, HR0.out, HR1.out])⟩
            case measure => simp [intOf]; omega
          · go_wp2
            go_roundw
            case rel => exact ⟨k + 1, V.rot g j k (k + 1), by omega, by omega, by go_num, by rw [Nat.min_eq_left (by omega)]; exact HNO.out hcn, HA7.out⟩
            case measure => simp [intOf]; omega
        · have hja : j = a := by omega
          have HMI : Hid (V.Merged (Bef n LL) f (V.rot g j k (k + 1)) a (k + 1)) := Lib.hid (merged_insert TR.out HM2.out hj1 hj2 HHI.out (fun h => by omega))
          have hp7 : ¬ (a : Int) < (j : Int) := by omega
          have hp8 : decide ((a : Int) < (j : Int)) = false := by simpa using hp7
          have hp9 : decide (a < j) = false := by simpa using hj0
          clear hja
          go_wp2
          go_quiet (fail)
          rename_i nq
          have HA6 := Lib.hid (HA5.out.below (below_drewN (Below.refl _ wr) nq))
          generalize wr.drewN nq = W3 at *
          go_wp2
          go_roundw
          case rel => exact ⟨k + 1, V.rot g j k (k + 1), by omega, by omega, by go_num, by rw [Nat.min_eq_left (by omega)]; exact HMI.out, HA6.out⟩
          case measure => simp [intOf]; omega
    · have HE : Hid (V.Merged (Bef n LL) f g a d) := Lib.hid (by have := HMG.out; rwa [Nat.min_eq_right (by omega)] at this)
      go_wp2
      go_end0
      exact ⟨rfl, g, HE.out, HA.out⟩
end Go.Proofs.YtabeblbhbekjaaaGreatDoor
namespace Go.Proofs.YtabeblbhbekjaaaGreatDoor
open Go.RowKit

/-- what a stable sort leaves -/
structure Stable (n : Int) (LL : Nat → V.Bs) (m : Nat) (h : V.Ix) : Prop where
  perm : (V.seg h 0 m).Perm (List.range m)
  asc : (V.seg h 0 m).Pairwise (Bef n LL)

theorem seg_id (m : Nat) : V.seg (fun p => p) 0 m = List.range m := by
  unfold V.seg
  rw [Nat.sub_zero]
  conv => rhs; rw [← List.map_id (List.range m)]
  apply List.map_congr_left
  intro i _
  simp

def StPost (n : Int) (LL : Nat → V.Bs) (b m : Nat) (w0 : World) (e : Ending) (w' : World) : Prop := e = .returned (.tuple #[]) ∧ ∃ h, Stable n LL m h ∧ At LL b m w0 h w'

theorem stable_two {n : Int} {LL : Nat → V.Bs} {m : Nat} {g1 g2 : V.Ix} (hm : 20 ≤ m) (h1 : V.Merged (Bef n LL) (fun p => p) g1 0 20) (h2 : V.Merged (Bef n LL) g1 g2 20 m) :
    (V.seg g2 0 20).Pairwise (Bef n LL) ∧ (V.seg g2 20 m).Pairwise (Bef n LL) ∧ (∀ x ∈ V.seg g2 0 20, ∀ y ∈ V.seg g2 20 m, x < y) ∧ (V.seg g2 0 m).Perm (List.range m) := by
  have e1 : V.seg g2 0 20 = V.seg g1 0 20 := V.seg_congr fun p _ q => h2.out p (.inl q)
  have e2 : V.seg g1 20 m = V.seg (fun p => p) 20 m := V.seg_congr fun p q _ => h1.out p (.inr q)
  have q2 := h2.perm
  rw [e2] at q2
  refine ⟨by rw [e1]; exact h1.asc, h2.asc, fun x hx y hy => ?_, ?_⟩
  · rw [e1] at hx
    obtain ⟨i, _, i2, ei⟩ := V.mem_seg.1 (h1.perm.mem_iff.1 hx)
    obtain ⟨j, j1, _, ej⟩ := V.mem_seg.1 (q2.mem_iff.1 hy)
    have e1' : i = x := ei
    have e2' : j = y := ej
    omega
  · rw [V.seg_append g2 (show 0 ≤ 20 by omega) hm, e1, ← seg_id, V.seg_append (fun p => p) (show 0 ≤ 20 by omega) hm]
    exact h1.perm.append q2

set_option maxRecDepth 100000 in
set_option maxHeartbeats 6400000 in
theorem stableX_any (n : Int) (T : TypeId) (LL : Nat → V.Bs) (b m cap : Nat) (w w0 : World) (hn : V.scheme n = true) (hv : ∀ i, V.valid n (LL i) = true) (h40 : m < 40) (hT : Cmp n T) (hat : At LL b m w0 (fun p => p) w) :
    Calls Tryz.prog 39 #[.slice (some ⟨b, 0, none⟩) m cap, .int .i64 m, cmpVal T] w (StPost n LL b m w0) := by
  have HAT := Lib.hid hat
  have HI := Lib.hid (fun (a d : Nat) f W h1 h2 h3 h4 => insertionX_any n T LL b m cap a d f W w0 hn hv (by omega) hT h1 h2 h3 h4)
  have HS := Lib.hid (symMerge_any n T LL b m cap w0 hn hv (by omega) hT m)
  clear hat hn hv hT
  unfold symSpec cmpVal at HS
  unfold cmpVal at HI
  unfold cmpVal
  by_cases h20 : m < 20
  · go_enter Tryz.func39, Tryz.ntmps39
    go_wp2
    go_loop [7, 8] (fun a b => a = .int .i64 ((0 : Nat) : Int) ∧ b = .int .i64 20) (fun _ _ => 0)
    case atStart => exact ⟨rfl, rfl⟩
    case round =>
      obtain ⟨rfl, rfl⟩ := hrel
      have hno : ¬ ((20 : Int) ≤ (m : Int)) := by omega
      go_wp2_with fail
      refine (HI.out 0 m (fun p => p) _ (Nat.zero_le _) (Nat.le_refl _) HAT.out (fun x y _ h _ => h)).mono ?_
      rintro e w1 ⟨rfl, g, hg, hat⟩
      have HG := Lib.hid hg
      have HA := Lib.hid hat
      clear hg hat
      go_wp2
      go_loop [6] (fun a => a = .int .i64 20) (fun _ => 0)
      case atStart => exact rfl
      case round =>
        subst hrel
        have hno2 : ¬ ((20 : Int) < (m : Int)) := by omega
        go_wp2
        go_end0
        exact ⟨rfl, g, ⟨by have := HG.out.perm; rwa [seg_id] at this, HG.out.asc⟩, HA.out⟩
  · go_enter Tryz.func39, Tryz.ntmps39
    go_wp2
    go_loopw [7, 8] (fun a b' wr => (a = .int .i64 ((0 : Nat) : Int) ∧ b' = .int .i64 ((20 : Nat) : Int) ∧ At LL b m w0 (fun p => p) wr) ∨ (a = .int .i64 ((20 : Nat) : Int) ∧ b' = .int .i64 ((40 : Nat) : Int) ∧ ∃ g1, V.Merged (Bef n LL) (fun p => p) g1 0 20 ∧ At LL b m w0 g1 wr)) (fun a _ _ => (20 - intOf a).toNat)
    case atStart => exact .inl ⟨rfl, rfl, HAT.out⟩
    case round =>
      rcases hrel with ⟨rfl, rfl, hat⟩ | ⟨rfl, rfl, g1, hg1, hat⟩
      · have HA := Lib.hid hat
        clear hat
        have hyes : (((20 : Nat) : Int) ≤ (m : Int)) := by omega
        have hyes' : ((20 : Int) ≤ (m : Int)) := by omega
        go_wp2_with fail
        refine (HI.out 0 20 (fun p => p) _ (by omega) (by omega) HA.out (fun x y _ h _ => h)).mono ?_
        rintro e w1 ⟨rfl, g, hg, hat⟩
        have HG := Lib.hid hg
        have HA2 := Lib.hid hat
        clear hg hat
        go_wp2
        go_roundw
        case rel => exact .inr ⟨rfl, rfl, g, HG.out, HA2.out⟩
        case measure => simp [intOf]
      · have HG1 := Lib.hid hg1
        have HA := Lib.hid hat
        clear hg1 hat
        have hno : ¬ (((40 : Nat) : Int) ≤ (m : Int)) := by omega
        have hno' : ¬ ((40 : Int) ≤ (m : Int)) := by omega
        go_wp2_with fail
        refine (HI.out 20 m g1 _ (by omega) (Nat.le_refl _) HA.out (fun x y h1 h _ => by rw [HG1.out.out x (.inr h1), HG1.out.out y (.inr (by omega))]; exact h)).mono ?_
        rintro e w1 ⟨rfl, g2, hg2, hat⟩
        have HG2 := Lib.hid hg2
        have HA2 := Lib.hid hat
        have HTW := Lib.hid (stable_two (by omega) HG1.out hg2)
        clear hg2 hat
        go_wp2
        go_loopw [6] (fun a wr => (a = .int .i64 20 ∧ At LL b m w0 g2 wr) ∨ (a = .int .i64 40 ∧ ∃ h, Stable n LL m h ∧ At LL b m w0 h wr)) (fun a _ => (40 - intOf a).toNat)
        case atStart => exact .inl ⟨rfl, HA2.out⟩
        case round =>
          rcases hrel with ⟨rfl, hat⟩ | ⟨rfl, h, hst, hat⟩
          · have HA3 := Lib.hid hat
            clear hat
            by_cases h21 : 20 < m
            · have hyes : (20 : Int) < (m : Int) := by omega
              obtain ⟨wo, rfl⟩ : ∃ wo : World, wo = wr := ⟨_, rfl⟩
              go_wp2
              go_loop [7, 8] (fun a b => a = .int .i64 ((0 : Nat) : Int) ∧ b = .int .i64 40) (fun _ _ => 0)
              case atStart => exact ⟨rfl, rfl⟩
              case round =>
                obtain ⟨rfl, rfl⟩ := hrel
                have hno2 : ¬ ((40 : Int) ≤ (m : Int)) := by omega
                go_wp2_with fail
                refine (HS.out 0 20 m g2 _ (by omega) (by omega) h21 (Nat.le_refl _) HA3.out HTW.out.1 HTW.out.2.1 HTW.out.2.2.1).mono ?_
                rintro e w3 ⟨rfl, h, hh, hat⟩
                have HST : Hid (Stable n LL m h) := Lib.hid ⟨hh.perm.trans HTW.out.2.2.2, hh.asc⟩
                have HA4 := Lib.hid hat
                clear hh hat
                go_wp2
                go_roundw
                case rel => exact .inr ⟨rfl, h, HST.out, HA4.out⟩
                case measure => simp [intOf]
            · have hno : ¬ (20 : Int) < (m : Int) := by omega
              have HST : Hid (Stable n LL m g2) := Lib.hid ⟨HTW.out.2.2.2, by
                have := HTW.out.1
                rwa [show (20 : Nat) = m by omega] at this⟩
              go_wp2
              go_end0
              exact ⟨rfl, g2, HST.out, HA3.out⟩
          · have HST := Lib.hid hst
            have HA4 := Lib.hid hat
            clear hst hat
            have hno : ¬ (40 : Int) < (m : Int) := by omega
            go_wp2
            go_end0
            exact ⟨rfl, h, HST.out, HA4.out⟩
end Go.Proofs.YtabeblbhbekjaaaGreatDoor
