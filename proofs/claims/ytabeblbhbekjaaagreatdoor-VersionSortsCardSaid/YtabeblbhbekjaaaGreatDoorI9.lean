/-
  Walk: the library's merge in place.
-/
import Derived.Test.YtabeblbhbekjaaaGreatDoorI8
import Derived.Deep.DeepCutAuto
namespace Go.Proofs.YtabeblbhbekjaaaGreatDoor
open Go.RowKit

theorem rot_id (f : V.Ix) {s m e : Nat} (h : s = m ∨ e = m) (hs : s ≤ m) (he : m ≤ e) : V.rot f s m e = f := by
  funext i
  simp only [V.rot]
  repeat' split
  all_goals first | rfl | omega | (congr 1; omega)

theorem merged_self {R : Nat → Nat → Prop} {f : V.Ix} {a b : Nat} (h : (V.seg f a b).Pairwise R) : V.Merged R f f a b := ⟨fun _ _ => rfl, List.Perm.refl _, h⟩

theorem seg_nil (f : V.Ix) {a b : Nat} (h : b ≤ a) : V.seg f a b = [] := by
  unfold V.seg; rw [show b - a = 0 by omega]; rfl

/-- one of two stretches is empty: nothing is to be done -/
theorem merged_edge {R : Nat → Nat → Prop} {f : V.Ix} {a s b : Nat} (h1 : a ≤ s) (h2 : s ≤ b) (h : ¬ (a < s ∧ s < b)) (p1 : (V.seg f a s).Pairwise R) (p2 : (V.seg f s b).Pairwise R) : V.Merged R f f a b := by
  apply merged_self
  rw [V.seg_append f h1 h2]
  by_cases g : a < s
  · rw [seg_nil f (show b ≤ s by omega), List.append_nil]; exact p1
  · rw [seg_nil f (show s ≤ a by omega), List.nil_append]; exact p2

theorem asc_mon {R : Nat → Nat → Prop} {f : V.Ix} {a b : Nat} (h : (V.seg f a b).Pairwise R) : ∀ x y, a ≤ x → x < y → y < b → R (f x) (f y) := fun x y h1 h2 h3 => by
  rw [V.seg_append f (show a ≤ x + 1 by omega) (show x + 1 ≤ b by omega), List.pairwise_append] at h
  exact h.2.2 _ (V.mem_seg.2 ⟨x, h1, by omega, rfl⟩) _ (V.mem_seg.2 ⟨y, by omega, h3, rfl⟩)

def symSpec (n : Int) (T : TypeId) (LL : Nat → V.Bs) (b mm cap : Nat) (w0 : World) (N : Nat) : Prop :=
  ∀ (a c d : Nat) (f : V.Ix) (w : World), d - a ≤ N → a < c → c < d → d ≤ mm → At LL b mm w0 f w → (V.seg f a c).Pairwise (Bef n LL) → (V.seg f c d).Pairwise (Bef n LL) → (∀ x ∈ V.seg f a c, ∀ y ∈ V.seg f c d, x < y) →
    Calls Tryz.prog 50 #[.slice (some ⟨b, 0, none⟩) mm cap, .int .i64 a, .int .i64 c, .int .i64 d, cmpVal T] w (SymPost (Bef n LL) LL b mm w0 f a d)

set_option maxRecDepth 100000 in
set_option maxHeartbeats 12800000 in
theorem symMergeG1_any (n : Int) (T : TypeId) (K : FuncId) (LL : Nat → V.Bs) (b mm cap : Nat) (w0 : World) (hn : V.scheme n = true) (hv : ∀ i, V.valid n (LL i) = true) (hm : mm ≤ 1000)
    (hmeth : ∀ k w, (method (k + 1) T (.agg #[]) "admission/version.compare").run Tryz.prog w = .ok (K, .agg #[]) w)
    (henter : ∀ args w, (callFunc K args).run Tryz.prog w = .ok (.enter K args) w)
    (hK : ∀ (x y : V.Bs) W, V.valid n x = true → V.valid n y = true → MaxOk W → Calls Tryz.prog K #[.agg #[], .string ⟨x.toArray⟩, .string ⟨y.toArray⟩] W fun e w' => e = .returned (.int .i64 (V.cmpV n x y)) ∧ Below W.heap.size W w') (N : Nat)
    (ih : symSpec n T LL b mm cap w0 N)
    (a c d : Nat) (f : V.Ix) (w : World) (hN : d - a ≤ N + 1) (hca : a + 2 ≤ c) (hdc : c + 2 ≤ d) (hdm : d ≤ mm) (hat : At LL b mm w0 f w) (asc1 : (V.seg f a c).Pairwise (Bef n LL)) (asc2 : (V.seg f c d).Pairwise (Bef n LL)) (tags : ∀ x ∈ V.seg f a c, ∀ y ∈ V.seg f c d, x < y)
    (mid nn pp lo hi : Nat) (g1 : 2 * mid ≤ a + d) (g2 : a + d ≤ 2 * mid + 1) (n1 : nn ≤ mid + c) (n2 : mid + c ≤ nn) (p1 : pp + 1 ≤ nn) (p2 : nn ≤ pp + 1)
    (hmc : mid < c) (HLH : Hid (lo = mid + c - d ∧ mid = hi)) :
    Calls Tryz.prog 50 #[.slice (some ⟨b, 0, none⟩) mm cap, .int .i64 a, .int .i64 c, .int .i64 d, cmpVal T] w (SymPost (Bef n LL) LL b mm w0 f a d) := by
  unfold symSpec cmpVal at ih
  have IH := Lib.hid ih
  have HAT := Lib.hid hat
  have HN := Lib.hid hn
  have HV := Lib.hid hv
  have HK := Lib.hid hK
  have TR := Lib.hid (Bef.trans hn hv)
  have M1 := Lib.hid (asc_mon asc1)
  have M2 := Lib.hid (asc_mon asc2)
  have A1 := Lib.hid asc1
  have A2 := Lib.hid asc2
  have TG := Lib.hid tags
  have TG2 : Hid (∀ x y, a ≤ x → x < c → c ≤ y → y < d → f x < f y) := Lib.hid (fun x y h1 h2 h3 h4 => tags _ (V.mem_seg.2 ⟨x, h1, h2, rfl⟩) _ (V.mem_seg.2 ⟨y, h3, h4, rfl⟩))
  have ht1 : ((c : Int) - (a : Int) == 1) = false := by rw [beq_eq_false_iff_ne]; omega
  have ht2 : ((d : Int) - (c : Int) == 1) = false := by rw [beq_eq_false_iff_ne]; omega
  have HZ1 : Hid (((a : Int) + (d : Int)) / 2 = (mid : Int)) := Lib.hid (by omega)
  have HZ2 : Hid ((mid : Int) + (c : Int) = (nn : Int)) := Lib.hid (by omega)
  have HZ3 : Hid ((nn : Int) - 1 = (pp : Int)) := Lib.hid (by omega)
  have hall : a ≤ lo ∧ lo ≤ hi ∧ hi ≤ c ∧ (∀ x, lo ≤ x → x < hi → c ≤ pp - x ∧ pp - x < d) ∧ (lo = a ∨ nn - lo = d) ∧ (hi = c ∨ nn - hi = c) ∧ mid ≤ d ∧ lo ≤ nn := by
    obtain ⟨e1, e2⟩ := HLH.out
    subst e1 e2
    exact ⟨by omega, by omega, by omega, fun x _ _ => by omega, by omega, by omega, by omega, by omega⟩
  obtain ⟨l1, l2, l3, l4, lA, lB, l7, l8⟩ := hall
  have L4 := Lib.hid l4
  have LA := Lib.hid lA
  have LB := Lib.hid lB
  clear ih hat hn hv hK asc1 asc2 tags l4 lA lB
  have htd : decide (((a : Int) + (d : Int)) / 2 < (c : Int)) = true := by rw [HZ1.out]; simp; omega
  unfold cmpVal
  go_enter Tryz.func50, Tryz.ntmps50
  obtain ⟨e1, e2⟩ := HLH.out
  subst e2
  have HZ4 : Hid ((nn : Int) - (d : Int) = (lo : Int)) := Lib.hid (by omega)
  have HEN : Hid (∀ st, lo ≤ st → nn - st ≤ d) := Lib.hid (fun st h => by omega)
  have l9 : mid ≤ mid := Nat.le_refl _
  clear HLH e1
  go_wp2
  rw [HZ1.out]
  rw [HZ2.out]
  rw [HZ3.out]
  rw [HZ4.out]
  go_loopw [20, 21] (fun i j wr => ∃ p q : Nat, lo ≤ p ∧ p ≤ q ∧ q ≤ mid ∧ i = .int .i64 p ∧ j = .int .i64 q ∧ At LL b mm w0 f wr ∧ (∀ x, lo ≤ x → x < p → Bef n LL (f x) (f (pp - x))) ∧ ∀ x, q ≤ x → x < mid → Bef n LL (f (pp - x)) (f x)) (fun i j _ => (intOf j - intOf i).toNat)
  case atStart => exact ⟨lo, mid, Nat.le_refl _, l2, Nat.le_refl _, rfl, rfl, HAT.out, fun x h1 h2 => by omega, fun x h1 h2 => by omega⟩
  case round =>
    obtain ⟨p, q, hp1, hpq, hq, rfl, rfl, hat, hlo, hhi⟩ := hrel
    have HA := Lib.hid hat
    have HLO := Lib.hid hlo
    have HHI := Lib.hid hhi
    clear hat hlo hhi
    by_cases hlt : p < q
    · obtain ⟨h, hh⟩ : ∃ h : Nat, h = (p + q) / 2 := ⟨_, rfl⟩
      have hh1 : p ≤ h := by omega
      have hh2 : h < q := by omega
      have hz : ((p : Int) + (q : Int)) / 2 = (h : Int) := by omega
      have HZ := Lib.hid hz
      have hr := L4.out h (by omega) (by omega)
      obtain ⟨hr1, hr2⟩ := hr
      have d0 := HA.out.row.cell (pp - h) (by omega)
      have d2 := HA.out.row.cell h (by omega)
      have HV0 := Lib.hid (HV.out (f (pp - h)))
      have HV1 := Lib.hid (HV.out (f h))
      have hat2 := TG2.out h (pp - h) (by omega) (by omega) hr1 hr2
      have hcmp : V.cmpV n (LL (f (pp - h))) (LL (f h)) < 0 ↔ Bef n LL (f (pp - h)) (f h) := Bef.right hat2
      have hleft : ¬ V.cmpV n (LL (f (pp - h))) (LL (f h)) < 0 → Bef n LL (f h) (f (pp - h)) := Bef.left HN.out HV.out hat2
      obtain ⟨cc, hc⟩ : ∃ cc, V.cmpV n (LL (f (pp - h))) (LL (f h)) = cc := ⟨_, rfl⟩
      have HC := Lib.hid hc
      rw [hc] at hcmp hleft
      have HNO : Hid (¬ cc < 0 → ∀ x, lo ≤ x → x < h + 1 → Bef n LL (f x) (f (pp - x))) := Lib.hid (fun g x g1 g2 => by
        by_cases e : x = h
        · subst e; exact hleft g
        · have k1 := M1.out x h (by omega) (by omega) (by omega)
          have k3 := L4.out x g1 (by omega)
          have k2 := M2.out (pp - h) (pp - x) hr1 (by omega) (by omega)
          exact TR.out _ _ _ k1 (TR.out _ _ _ (hleft g) k2))
      have HYES : Hid (cc < 0 → ∀ x, h ≤ x → x < mid → Bef n LL (f (pp - x)) (f x)) := Lib.hid (fun g x g1 g2 => by
        by_cases e : x = h
        · subst e; exact hcmp.1 g
        · have k1 := M1.out h x (by omega) (by omega) (by omega)
          have k3 := L4.out x (by omega) g2
          have k2 := M2.out (pp - x) (pp - h) (by omega) (by omega) (by omega)
          exact TR.out _ _ _ k2 (TR.out _ _ _ (hcmp.1 g) k1))
      have hi1 : (0 : Int) ≤ (h : Int) := by omega
      have hi2 : (h : Int) < (mm : Int) := by omega
      have hw1 : IntKind.i64.wrap ((pp : Int) - (h : Int)) = (pp : Int) - (h : Int) := IntWalk.i64_in _ (by omega)
      have hn1 : ((pp : Int) - (h : Int)).toNat = pp - h := by omega
      have hi3 : (0 : Int) ≤ (pp : Int) - (h : Int) := by omega
      have hi4 : (pp : Int) - (h : Int) < (mm : Int) := by omega
      have hi5 : (h : Int) ≤ (pp : Int) := by omega
      have hi6 : pp - h < mm := by omega
      clear hz hh hat2 hcmp hleft hc
      generalize hy0 : LL (f (pp - h)) = y0 at *
      generalize hy1 : LL (f h) = y1 at *
      clear hy0 hy1
      go_wp2
      rw [HZ.out]
      go_still_tail 11, (by kernel_rfl)
      change wpList _ _ _ _ _ wr.drew
      have HA2 := Lib.hid (HA.out.below (Below.refl _ wr).drew)
      clear d0 d2
      generalize wr.drew = W1 at *
      go_wp2_with fail
      refine (HK.out y0 y1 _ HV0.out HV1.out HA2.out.max).mono ?_
      rintro e W2 ⟨rfl, hb2⟩
      have HA3 := Lib.hid (HA2.out.below hb2)
      clear hb2
      rw [HC.out]
      by_cases hcn : cc < 0
      · have hb1 : decide (cc < 0) = true := by simpa using hcn
        have hb2 : (!decide (cc < 0)) = false := by rw [hb1]; rfl
        go_wp2
        go_roundw
        case rel => exact ⟨p, h, hp1, hh1, by omega, rfl, by go_num, HA3.out, HLO.out, HYES.out hcn⟩
        case measure => simp [intOf]; omega
      · have hb1 : decide (cc < 0) = false := by simpa using hcn
        have hb2 : (!decide (cc < 0)) = true := by rw [hb1]; rfl
        go_wp2
        go_roundw
        case rel => exact ⟨h + 1, q, by omega, by omega, hq, by go_num, rfl, HA3.out, HNO.out hcn, HHI.out⟩
        case measure => simp [intOf]; omega
    · obtain rfl : p = q := by omega
      obtain ⟨wo, rfl⟩ : ∃ wo : World, wo = wr := ⟨_, rfl⟩
      obtain ⟨en, hen⟩ : ∃ en : Nat, en = nn - p := ⟨_, rfl⟩
      have e4 := HEN.out p hp1
      have e1 : a ≤ p := by omega
      have e2 : p ≤ c := by omega
      have e3 : c ≤ en := by omega
      have e4' : en ≤ d := by omega
      have e5 : p + en = mid + c := by omega
      have HST : Hid _ := Lib.hid (V.merge_step TR.out A1.out A2.out TG.out e1 e2 e3 e4' e5 (fun k1 k2 => by
        by_cases g : lo ≤ p - 1
        · have := HLO.out (p - 1) g (by omega)
          rwa [show pp - (p - 1) = en by omega] at this
        · have := LA.out; omega) (fun k1 k2 => by
        by_cases g : p < mid
        · have := HHI.out p (Nat.le_refl _) g
          rwa [show pp - p = en - 1 by omega] at this
        · have := LB.out; omega))
      have HZ5 : Hid ((nn : Int) - (p : Int) = (en : Int)) := Lib.hid (by omega)
      have E5 := Lib.hid e5
      have e6 : p ≤ mid := by omega
      have e7 : mid ≤ en := by omega
      clear hlt hen e4 e5 HLO HHI
      have k1 : (p < c ∧ c < en) ∨ (p < c ∧ ¬ c < en) ∨ ¬ p < c := by omega
      have k2 : (a < p ∧ p < mid) ∨ (a < p ∧ ¬ p < mid) ∨ ¬ a < p := by omega
      have k3 : (mid < en ∧ en < d) ∨ (mid < en ∧ ¬ en < d) ∨ ¬ mid < en := by omega
      rcases k1 with ⟨x1, x2⟩ | ⟨x1, x2⟩ | x1
      · have x2' : (c : Int) < (nn : Int) - (p : Int) := by have := HZ5.out; omega
        go_wp2_with fail
        rw [HZ5.out]
        refine (rotate_any LL f b mm cap p c en _ _ w0 HA.out hm x1 x2 (by omega)).mono ?_
        rintro e w1 ⟨rfl, h5⟩
        have HA1 := Lib.hid h5
        clear h5
        rcases k2 with ⟨y1, y2⟩ | ⟨y1, y2⟩ | y1
        · go_wp2_with fail
          try rw [HZ5.out]
          refine (IH.out a p mid (V.rot f p c en) _ (by omega) y1 y2 (by omega) HA1.out HST.out.1.1 HST.out.1.2.1 HST.out.1.2.2).mono ?_
          rintro e w2 ⟨rfl, g, hg, hat2⟩
          have HG := Lib.hid hg
          have HA2 := Lib.hid hat2
          clear hg hat2
          rcases k3 with ⟨z1, z2⟩ | ⟨z1, z2⟩ | z1
          · have y1' : (mid : Int) < (nn : Int) - (p : Int) := by have := HZ5.out; omega
            have y2' : (nn : Int) - (p : Int) < (d : Int) := by have := HZ5.out; omega
            have y1'' : (mid : Int) < (en : Int) := by omega
            have y2'' : (en : Int) < (d : Int) := by omega
            go_wp2_with fail
            try rw [HZ5.out]
            refine (IH.out mid en d g _ (by omega) z1 z2 hdm HA2.out (by rw [V.seg_congr (fun x h _ => HG.out.out x (.inr h))]; exact HST.out.2.1.1) (by rw [V.seg_congr (fun x h _ => HG.out.out x (.inr (by omega)))]; exact HST.out.2.1.2.1) (by rw [V.seg_congr (fun x h _ => HG.out.out x (.inr h)), V.seg_congr (a := en) (fun x h _ => HG.out.out x (.inr (by omega)))]; exact HST.out.2.1.2.2)).mono ?_
            rintro e w5 ⟨rfl, h, hh, hat5⟩
            have HH := Lib.hid hh
            have HA5 := Lib.hid hat5
            clear hh hat5
            go_wp2
            go_end0
            exact ⟨rfl, h, HST.out.2.2 g h HG.out HH.out, HA5.out⟩
          · have y1' : (mid : Int) < (nn : Int) - (p : Int) := by have := HZ5.out; omega
            have y2' : ¬ (nn : Int) - (p : Int) < (d : Int) := by have := HZ5.out; omega
            have y1'' : (mid : Int) < (en : Int) := by omega
            have y2'' : ¬ (en : Int) < (d : Int) := by omega
            have HH : Hid (V.Merged (Bef n LL) g g mid d) := Lib.hid (merged_edge e7 e4' (by omega) (by rw [V.seg_congr (fun x h _ => HG.out.out x (.inr h))]; exact HST.out.2.1.1) (by rw [V.seg_congr (fun x h _ => HG.out.out x (.inr (by omega)))]; exact HST.out.2.1.2.1))
            go_wp2
            go_end0
            exact ⟨rfl, g, HST.out.2.2 g g HG.out HH.out, HA2.out⟩
          · have y1' : ¬ (mid : Int) < (nn : Int) - (p : Int) := by have := HZ5.out; omega
            have y1'' : ¬ (mid : Int) < (en : Int) := by omega
            have HH : Hid (V.Merged (Bef n LL) g g mid d) := Lib.hid (merged_edge e7 e4' (by omega) (by rw [V.seg_congr (fun x h _ => HG.out.out x (.inr h))]; exact HST.out.2.1.1) (by rw [V.seg_congr (fun x h _ => HG.out.out x (.inr (by omega)))]; exact HST.out.2.1.2.1))
            go_wp2
            go_end0
            exact ⟨rfl, g, HST.out.2.2 g g HG.out HH.out, HA2.out⟩
        · have HG : Hid (V.Merged (Bef n LL) (V.rot f p c en) (V.rot f p c en) a mid) := Lib.hid (merged_edge e1 e6 (by omega) HST.out.1.1 HST.out.1.2.1)
          have HA2 := HA1
          rcases k3 with ⟨z1, z2⟩ | ⟨z1, z2⟩ | z1
          · have y1' : (mid : Int) < (nn : Int) - (p : Int) := by have := HZ5.out; omega
            have y2' : (nn : Int) - (p : Int) < (d : Int) := by have := HZ5.out; omega
            have y1'' : (mid : Int) < (en : Int) := by omega
            have y2'' : (en : Int) < (d : Int) := by omega
            go_wp2_with fail
            try rw [HZ5.out]
            refine (IH.out mid en d (V.rot f p c en) _ (by omega) z1 z2 hdm HA2.out (by rw [V.seg_congr (fun x h _ => HG.out.out x (.inr h))]; exact HST.out.2.1.1) (by rw [V.seg_congr (fun x h _ => HG.out.out x (.inr (by omega)))]; exact HST.out.2.1.2.1) (by rw [V.seg_congr (fun x h _ => HG.out.out x (.inr h)), V.seg_congr (a := en) (fun x h _ => HG.out.out x (.inr (by omega)))]; exact HST.out.2.1.2.2)).mono ?_
            rintro e w5 ⟨rfl, h, hh, hat5⟩
            have HH := Lib.hid hh
            have HA5 := Lib.hid hat5
            clear hh hat5
            go_wp2
            go_end0
            exact ⟨rfl, h, HST.out.2.2 (V.rot f p c en) h HG.out HH.out, HA5.out⟩
          · have y1' : (mid : Int) < (nn : Int) - (p : Int) := by have := HZ5.out; omega
            have y2' : ¬ (nn : Int) - (p : Int) < (d : Int) := by have := HZ5.out; omega
            have y1'' : (mid : Int) < (en : Int) := by omega
            have y2'' : ¬ (en : Int) < (d : Int) := by omega
            have HH : Hid (V.Merged (Bef n LL) (V.rot f p c en) (V.rot f p c en) mid d) := Lib.hid (merged_edge e7 e4' (by omega) (by rw [V.seg_congr (fun x h _ => HG.out.out x (.inr h))]; exact HST.out.2.1.1) (by rw [V.seg_congr (fun x h _ => HG.out.out x (.inr (by omega)))]; exact HST.out.2.1.2.1))
            go_wp2
            go_end0
            exact ⟨rfl, (V.rot f p c en), HST.out.2.2 (V.rot f p c en) (V.rot f p c en) HG.out HH.out, HA2.out⟩
          · have y1' : ¬ (mid : Int) < (nn : Int) - (p : Int) := by have := HZ5.out; omega
            have y1'' : ¬ (mid : Int) < (en : Int) := by omega
            have HH : Hid (V.Merged (Bef n LL) (V.rot f p c en) (V.rot f p c en) mid d) := Lib.hid (merged_edge e7 e4' (by omega) (by rw [V.seg_congr (fun x h _ => HG.out.out x (.inr h))]; exact HST.out.2.1.1) (by rw [V.seg_congr (fun x h _ => HG.out.out x (.inr (by omega)))]; exact HST.out.2.1.2.1))
            go_wp2
            go_end0
            exact ⟨rfl, (V.rot f p c en), HST.out.2.2 (V.rot f p c en) (V.rot f p c en) HG.out HH.out, HA2.out⟩
        · have HG : Hid (V.Merged (Bef n LL) (V.rot f p c en) (V.rot f p c en) a mid) := Lib.hid (merged_edge e1 e6 (by omega) HST.out.1.1 HST.out.1.2.1)
          have HA2 := HA1
          rcases k3 with ⟨z1, z2⟩ | ⟨z1, z2⟩ | z1
          · have y1' : (mid : Int) < (nn : Int) - (p : Int) := by have := HZ5.out; omega
            have y2' : (nn : Int) - (p : Int) < (d : Int) := by have := HZ5.out; omega
            have y1'' : (mid : Int) < (en : Int) := by omega
            have y2'' : (en : Int) < (d : Int) := by omega
            go_wp2_with fail
            try rw [HZ5.out]
            refine (IH.out mid en d (V.rot f p c en) _ (by omega) z1 z2 hdm HA2.out (by rw [V.seg_congr (fun x h _ => HG.out.out x (.inr h))]; exact HST.out.2.1.1) (by rw [V.seg_congr (fun x h _ => HG.out.out x (.inr (by omega)))]; exact HST.out.2.1.2.1) (by rw [V.seg_congr (fun x h _ => HG.out.out x (.inr h)), V.seg_congr (a := en) (fun x h _ => HG.out.out x (.inr (by omega)))]; exact HST.out.2.1.2.2)).mono ?_
            rintro e w5 ⟨rfl, h, hh, hat5⟩
            have HH := Lib.hid hh
            have HA5 := Lib.hid hat5
            clear hh hat5
            go_wp2
            go_end0
            exact ⟨rfl, h, HST.out.2.2 (V.rot f p c en) h HG.out HH.out, HA5.out⟩
          · have y1' : (mid : Int) < (nn : Int) - (p : Int) := by have := HZ5.out; omega
            have y2' : ¬ (nn : Int) - (p : Int) < (d : Int) := by have := HZ5.out; omega
            have y1'' : (mid : Int) < (en : Int) := by omega
            have y2'' : ¬ (en : Int) < (d : Int) := by omega
            have HH : Hid (V.Merged (Bef n LL) (V.rot f p c en) (V.rot f p c en) mid d) := Lib.hid (merged_edge e7 e4' (by omega) (by rw [V.seg_congr (fun x h _ => HG.out.out x (.inr h))]; exact HST.out.2.1.1) (by rw [V.seg_congr (fun x h _ => HG.out.out x (.inr (by omega)))]; exact HST.out.2.1.2.1))
            go_wp2
            go_end0
            exact ⟨rfl, (V.rot f p c en), HST.out.2.2 (V.rot f p c en) (V.rot f p c en) HG.out HH.out, HA2.out⟩
          · have y1' : ¬ (mid : Int) < (nn : Int) - (p : Int) := by have := HZ5.out; omega
            have y1'' : ¬ (mid : Int) < (en : Int) := by omega
            have HH : Hid (V.Merged (Bef n LL) (V.rot f p c en) (V.rot f p c en) mid d) := Lib.hid (merged_edge e7 e4' (by omega) (by rw [V.seg_congr (fun x h _ => HG.out.out x (.inr h))]; exact HST.out.2.1.1) (by rw [V.seg_congr (fun x h _ => HG.out.out x (.inr (by omega)))]; exact HST.out.2.1.2.1))
            go_wp2
            go_end0
            exact ⟨rfl, (V.rot f p c en), HST.out.2.2 (V.rot f p c en) (V.rot f p c en) HG.out HH.out, HA2.out⟩
      · have x2' : ¬ (c : Int) < (nn : Int) - (p : Int) := by have := HZ5.out; omega
        have HA1 : Hid (At LL b mm w0 (V.rot f p c en) wo) := Lib.hid (by rw [rot_id f (by omega) e2 e3]; exact HA.out)
        rcases k2 with ⟨y1, y2⟩ | ⟨y1, y2⟩ | y1
        · go_wp2_with fail
          try rw [HZ5.out]
          refine (IH.out a p mid (V.rot f p c en) _ (by omega) y1 y2 (by omega) HA1.out HST.out.1.1 HST.out.1.2.1 HST.out.1.2.2).mono ?_
          rintro e w2 ⟨rfl, g, hg, hat2⟩
          have HG := Lib.hid hg
          have HA2 := Lib.hid hat2
          clear hg hat2
          rcases k3 with ⟨z1, z2⟩ | ⟨z1, z2⟩ | z1
          · have y1' : (mid : Int) < (nn : Int) - (p : Int) := by have := HZ5.out; omega
            have y2' : (nn : Int) - (p : Int) < (d : Int) := by have := HZ5.out; omega
            have y1'' : (mid : Int) < (en : Int) := by omega
            have y2'' : (en : Int) < (d : Int) := by omega
            go_wp2_with fail
            try rw [HZ5.out]
            refine (IH.out mid en d g _ (by omega) z1 z2 hdm HA2.out (by rw [V.seg_congr (fun x h _ => HG.out.out x (.inr h))]; exact HST.out.2.1.1) (by rw [V.seg_congr (fun x h _ => HG.out.out x (.inr (by omega)))]; exact HST.out.2.1.2.1) (by rw [V.seg_congr (fun x h _ => HG.out.out x (.inr h)), V.seg_congr (a := en) (fun x h _ => HG.out.out x (.inr (by omega)))]; exact HST.out.2.1.2.2)).mono ?_
            rintro e w5 ⟨rfl, h, hh, hat5⟩
            have HH := Lib.hid hh
            have HA5 := Lib.hid hat5
            clear hh hat5
            go_wp2
            go_end0
            exact ⟨rfl, h, HST.out.2.2 g h HG.out HH.out, HA5.out⟩
          · have y1' : (mid : Int) < (nn : Int) - (p : Int) := by have := HZ5.out; omega
            have y2' : ¬ (nn : Int) - (p : Int) < (d : Int) := by have := HZ5.out; omega
            have y1'' : (mid : Int) < (en : Int) := by omega
            have y2'' : ¬ (en : Int) < (d : Int) := by omega
            have HH : Hid (V.Merged (Bef n LL) g g mid d) := Lib.hid (merged_edge e7 e4' (by omega) (by rw [V.seg_congr (fun x h _ => HG.out.out x (.inr h))]; exact HST.out.2.1.1) (by rw [V.seg_congr (fun x h _ => HG.out.out x (.inr (by omega)))]; exact HST.out.2.1.2.1))
            go_wp2
            go_end0
            exact ⟨rfl, g, HST.out.2.2 g g HG.out HH.out, HA2.out⟩
          · have y1' : ¬ (mid : Int) < (nn : Int) - (p : Int) := by have := HZ5.out; omega
            have y1'' : ¬ (mid : Int) < (en : Int) := by omega
            have HH : Hid (V.Merged (Bef n LL) g g mid d) := Lib.hid (merged_edge e7 e4' (by omega) (by rw [V.seg_congr (fun x h _ => HG.out.out x (.inr h))]; exact HST.out.2.1.1) (by rw [V.seg_congr (fun x h _ => HG.out.out x (.inr (by omega)))]; exact HST.out.2.1.2.1))
            go_wp2
            go_end0
            exact ⟨rfl, g, HST.out.2.2 g g HG.out HH.out, HA2.out⟩
        · have HG : Hid (V.Merged (Bef n LL) (V.rot f p c en) (V.rot f p c en) a mid) := Lib.hid (merged_edge e1 e6 (by omega) HST.out.1.1 HST.out.1.2.1)
          have HA2 := HA1
          rcases k3 with ⟨z1, z2⟩ | ⟨z1, z2⟩ | z1
          · have y1' : (mid : Int) < (nn : Int) - (p : Int) := by have := HZ5.out; omega
            have y2' : (nn : Int) - (p : Int) < (d : Int) := by have := HZ5.out; omega
            have y1'' : (mid : Int) < (en : Int) := by omega
            have y2'' : (en : Int) < (d : Int) := by omega
            go_wp2_with fail
            try rw [HZ5.out]
            refine (IH.out mid en d (V.rot f p c en) _ (by omega) z1 z2 hdm HA2.out (by rw [V.seg_congr (fun x h _ => HG.out.out x (.inr h))]; exact HST.out.2.1.1) (by rw [V.seg_congr (fun x h _ => HG.out.out x (.inr (by omega)))]; exact HST.out.2.1.2.1) (by rw [V.seg_congr (fun x h _ => HG.out.out x (.inr h)), V.seg_congr (a := en) (fun x h _ => HG.out.out x (.inr (by omega)))]; exact HST.out.2.1.2.2)).mono ?_
            rintro e w5 ⟨rfl, h, hh, hat5⟩
            have HH := Lib.hid hh
            have HA5 := Lib.hid hat5
            clear hh hat5
            go_wp2
            go_end0
            exact ⟨rfl, h, HST.out.2.2 (V.rot f p c en) h HG.out HH.out, HA5.out⟩
          · have y1' : (mid : Int) < (nn : Int) - (p : Int) := by have := HZ5.out; omega
            have y2' : ¬ (nn : Int) - (p : Int) < (d : Int) := by have := HZ5.out; omega
            have y1'' : (mid : Int) < (en : Int) := by omega
            have y2'' : ¬ (en : Int) < (d : Int) := by omega
            have HH : Hid (V.Merged (Bef n LL) (V.rot f p c en) (V.rot f p c en) mid d) := Lib.hid (merged_edge e7 e4' (by omega) (by rw [V.seg_congr (fun x h _ => HG.out.out x (.inr h))]; exact HST.out.2.1.1) (by rw [V.seg_congr (fun x h _ => HG.out.out x (.inr (by omega)))]; exact HST.out.2.1.2.1))
            go_wp2
            go_end0
            exact ⟨rfl, (V.rot f p c en), HST.out.2.2 (V.rot f p c en) (V.rot f p c en) HG.out HH.out, HA2.out⟩
          · have y1' : ¬ (mid : Int) < (nn : Int) - (p : Int) := by have := HZ5.out; omega
            have y1'' : ¬ (mid : Int) < (en : Int) := by omega
            have HH : Hid (V.Merged (Bef n LL) (V.rot f p c en) (V.rot f p c en) mid d) := Lib.hid (merged_edge e7 e4' (by omega) (by rw [V.seg_congr (fun x h _ => HG.out.out x (.inr h))]; exact HST.out.2.1.1) (by rw [V.seg_congr (fun x h _ => HG.out.out x (.inr (by omega)))]; exact HST.out.2.1.2.1))
            go_wp2
            go_end0
            exact ⟨rfl, (V.rot f p c en), HST.out.2.2 (V.rot f p c en) (V.rot f p c en) HG.out HH.out, HA2.out⟩
        · have HG : Hid (V.Merged (Bef n LL) (V.rot f p c en) (V.rot f p c en) a mid) := Lib.hid (merged_edge e1 e6 (by omega) HST.out.1.1 HST.out.1.2.1)
          have HA2 := HA1
          rcases k3 with ⟨z1, z2⟩ | ⟨z1, z2⟩ | z1
          · have y1' : (mid : Int) < (nn : Int) - (p : Int) := by have := HZ5.out; omega
            have y2' : (nn : Int) - (p : Int) < (d : Int) := by have := HZ5.out; omega
            have y1'' : (mid : Int) < (en : Int) := by omega
            have y2'' : (en : Int) < (d : Int) := by omega
            go_wp2_with fail
            try rw [HZ5.out]
            refine (IH.out mid en d (V.rot f p c en) _ (by omega) z1 z2 hdm HA2.out (by rw [V.seg_congr (fun x h _ => HG.out.out x (.inr h))]; exact HST.out.2.1.1) (by rw [V.seg_congr (fun x h _ => HG.out.out x (.inr (by omega)))]; exact HST.out.2.1.2.1) (by rw [V.seg_congr (fun x h _ => HG.out.out x (.inr h)), V.seg_congr (a := en) (fun x h _ => HG.out.out x (.inr (by omega)))]; exact HST.out.2.1.2.2)).mono ?_
            rintro e w5 ⟨rfl, h, hh, hat5⟩
            have HH := Lib.hid hh
            have HA5 := Lib.hid hat5
            clear hh hat5
            go_wp2
            go_end0
            exact ⟨rfl, h, HST.out.2.2 (V.rot f p c en) h HG.out HH.out, HA5.out⟩
          · have y1' : (mid : Int) < (nn : Int) - (p : Int) := by have := HZ5.out; omega
            have y2' : ¬ (nn : Int) - (p : Int) < (d : Int) := by have := HZ5.out; omega
            have y1'' : (mid : Int) < (en : Int) := by omega
            have y2'' : ¬ (en : Int) < (d : Int) := by omega
            have HH : Hid (V.Merged (Bef n LL) (V.rot f p c en) (V.rot f p c en) mid d) := Lib.hid (merged_edge e7 e4' (by omega) (by rw [V.seg_congr (fun x h _ => HG.out.out x (.inr h))]; exact HST.out.2.1.1) (by rw [V.seg_congr (fun x h _ => HG.out.out x (.inr (by omega)))]; exact HST.out.2.1.2.1))
            go_wp2
            go_end0
            exact ⟨rfl, (V.rot f p c en), HST.out.2.2 (V.rot f p c en) (V.rot f p c en) HG.out HH.out, HA2.out⟩
          · have y1' : ¬ (mid : Int) < (nn : Int) - (p : Int) := by have := HZ5.out; omega
            have y1'' : ¬ (mid : Int) < (en : Int) := by omega
            have HH : Hid (V.Merged (Bef n LL) (V.rot f p c en) (V.rot f p c en) mid d) := Lib.hid (merged_edge e7 e4' (by omega) (by rw [V.seg_congr (fun x h _ => HG.out.out x (.inr h))]; exact HST.out.2.1.1) (by rw [V.seg_congr (fun x h _ => HG.out.out x (.inr (by omega)))]; exact HST.out.2.1.2.1))
            go_wp2
            go_end0
            exact ⟨rfl, (V.rot f p c en), HST.out.2.2 (V.rot f p c en) (V.rot f p c en) HG.out HH.out, HA2.out⟩
      · have HA1 : Hid (At LL b mm w0 (V.rot f p c en) wo) := Lib.hid (by rw [rot_id f (by omega) e2 e3]; exact HA.out)
        rcases k2 with ⟨y1, y2⟩ | ⟨y1, y2⟩ | y1
        · go_wp2_with fail
          try rw [HZ5.out]
          refine (IH.out a p mid (V.rot f p c en) _ (by omega) y1 y2 (by omega) HA1.out HST.out.1.1 HST.out.1.2.1 HST.out.1.2.2).mono ?_
          rintro e w2 ⟨rfl, g, hg, hat2⟩
          have HG := Lib.hid hg
          have HA2 := Lib.hid hat2
          clear hg hat2
          rcases k3 with ⟨z1, z2⟩ | ⟨z1, z2⟩ | z1
          · have y1' : (mid : Int) < (nn : Int) - (p : Int) := by have := HZ5.out; omega
            have y2' : (nn : Int) - (p : Int) < (d : Int) := by have := HZ5.out; omega
            have y1'' : (mid : Int) < (en : Int) := by omega
            have y2'' : (en : Int) < (d : Int) := by omega
            go_wp2_with fail
            try rw [HZ5.out]
            refine (IH.out mid en d g _ (by omega) z1 z2 hdm HA2.out (by rw [V.seg_congr (fun x h _ => HG.out.out x (.inr h))]; exact HST.out.2.1.1) (by rw [V.seg_congr (fun x h _ => HG.out.out x (.inr (by omega)))]; exact HST.out.2.1.2.1) (by rw [V.seg_congr (fun x h _ => HG.out.out x (.inr h)), V.seg_congr (a := en) (fun x h _ => HG.out.out x (.inr (by omega)))]; exact HST.out.2.1.2.2)).mono ?_
            rintro e w5 ⟨rfl, h, hh, hat5⟩
            have HH := Lib.hid hh
            have HA5 := Lib.hid hat5
            clear hh hat5
            go_wp2
            go_end0
            exact ⟨rfl, h, HST.out.2.2 g h HG.out HH.out, HA5.out⟩
          · have y1' : (mid : Int) < (nn : Int) - (p : Int) := by have := HZ5.out; omega
            have y2' : ¬ (nn : Int) - (p : Int) < (d : Int) := by have := HZ5.out; omega
            have y1'' : (mid : Int) < (en : Int) := by omega
            have y2'' : ¬ (en : Int) < (d : Int) := by omega
            have HH : Hid (V.Merged (Bef n LL) g g mid d) := Lib.hid (merged_edge e7 e4' (by omega) (by rw [V.seg_congr (fun x h _ => HG.out.out x (.inr h))]; exact HST.out.2.1.1) (by rw [V.seg_congr (fun x h _ => HG.out.out x (.inr (by omega)))]; exact HST.out.2.1.2.1))
            go_wp2
            go_end0
            exact ⟨rfl, g, HST.out.2.2 g g HG.out HH.out, HA2.out⟩
          · have y1' : ¬ (mid : Int) < (nn : Int) - (p : Int) := by have := HZ5.out; omega
            have y1'' : ¬ (mid : Int) < (en : Int) := by omega
            have HH : Hid (V.Merged (Bef n LL) g g mid d) := Lib.hid (merged_edge e7 e4' (by omega) (by rw [V.seg_congr (fun x h _ => HG.out.out x (.inr h))]; exact HST.out.2.1.1) (by rw [V.seg_congr (fun x h _ => HG.out.out x (.inr (by omega)))]; exact HST.out.2.1.2.1))
            go_wp2
            go_end0
            exact ⟨rfl, g, HST.out.2.2 g g HG.out HH.out, HA2.out⟩
        · have HG : Hid (V.Merged (Bef n LL) (V.rot f p c en) (V.rot f p c en) a mid) := Lib.hid (merged_edge e1 e6 (by omega) HST.out.1.1 HST.out.1.2.1)
          have HA2 := HA1
          rcases k3 with ⟨z1, z2⟩ | ⟨z1, z2⟩ | z1
          · have y1' : (mid : Int) < (nn : Int) - (p : Int) := by have := HZ5.out; omega
            have y2' : (nn : Int) - (p : Int) < (d : Int) := by have := HZ5.out; omega
            have y1'' : (mid : Int) < (en : Int) := by omega
            have y2'' : (en : Int) < (d : Int) := by omega
            go_wp2_with fail
            try rw [HZ5.out]
            refine (IH.out mid en d (V.rot f p c en) _ (by omega) z1 z2 hdm HA2.out (by rw [V.seg_congr (fun x h _ => HG.out.out x (.inr h))]; exact HST.out.2.1.1) (by rw [V.seg_congr (fun x h _ => HG.out.out x (.inr (by omega)))]; exact HST.out.2.1.2.1) (by rw [V.seg_congr (fun x h _ => HG.out.out x (.inr h)), V.seg_congr (a := en) (fun x h _ => HG.out.out x (.inr (by omega)))]; exact HST.out.2.1.2.2)).mono ?_
            rintro e w5 ⟨rfl, h, hh, hat5⟩
            have HH := Lib.hid hh
            have HA5 := Lib.hid hat5
            clear hh hat5
            go_wp2
            go_end0
            exact ⟨rfl, h, HST.out.2.2 (V.rot f p c en) h HG.out HH.out, HA5.out⟩
          · have y1' : (mid : Int) < (nn : Int) - (p : Int) := by have := HZ5.out; omega
            have y2' : ¬ (nn : Int) - (p : Int) < (d : Int) := by have := HZ5.out; omega
            have y1'' : (mid : Int) < (en : Int) := by omega
            have y2'' : ¬ (en : Int) < (d : Int) := by omega
            have HH : Hid (V.Merged (Bef n LL) (V.rot f p c en) (V.rot f p c en) mid d) := Lib.hid (merged_edge e7 e4' (by omega) (by rw [V.seg_congr (fun x h _ => HG.out.out x (.inr h))]; exact HST.out.2.1.1) (by rw [V.seg_congr (fun x h _ => HG.out.out x (.inr (by omega)))]; exact HST.out.2.1.2.1))
            go_wp2
            go_end0
            exact ⟨rfl, (V.rot f p c en), HST.out.2.2 (V.rot f p c en) (V.rot f p c en) HG.out HH.out, HA2.out⟩
          · have y1' : ¬ (mid : Int) < (nn : Int) - (p : Int) := by have := HZ5.out; omega
            have y1'' : ¬ (mid : Int) < (en : Int) := by omega
            have HH : Hid (V.Merged (Bef n LL) (V.rot f p c en) (V.rot f p c en) mid d) := Lib.hid (merged_edge e7 e4' (by omega) (by rw [V.seg_congr (fun x h _ => HG.out.out x (.inr h))]; exact HST.out.2.1.1) (by rw [V.seg_congr (fun x h _ => HG.out.out x (.inr (by omega)))]; exact HST.out.2.1.2.1))
            go_wp2
            go_end0
            exact ⟨rfl, (V.rot f p c en), HST.out.2.2 (V.rot f p c en) (V.rot f p c en) HG.out HH.out, HA2.out⟩
        · have HG : Hid (V.Merged (Bef n LL) (V.rot f p c en) (V.rot f p c en) a mid) := Lib.hid (merged_edge e1 e6 (by omega) HST.out.1.1 HST.out.1.2.1)
          have HA2 := HA1
          rcases k3 with ⟨z1, z2⟩ | ⟨z1, z2⟩ | z1
          · have y1' : (mid : Int) < (nn : Int) - (p : Int) := by have := HZ5.out; omega
            have y2' : (nn : Int) - (p : Int) < (d : Int) := by have := HZ5.out; omega
            have y1'' : (mid : Int) < (en : Int) := by omega
            have y2'' : (en : Int) < (d : Int) := by omega
            go_wp2_with fail
            try rw [HZ5.out]
            refine (IH.out mid en d (V.rot f p c en) _ (by omega) z1 z2 hdm HA2.out (by rw [V.seg_congr (fun x h _ => HG.out.out x (.inr h))]; exact HST.out.2.1.1) (by rw [V.seg_congr (fun x h _ => HG.out.out x (.inr (by omega)))]; exact HST.out.2.1.2.1) (by rw [V.seg_congr (fun x h _ => HG.out.out x (.inr h)), V.seg_congr (a := en) (fun x h _ => HG.out.out x (.inr (by omega)))]; exact HST.out.2.1.2.2)).mono ?_
            rintro e w5 ⟨rfl, h, hh, hat5⟩
            have HH := Lib.hid hh
            have HA5 := Lib.hid hat5
            clear hh hat5
            go_wp2
            go_end0
            exact ⟨rfl, h, HST.out.2.2 (V.rot f p c en) h HG.out HH.out, HA5.out⟩
          · have y1' : (mid : Int) < (nn : Int) - (p : Int) := by have := HZ5.out; omega
            have y2' : ¬ (nn : Int) - (p : Int) < (d : Int) := by have := HZ5.out; omega
            have y1'' : (mid : Int) < (en : Int) := by omega
            have y2'' : ¬ (en : Int) < (d : Int) := by omega
            have HH : Hid (V.Merged (Bef n LL) (V.rot f p c en) (V.rot f p c en) mid d) := Lib.hid (merged_edge e7 e4' (by omega) (by rw [V.seg_congr (fun x h _ => HG.out.out x (.inr h))]; exact HST.out.2.1.1) (by rw [V.seg_congr (fun x h _ => HG.out.out x (.inr (by omega)))]; exact HST.out.2.1.2.1))
            go_wp2
            go_end0
            exact ⟨rfl, (V.rot f p c en), HST.out.2.2 (V.rot f p c en) (V.rot f p c en) HG.out HH.out, HA2.out⟩
          · have y1' : ¬ (mid : Int) < (nn : Int) - (p : Int) := by have := HZ5.out; omega
            have y1'' : ¬ (mid : Int) < (en : Int) := by omega
            have HH : Hid (V.Merged (Bef n LL) (V.rot f p c en) (V.rot f p c en) mid d) := Lib.hid (merged_edge e7 e4' (by omega) (by rw [V.seg_congr (fun x h _ => HG.out.out x (.inr h))]; exact HST.out.2.1.1) (by rw [V.seg_congr (fun x h _ => HG.out.out x (.inr (by omega)))]; exact HST.out.2.1.2.1))
            go_wp2
            go_end0
            exact ⟨rfl, (V.rot f p c en), HST.out.2.2 (V.rot f p c en) (V.rot f p c en) HG.out HH.out, HA2.out⟩

set_option maxRecDepth 100000 in
set_option maxHeartbeats 12800000 in
theorem symMergeG2_any (n : Int) (T : TypeId) (K : FuncId) (LL : Nat → V.Bs) (b mm cap : Nat) (w0 : World) (hn : V.scheme n = true) (hv : ∀ i, V.valid n (LL i) = true) (hm : mm ≤ 1000)
    (hmeth : ∀ k w, (method (k + 1) T (.agg #[]) "admission/version.compare").run Tryz.prog w = .ok (K, .agg #[]) w)
    (henter : ∀ args w, (callFunc K args).run Tryz.prog w = .ok (.enter K args) w)
    (hK : ∀ (x y : V.Bs) W, V.valid n x = true → V.valid n y = true → MaxOk W → Calls Tryz.prog K #[.agg #[], .string ⟨x.toArray⟩, .string ⟨y.toArray⟩] W fun e w' => e = .returned (.int .i64 (V.cmpV n x y)) ∧ Below W.heap.size W w') (N : Nat)
    (ih : symSpec n T LL b mm cap w0 N)
    (a c d : Nat) (f : V.Ix) (w : World) (hN : d - a ≤ N + 1) (hca : a + 2 ≤ c) (hdc : c + 2 ≤ d) (hdm : d ≤ mm) (hat : At LL b mm w0 f w) (asc1 : (V.seg f a c).Pairwise (Bef n LL)) (asc2 : (V.seg f c d).Pairwise (Bef n LL)) (tags : ∀ x ∈ V.seg f a c, ∀ y ∈ V.seg f c d, x < y)
    (mid nn pp lo hi : Nat) (g1 : 2 * mid ≤ a + d) (g2 : a + d ≤ 2 * mid + 1) (n1 : nn ≤ mid + c) (n2 : mid + c ≤ nn) (p1 : pp + 1 ≤ nn) (p2 : nn ≤ pp + 1)
    (hmc : ¬ mid < c) (HLH : Hid (a = lo ∧ c = hi)) :
    Calls Tryz.prog 50 #[.slice (some ⟨b, 0, none⟩) mm cap, .int .i64 a, .int .i64 c, .int .i64 d, cmpVal T] w (SymPost (Bef n LL) LL b mm w0 f a d) := by
  unfold symSpec cmpVal at ih
  have IH := Lib.hid ih
  have HAT := Lib.hid hat
  have HN := Lib.hid hn
  have HV := Lib.hid hv
  have HK := Lib.hid hK
  have TR := Lib.hid (Bef.trans hn hv)
  have M1 := Lib.hid (asc_mon asc1)
  have M2 := Lib.hid (asc_mon asc2)
  have A1 := Lib.hid asc1
  have A2 := Lib.hid asc2
  have TG := Lib.hid tags
  have TG2 : Hid (∀ x y, a ≤ x → x < c → c ≤ y → y < d → f x < f y) := Lib.hid (fun x y h1 h2 h3 h4 => tags _ (V.mem_seg.2 ⟨x, h1, h2, rfl⟩) _ (V.mem_seg.2 ⟨y, h3, h4, rfl⟩))
  have ht1 : ((c : Int) - (a : Int) == 1) = false := by rw [beq_eq_false_iff_ne]; omega
  have ht2 : ((d : Int) - (c : Int) == 1) = false := by rw [beq_eq_false_iff_ne]; omega
  have HZ1 : Hid (((a : Int) + (d : Int)) / 2 = (mid : Int)) := Lib.hid (by omega)
  have HZ2 : Hid ((mid : Int) + (c : Int) = (nn : Int)) := Lib.hid (by omega)
  have HZ3 : Hid ((nn : Int) - 1 = (pp : Int)) := Lib.hid (by omega)
  have hall : a ≤ lo ∧ lo ≤ hi ∧ hi ≤ c ∧ (∀ x, lo ≤ x → x < hi → c ≤ pp - x ∧ pp - x < d) ∧ (lo = a ∨ nn - lo = d) ∧ (hi = c ∨ nn - hi = c) ∧ mid ≤ d ∧ lo ≤ nn := by
    obtain ⟨e1, e2⟩ := HLH.out
    subst e1 e2
    exact ⟨by omega, by omega, by omega, fun x _ _ => by omega, by omega, by omega, by omega, by omega⟩
  obtain ⟨l1, l2, l3, l4, lA, lB, l7, l8⟩ := hall
  have L4 := Lib.hid l4
  have LA := Lib.hid lA
  have LB := Lib.hid lB
  clear ih hat hn hv hK asc1 asc2 tags l4 lA lB
  have htd : decide (((a : Int) + (d : Int)) / 2 < (c : Int)) = false := by rw [HZ1.out]; simp; omega
  unfold cmpVal
  go_enter Tryz.func50, Tryz.ntmps50
  obtain ⟨e1, e2⟩ := HLH.out
  subst e1 e2
  have HEN : Hid (∀ st, a ≤ st → nn - st ≤ d) := Lib.hid (fun st h => by omega)
  have l9 : c ≤ mid := by omega
  clear HLH
  go_wp2
  rw [HZ1.out]
  rw [HZ2.out]
  rw [HZ3.out]
  go_loopw [20, 21] (fun i j wr => ∃ p q : Nat, a ≤ p ∧ p ≤ q ∧ q ≤ c ∧ i = .int .i64 p ∧ j = .int .i64 q ∧ At LL b mm w0 f wr ∧ (∀ x, a ≤ x → x < p → Bef n LL (f x) (f (pp - x))) ∧ ∀ x, q ≤ x → x < c → Bef n LL (f (pp - x)) (f x)) (fun i j _ => (intOf j - intOf i).toNat)
  case atStart => exact ⟨a, c, Nat.le_refl _, l2, Nat.le_refl _, rfl, rfl, HAT.out, fun x h1 h2 => by omega, fun x h1 h2 => by omega⟩
  case round =>
    obtain ⟨p, q, hp1, hpq, hq, rfl, rfl, hat, hlo, hhi⟩ := hrel
    have HA := Lib.hid hat
    have HLO := Lib.hid hlo
    have HHI := Lib.hid hhi
    clear hat hlo hhi
    by_cases hlt : p < q
    · obtain ⟨h, hh⟩ : ∃ h : Nat, h = (p + q) / 2 := ⟨_, rfl⟩
      have hh1 : p ≤ h := by omega
      have hh2 : h < q := by omega
      have hz : ((p : Int) + (q : Int)) / 2 = (h : Int) := by omega
      have HZ := Lib.hid hz
      have hr := L4.out h (by omega) (by omega)
      obtain ⟨hr1, hr2⟩ := hr
      have d0 := HA.out.row.cell (pp - h) (by omega)
      have d2 := HA.out.row.cell h (by omega)
      have HV0 := Lib.hid (HV.out (f (pp - h)))
      have HV1 := Lib.hid (HV.out (f h))
      have hat2 := TG2.out h (pp - h) (by omega) (by omega) hr1 hr2
      have hcmp : V.cmpV n (LL (f (pp - h))) (LL (f h)) < 0 ↔ Bef n LL (f (pp - h)) (f h) := Bef.right hat2
      have hleft : ¬ V.cmpV n (LL (f (pp - h))) (LL (f h)) < 0 → Bef n LL (f h) (f (pp - h)) := Bef.left HN.out HV.out hat2
      obtain ⟨cc, hc⟩ : ∃ cc, V.cmpV n (LL (f (pp - h))) (LL (f h)) = cc := ⟨_, rfl⟩
      have HC := Lib.hid hc
      rw [hc] at hcmp hleft
      have HNO : Hid (¬ cc < 0 → ∀ x, a ≤ x → x < h + 1 → Bef n LL (f x) (f (pp - x))) := Lib.hid (fun g x g1 g2 => by
        by_cases e : x = h
        · subst e; exact hleft g
        · have k1 := M1.out x h (by omega) (by omega) (by omega)
          have k3 := L4.out x g1 (by omega)
          have k2 := M2.out (pp - h) (pp - x) hr1 (by omega) (by omega)
          exact TR.out _ _ _ k1 (TR.out _ _ _ (hleft g) k2))
      have HYES : Hid (cc < 0 → ∀ x, h ≤ x → x < c → Bef n LL (f (pp - x)) (f x)) := Lib.hid (fun g x g1 g2 => by
        by_cases e : x = h
        · subst e; exact hcmp.1 g
        · have k1 := M1.out h x (by omega) (by omega) (by omega)
          have k3 := L4.out x (by omega) g2
          have k2 := M2.out (pp - x) (pp - h) (by omega) (by omega) (by omega)
          exact TR.out _ _ _ k2 (TR.out _ _ _ (hcmp.1 g) k1))
      have hi1 : (0 : Int) ≤ (h : Int) := by omega
      have hi2 : (h : Int) < (mm : Int) := by omega
      have hw1 : IntKind.i64.wrap ((pp : Int) - (h : Int)) = (pp : Int) - (h : Int) := IntWalk.i64_in _ (by omega)
      have hn1 : ((pp : Int) - (h : Int)).toNat = pp - h := by omega
      have hi3 : (0 : Int) ≤ (pp : Int) - (h : Int) := by omega
      have hi4 : (pp : Int) - (h : Int) < (mm : Int) := by omega
      have hi5 : (h : Int) ≤ (pp : Int) := by omega
      have hi6 : pp - h < mm := by omega
      clear hz hh hat2 hcmp hleft hc
      generalize hy0 : LL (f (pp - h)) = y0 at *
      generalize hy1 : LL (f h) = y1 at *
      clear hy0 hy1
      go_wp2
      rw [HZ.out]
      go_still_tail 11, (by kernel_rfl)
      change wpList _ _ _ _ _ wr.drew
      have HA2 := Lib.hid (HA.out.below (Below.refl _ wr).drew)
      clear d0 d2
      generalize wr.drew = W1 at *
      go_wp2_with fail
      refine (HK.out y0 y1 _ HV0.out HV1.out HA2.out.max).mono ?_
      rintro e W2 ⟨rfl, hb2⟩
      have HA3 := Lib.hid (HA2.out.below hb2)
      clear hb2
      rw [HC.out]
      by_cases hcn : cc < 0
      · have hb1 : decide (cc < 0) = true := by simpa using hcn
        have hb2 : (!decide (cc < 0)) = false := by rw [hb1]; rfl
        go_wp2
        go_roundw
        case rel => exact ⟨p, h, hp1, hh1, by omega, rfl, by go_num, HA3.out, HLO.out, HYES.out hcn⟩
        case measure => simp [intOf]; omega
      · have hb1 : decide (cc < 0) = false := by simpa using hcn
        have hb2 : (!decide (cc < 0)) = true := by rw [hb1]; rfl
        go_wp2
        go_roundw
        case rel => exact ⟨h + 1, q, by omega, by omega, hq, by go_num, rfl, HA3.out, HNO.out hcn, HHI.out⟩
        case measure => simp [intOf]; omega
    · obtain rfl : p = q := by omega
      obtain ⟨wo, rfl⟩ : ∃ wo : World, wo = wr := ⟨_, rfl⟩
      obtain ⟨en, hen⟩ : ∃ en : Nat, en = nn - p := ⟨_, rfl⟩
      have e4 := HEN.out p hp1
      have e1 : a ≤ p := by omega
      have e2 : p ≤ c := by omega
      have e3 : c ≤ en := by omega
      have e4' : en ≤ d := by omega
      have e5 : p + en = mid + c := by omega
      have HST : Hid _ := Lib.hid (V.merge_step TR.out A1.out A2.out TG.out e1 e2 e3 e4' e5 (fun k1 k2 => by
        by_cases g : a ≤ p - 1
        · have := HLO.out (p - 1) g (by omega)
          rwa [show pp - (p - 1) = en by omega] at this
        · have := LA.out; omega) (fun k1 k2 => by
        by_cases g : p < c
        · have := HHI.out p (Nat.le_refl _) g
          rwa [show pp - p = en - 1 by omega] at this
        · have := LB.out; omega))
      have HZ5 : Hid ((nn : Int) - (p : Int) = (en : Int)) := Lib.hid (by omega)
      have E5 := Lib.hid e5
      have e6 : p ≤ mid := by omega
      have e7 : mid ≤ en := by omega
      clear hlt hen e4 e5 HLO HHI
      have k1 : (p < c ∧ c < en) ∨ (p < c ∧ ¬ c < en) ∨ ¬ p < c := by omega
      have k2 : (a < p ∧ p < mid) ∨ (a < p ∧ ¬ p < mid) ∨ ¬ a < p := by omega
      have k3 : (mid < en ∧ en < d) ∨ (mid < en ∧ ¬ en < d) ∨ ¬ mid < en := by omega
      rcases k1 with ⟨x1, x2⟩ | ⟨x1, x2⟩ | x1
      · have x2' : (c : Int) < (nn : Int) - (p : Int) := by have := HZ5.out; omega
        go_wp2_with fail
        rw [HZ5.out]
        refine (rotate_any LL f b mm cap p c en _ _ w0 HA.out hm x1 x2 (by omega)).mono ?_
        rintro e w1 ⟨rfl, h5⟩
        have HA1 := Lib.hid h5
        clear h5
        rcases k2 with ⟨y1, y2⟩ | ⟨y1, y2⟩ | y1
        · go_wp2_with fail
          try rw [HZ5.out]
          refine (IH.out a p mid (V.rot f p c en) _ (by omega) y1 y2 (by omega) HA1.out HST.out.1.1 HST.out.1.2.1 HST.out.1.2.2).mono ?_
          rintro e w2 ⟨rfl, g, hg, hat2⟩
          have HG := Lib.hid hg
          have HA2 := Lib.hid hat2
          clear hg hat2
          rcases k3 with ⟨z1, z2⟩ | ⟨z1, z2⟩ | z1
          · have y1' : (mid : Int) < (nn : Int) - (p : Int) := by have := HZ5.out; omega
            have y2' : (nn : Int) - (p : Int) < (d : Int) := by have := HZ5.out; omega
            have y1'' : (mid : Int) < (en : Int) := by omega
            have y2'' : (en : Int) < (d : Int) := by omega
            go_wp2_with fail
            try rw [HZ5.out]
            refine (IH.out mid en d g _ (by omega) z1 z2 hdm HA2.out (by rw [V.seg_congr (fun x h _ => HG.out.out x (.inr h))]; exact HST.out.2.1.1) (by rw [V.seg_congr (fun x h _ => HG.out.out x (.inr (by omega)))]; exact HST.out.2.1.2.1) (by rw [V.seg_congr (fun x h _ => HG.out.out x (.inr h)), V.seg_congr (a := en) (fun x h _ => HG.out.out x (.inr (by omega)))]; exact HST.out.2.1.2.2)).mono ?_
            rintro e w5 ⟨rfl, h, hh, hat5⟩
            have HH := Lib.hid hh
            have HA5 := Lib.hid hat5
            clear hh hat5
            go_wp2
            go_end0
            exact ⟨rfl, h, HST.out.2.2 g h HG.out HH.out, HA5.out⟩
          · have y1' : (mid : Int) < (nn : Int) - (p : Int) := by have := HZ5.out; omega
            have y2' : ¬ (nn : Int) - (p : Int) < (d : Int) := by have := HZ5.out; omega
            have y1'' : (mid : Int) < (en : Int) := by omega
            have y2'' : ¬ (en : Int) < (d : Int) := by omega
            have HH : Hid (V.Merged (Bef n LL) g g mid d) := Lib.hid (merged_edge e7 e4' (by omega) (by rw [V.seg_congr (fun x h _ => HG.out.out x (.inr h))]; exact HST.out.2.1.1) (by rw [V.seg_congr (fun x h _ => HG.out.out x (.inr (by omega)))]; exact HST.out.2.1.2.1))
            go_wp2
            go_end0
            exact ⟨rfl, g, HST.out.2.2 g g HG.out HH.out, HA2.out⟩
          · have y1' : ¬ (mid : Int) < (nn : Int) - (p : Int) := by have := HZ5.out; omega
            have y1'' : ¬ (mid : Int) < (en : Int) := by omega
            have HH : Hid (V.Merged (Bef n LL) g g mid d) := Lib.hid (merged_edge e7 e4' (by omega) (by rw [V.seg_congr (fun x h _ => HG.out.out x (.inr h))]; exact HST.out.2.1.1) (by rw [V.seg_congr (fun x h _ => HG.out.out x (.inr (by omega)))]; exact HST.out.2.1.2.1))
            go_wp2
            go_end0
            exact ⟨rfl, g, HST.out.2.2 g g HG.out HH.out, HA2.out⟩
        · have HG : Hid (V.Merged (Bef n LL) (V.rot f p c en) (V.rot f p c en) a mid) := Lib.hid (merged_edge e1 e6 (by omega) HST.out.1.1 HST.out.1.2.1)
          have HA2 := HA1
          rcases k3 with ⟨z1, z2⟩ | ⟨z1, z2⟩ | z1
          · have y1' : (mid : Int) < (nn : Int) - (p : Int) := by have := HZ5.out; omega
            have y2' : (nn : Int) - (p : Int) < (d : Int) := by have := HZ5.out; omega
            have y1'' : (mid : Int) < (en : Int) := by omega
            have y2'' : (en : Int) < (d : Int) := by omega
            go_wp2_with fail
            try rw [HZ5.out]
            refine (IH.out mid en d (V.rot f p c en) _ (by omega) z1 z2 hdm HA2.out (by rw [V.seg_congr (fun x h _ => HG.out.out x (.inr h))]; exact HST.out.2.1.1) (by rw [V.seg_congr (fun x h _ => HG.out.out x (.inr (by omega)))]; exact HST.out.2.1.2.1) (by rw [V.seg_congr (fun x h _ => HG.out.out x (.inr h)), V.seg_congr (a := en) (fun x h _ => HG.out.out x (.inr (by omega)))]; exact HST.out.2.1.2.2)).mono ?_
            rintro e w5 ⟨rfl, h, hh, hat5⟩
            have HH := Lib.hid hh
            have HA5 := Lib.hid hat5
            clear hh hat5
            go_wp2
            go_end0
            exact ⟨rfl, h, HST.out.2.2 (V.rot f p c en) h HG.out HH.out, HA5.out⟩
          · have y1' : (mid : Int) < (nn : Int) - (p : Int) := by have := HZ5.out; omega
            have y2' : ¬ (nn : Int) - (p : Int) < (d : Int) := by have := HZ5.out; omega
            have y1'' : (mid : Int) < (en : Int) := by omega
            have y2'' : ¬ (en : Int) < (d : Int) := by omega
            have HH : Hid (V.Merged (Bef n LL) (V.rot f p c en) (V.rot f p c en) mid d) := Lib.hid (merged_edge e7 e4' (by omega) (by rw [V.seg_congr (fun x h _ => HG.out.out x (.inr h))]; exact HST.out.2.1.1) (by rw [V.seg_congr (fun x h _ => HG.out.out x (.inr (by omega)))]; exact HST.out.2.1.2.1))
            go_wp2
            go_end0
            exact ⟨rfl, (V.rot f p c en), HST.out.2.2 (V.rot f p c en) (V.rot f p c en) HG.out HH.out, HA2.out⟩
          · have y1' : ¬ (mid : Int) < (nn : Int) - (p : Int) := by have := HZ5.out; omega
            have y1'' : ¬ (mid : Int) < (en : Int) := by omega
            have HH : Hid (V.Merged (Bef n LL) (V.rot f p c en) (V.rot f p c en) mid d) := Lib.hid (merged_edge e7 e4' (by omega) (by rw [V.seg_congr (fun x h _ => HG.out.out x (.inr h))]; exact HST.out.2.1.1) (by rw [V.seg_congr (fun x h _ => HG.out.out x (.inr (by omega)))]; exact HST.out.2.1.2.1))
            go_wp2
            go_end0
            exact ⟨rfl, (V.rot f p c en), HST.out.2.2 (V.rot f p c en) (V.rot f p c en) HG.out HH.out, HA2.out⟩
        · have HG : Hid (V.Merged (Bef n LL) (V.rot f p c en) (V.rot f p c en) a mid) := Lib.hid (merged_edge e1 e6 (by omega) HST.out.1.1 HST.out.1.2.1)
          have HA2 := HA1
          rcases k3 with ⟨z1, z2⟩ | ⟨z1, z2⟩ | z1
          · have y1' : (mid : Int) < (nn : Int) - (p : Int) := by have := HZ5.out; omega
            have y2' : (nn : Int) - (p : Int) < (d : Int) := by have := HZ5.out; omega
            have y1'' : (mid : Int) < (en : Int) := by omega
            have y2'' : (en : Int) < (d : Int) := by omega
            go_wp2_with fail
            try rw [HZ5.out]
            refine (IH.out mid en d (V.rot f p c en) _ (by omega) z1 z2 hdm HA2.out (by rw [V.seg_congr (fun x h _ => HG.out.out x (.inr h))]; exact HST.out.2.1.1) (by rw [V.seg_congr (fun x h _ => HG.out.out x (.inr (by omega)))]; exact HST.out.2.1.2.1) (by rw [V.seg_congr (fun x h _ => HG.out.out x (.inr h)), V.seg_congr (a := en) (fun x h _ => HG.out.out x (.inr (by omega)))]; exact HST.out.2.1.2.2)).mono ?_
            rintro e w5 ⟨rfl, h, hh, hat5⟩
            have HH := Lib.hid hh
            have HA5 := Lib.hid hat5
            clear hh hat5
            go_wp2
            go_end0
            exact ⟨rfl, h, HST.out.2.2 (V.rot f p c en) h HG.out HH.out, HA5.out⟩
          · have y1' : (mid : Int) < (nn : Int) - (p : Int) := by have := HZ5.out; omega
            have y2' : ¬ (nn : Int) - (p : Int) < (d : Int) := by have := HZ5.out; omega
            have y1'' : (mid : Int) < (en : Int) := by omega
            have y2'' : ¬ (en : Int) < (d : Int) := by omega
            have HH : Hid (V.Merged (Bef n LL) (V.rot f p c en) (V.rot f p c en) mid d) := Lib.hid (merged_edge e7 e4' (by omega) (by rw [V.seg_congr (fun x h _ => HG.out.out x (.inr h))]; exact HST.out.2.1.1) (by rw [V.seg_congr (fun x h _ => HG.out.out x (.inr (by omega)))]; exact HST.out.2.1.2.1))
            go_wp2
            go_end0
            exact ⟨rfl, (V.rot f p c en), HST.out.2.2 (V.rot f p c en) (V.rot f p c en) HG.out HH.out, HA2.out⟩
          · have y1' : ¬ (mid : Int) < (nn : Int) - (p : Int) := by have := HZ5.out; omega
            have y1'' : ¬ (mid : Int) < (en : Int) := by omega
            have HH : Hid (V.Merged (Bef n LL) (V.rot f p c en) (V.rot f p c en) mid d) := Lib.hid (merged_edge e7 e4' (by omega) (by rw [V.seg_congr (fun x h _ => HG.out.out x (.inr h))]; exact HST.out.2.1.1) (by rw [V.seg_congr (fun x h _ => HG.out.out x (.inr (by omega)))]; exact HST.out.2.1.2.1))
            go_wp2
            go_end0
            exact ⟨rfl, (V.rot f p c en), HST.out.2.2 (V.rot f p c en) (V.rot f p c en) HG.out HH.out, HA2.out⟩
      · have x2' : ¬ (c : Int) < (nn : Int) - (p : Int) := by have := HZ5.out; omega
        have HA1 : Hid (At LL b mm w0 (V.rot f p c en) wo) := Lib.hid (by rw [rot_id f (by omega) e2 e3]; exact HA.out)
        rcases k2 with ⟨y1, y2⟩ | ⟨y1, y2⟩ | y1
        · go_wp2_with fail
          try rw [HZ5.out]
          refine (IH.out a p mid (V.rot f p c en) _ (by omega) y1 y2 (by omega) HA1.out HST.out.1.1 HST.out.1.2.1 HST.out.1.2.2).mono ?_
          rintro e w2 ⟨rfl, g, hg, hat2⟩
          have HG := Lib.hid hg
          have HA2 := Lib.hid hat2
          clear hg hat2
          rcases k3 with ⟨z1, z2⟩ | ⟨z1, z2⟩ | z1
          · have y1' : (mid : Int) < (nn : Int) - (p : Int) := by have := HZ5.out; omega
            have y2' : (nn : Int) - (p : Int) < (d : Int) := by have := HZ5.out; omega
            have y1'' : (mid : Int) < (en : Int) := by omega
            have y2'' : (en : Int) < (d : Int) := by omega
            go_wp2_with fail
            try rw [HZ5.out]
            refine (IH.out mid en d g _ (by omega) z1 z2 hdm HA2.out (by rw [V.seg_congr (fun x h _ => HG.out.out x (.inr h))]; exact HST.out.2.1.1) (by rw [V.seg_congr (fun x h _ => HG.out.out x (.inr (by omega)))]; exact HST.out.2.1.2.1) (by rw [V.seg_congr (fun x h _ => HG.out.out x (.inr h)), V.seg_congr (a := en) (fun x h _ => HG.out.out x (.inr (by omega)))]; exact HST.out.2.1.2.2)).mono ?_
            rintro e w5 ⟨rfl, h, hh, hat5⟩
            have HH := Lib.hid hh
            have HA5 := Lib.hid hat5
            clear hh hat5
            go_wp2
            go_end0
            exact ⟨rfl, h, HST.out.2.2 g h HG.out HH.out, HA5.out⟩
          · have y1' : (mid : Int) < (nn : Int) - (p : Int) := by have := HZ5.out; omega
            have y2' : ¬ (nn : Int) - (p : Int) < (d : Int) := by have := HZ5.out; omega
            have y1'' : (mid : Int) < (en : Int) := by omega
            have y2'' : ¬ (en : Int) < (d : Int) := by omega
            have HH : Hid (V.Merged (Bef n LL) g g mid d) := Lib.hid (merged_edge e7 e4' (by omega) (by rw [V.seg_congr (fun x h _ => HG.out.out x (.inr h))]; exact HST.out.2.1.1) (by rw [V.seg_congr (fun x h _ => HG.out.out x (.inr (by omega)))]; exact HST.out.2.1.2.1))
            go_wp2
            go_end0
            exact ⟨rfl, g, HST.out.2.2 g g HG.out HH.out, HA2.out⟩
          · have y1' : ¬ (mid : Int) < (nn : Int) - (p : Int) := by have := HZ5.out; omega
            have y1'' : ¬ (mid : Int) < (en : Int) := by omega
            have HH : Hid (V.Merged (Bef n LL) g g mid d) := Lib.hid (merged_edge e7 e4' (by omega) (by rw [V.seg_congr (fun x h _ => HG.out.out x (.inr h))]; exact HST.out.2.1.1) (by rw [V.seg_congr (fun x h _ => HG.out.out x (.inr (by omega)))]; exact HST.out.2.1.2.1))
            go_wp2
            go_end0
            exact ⟨rfl, g, HST.out.2.2 g g HG.out HH.out, HA2.out⟩
        · have HG : Hid (V.Merged (Bef n LL) (V.rot f p c en) (V.rot f p c en) a mid) := Lib.hid (merged_edge e1 e6 (by omega) HST.out.1.1 HST.out.1.2.1)
          have HA2 := HA1
          rcases k3 with ⟨z1, z2⟩ | ⟨z1, z2⟩ | z1
          · have y1' : (mid : Int) < (nn : Int) - (p : Int) := by have := HZ5.out; omega
            have y2' : (nn : Int) - (p : Int) < (d : Int) := by have := HZ5.out; omega
            have y1'' : (mid : Int) < (en : Int) := by omega
            have y2'' : (en : Int) < (d : Int) := by omega
            go_wp2_with fail
            try rw [HZ5.out]
            refine (IH.out mid en d (V.rot f p c en) _ (by omega) z1 z2 hdm HA2.out (by rw [V.seg_congr (fun x h _ => HG.out.out x (.inr h))]; exact HST.out.2.1.1) (by rw [V.seg_congr (fun x h _ => HG.out.out x (.inr (by omega)))]; exact HST.out.2.1.2.1) (by rw [V.seg_congr (fun x h _ => HG.out.out x (.inr h)), V.seg_congr (a := en) (fun x h _ => HG.out.out x (.inr (by omega)))]; exact HST.out.2.1.2.2)).mono ?_
            rintro e w5 ⟨rfl, h, hh, hat5⟩
            have HH := Lib.hid hh
            have HA5 := Lib.hid hat5
            clear hh hat5
            go_wp2
            go_end0
            exact ⟨rfl, h, HST.out.2.2 (V.rot f p c en) h HG.out HH.out, HA5.out⟩
          · have y1' : (mid : Int) < (nn : Int) - (p : Int) := by have := HZ5.out; omega
            have y2' : ¬ (nn : Int) - (p : Int) < (d : Int) := by have := HZ5.out; omega
            have y1'' : (mid : Int) < (en : Int) := by omega
            have y2'' : ¬ (en : Int) < (d : Int) := by omega
            have HH : Hid (V.Merged (Bef n LL) (V.rot f p c en) (V.rot f p c en) mid d) := Lib.hid (merged_edge e7 e4' (by omega) (by rw [V.seg_congr (fun x h _ => HG.out.out x (.inr h))]; exact HST.out.2.1.1) (by rw [V.seg_congr (fun x h _ => HG.out.out x (.inr (by omega)))]; exact HST.out.2.1.2.1))
            go_wp2
            go_end0
            exact ⟨rfl, (V.rot f p c en), HST.out.2.2 (V.rot f p c en) (V.rot f p c en) HG.out HH.out, HA2.out⟩
          · have y1' : ¬ (mid : Int) < (nn : Int) - (p : Int) := by have := HZ5.out; omega
            have y1'' : ¬ (mid : Int) < (en : Int) := by omega
            have HH : Hid (V.Merged (Bef n LL) (V.rot f p c en) (V.rot f p c en) mid d) := Lib.hid (merged_edge e7 e4' (by omega) (by rw [V.seg_congr (fun x h _ => HG.out.out x (.inr h))]; exact HST.out.2.1.1) (by rw [V.seg_congr (fun x h _ => HG.out.out x (.inr (by omega)))]; exact HST.out.2.1.2.1))
            go_wp2
            go_end0
            exact ⟨rfl, (V.rot f p c en), HST.out.2.2 (V.rot f p c en) (V.rot f p c en) HG.out HH.out, HA2.out⟩
        · have HG : Hid (V.Merged (Bef n LL) (V.rot f p c en) (V.rot f p c en) a mid) := Lib.hid (merged_edge e1 e6 (by omega) HST.out.1.1 HST.out.1.2.1)
          have HA2 := HA1
          rcases k3 with ⟨z1, z2⟩ | ⟨z1, z2⟩ | z1
          · have y1' : (mid : Int) < (nn : Int) - (p : Int) := by have := HZ5.out; omega
            have y2' : (nn : Int) - (p : Int) < (d : Int) := by have := HZ5.out; omega
            have y1'' : (mid : Int) < (en : Int) := by omega
            have y2'' : (en : Int) < (d : Int) := by omega
            go_wp2_with fail
            try rw [HZ5.out]
            refine (IH.out mid en d (V.rot f p c en) _ (by omega) z1 z2 hdm HA2.out (by rw [V.seg_congr (fun x h _ => HG.out.out x (.inr h))]; exact HST.out.2.1.1) (by rw [V.seg_congr (fun x h _ => HG.out.out x (.inr (by omega)))]; exact HST.out.2.1.2.1) (by rw [V.seg_congr (fun x h _ => HG.out.out x (.inr h)), V.seg_congr (a := en) (fun x h _ => HG.out.out x (.inr (by omega)))]; exact HST.out.2.1.2.2)).mono ?_
            rintro e w5 ⟨rfl, h, hh, hat5⟩
            have HH := Lib.hid hh
            have HA5 := Lib.hid hat5
            clear hh hat5
            go_wp2
            go_end0
            exact ⟨rfl, h, HST.out.2.2 (V.rot f p c en) h HG.out HH.out, HA5.out⟩
          · have y1' : (mid : Int) < (nn : Int) - (p : Int) := by have := HZ5.out; omega
            have y2' : ¬ (nn : Int) - (p : Int) < (d : Int) := by have := HZ5.out; omega
            have y1'' : (mid : Int) < (en : Int) := by omega
            have y2'' : ¬ (en : Int) < (d : Int) := by omega
            have HH : Hid (V.Merged (Bef n LL) (V.rot f p c en) (V.rot f p c en) mid d) := Lib.hid (merged_edge e7 e4' (by omega) (by rw [V.seg_congr (fun x h _ => HG.out.out x (.inr h))]; exact HST.out.2.1.1) (by rw [V.seg_congr (fun x h _ => HG.out.out x (.inr (by omega)))]; exact HST.out.2.1.2.1))
            go_wp2
            go_end0
            exact ⟨rfl, (V.rot f p c en), HST.out.2.2 (V.rot f p c en) (V.rot f p c en) HG.out HH.out, HA2.out⟩
          · have y1' : ¬ (mid : Int) < (nn : Int) - (p : Int) := by have := HZ5.out; omega
            have y1'' : ¬ (mid : Int) < (en : Int) := by omega
            have HH : Hid (V.Merged (Bef n LL) (V.rot f p c en) (V.rot f p c en) mid d) := Lib.hid (merged_edge e7 e4' (by omega) (by rw [V.seg_congr (fun x h _ => HG.out.out x (.inr h))]; exact HST.out.2.1.1) (by rw [V.seg_congr (fun x h _ => HG.out.out x (.inr (by omega)))]; exact HST.out.2.1.2.1))
            go_wp2
            go_end0
            exact ⟨rfl, (V.rot f p c en), HST.out.2.2 (V.rot f p c en) (V.rot f p c en) HG.out HH.out, HA2.out⟩
      · have HA1 : Hid (At LL b mm w0 (V.rot f p c en) wo) := Lib.hid (by rw [rot_id f (by omega) e2 e3]; exact HA.out)
        rcases k2 with ⟨y1, y2⟩ | ⟨y1, y2⟩ | y1
        · go_wp2_with fail
          try rw [HZ5.out]
          refine (IH.out a p mid (V.rot f p c en) _ (by omega) y1 y2 (by omega) HA1.out HST.out.1.1 HST.out.1.2.1 HST.out.1.2.2).mono ?_
          rintro e w2 ⟨rfl, g, hg, hat2⟩
          have HG := Lib.hid hg
          have HA2 := Lib.hid hat2
          clear hg hat2
          rcases k3 with ⟨z1, z2⟩ | ⟨z1, z2⟩ | z1
          · have y1' : (mid : Int) < (nn : Int) - (p : Int) := by have := HZ5.out; omega
            have y2' : (nn : Int) - (p : Int) < (d : Int) := by have := HZ5.out; omega
            have y1'' : (mid : Int) < (en : Int) := by omega
            have y2'' : (en : Int) < (d : Int) := by omega
            go_wp2_with fail
            try rw [HZ5.out]
            refine (IH.out mid en d g _ (by omega) z1 z2 hdm HA2.out (by rw [V.seg_congr (fun x h _ => HG.out.out x (.inr h))]; exact HST.out.2.1.1) (by rw [V.seg_congr (fun x h _ => HG.out.out x (.inr (by omega)))]; exact HST.out.2.1.2.1) (by rw [V.seg_congr (fun x h _ => HG.out.out x (.inr h)), V.seg_congr (a := en) (fun x h _ => HG.out.out x (.inr (by omega)))]; exact HST.out.2.1.2.2)).mono ?_
            rintro e w5 ⟨rfl, h, hh, hat5⟩
            have HH := Lib.hid hh
            have HA5 := Lib.hid hat5
            clear hh hat5
            go_wp2
            go_end0
            exact ⟨rfl, h, HST.out.2.2 g h HG.out HH.out, HA5.out⟩
          · have y1' : (mid : Int) < (nn : Int) - (p : Int) := by have := HZ5.out; omega
            have y2' : ¬ (nn : Int) - (p : Int) < (d : Int) := by have := HZ5.out; omega
            have y1'' : (mid : Int) < (en : Int) := by omega
            have y2'' : ¬ (en : Int) < (d : Int) := by omega
            have HH : Hid (V.Merged (Bef n LL) g g mid d) := Lib.hid (merged_edge e7 e4' (by omega) (by rw [V.seg_congr (fun x h _ => HG.out.out x (.inr h))]; exact HST.out.2.1.1) (by rw [V.seg_congr (fun x h _ => HG.out.out x (.inr (by omega)))]; exact HST.out.2.1.2.1))
            go_wp2
            go_end0
            exact ⟨rfl, g, HST.out.2.2 g g HG.out HH.out, HA2.out⟩
          · have y1' : ¬ (mid : Int) < (nn : Int) - (p : Int) := by have := HZ5.out; omega
            have y1'' : ¬ (mid : Int) < (en : Int) := by omega
            have HH : Hid (V.Merged (Bef n LL) g g mid d) := Lib.hid (merged_edge e7 e4' (by omega) (by rw [V.seg_congr (fun x h _ => HG.out.out x (.inr h))]; exact HST.out.2.1.1) (by rw [V.seg_congr (fun x h _ => HG.out.out x (.inr (by omega)))]; exact HST.out.2.1.2.1))
            go_wp2
            go_end0
            exact ⟨rfl, g, HST.out.2.2 g g HG.out HH.out, HA2.out⟩
        · have HG : Hid (V.Merged (Bef n LL) (V.rot f p c en) (V.rot f p c en) a mid) := Lib.hid (merged_edge e1 e6 (by omega) HST.out.1.1 HST.out.1.2.1)
          have HA2 := HA1
          rcases k3 with ⟨z1, z2⟩ | ⟨z1, z2⟩ | z1
          · have y1' : (mid : Int) < (nn : Int) - (p : Int) := by have := HZ5.out; omega
            have y2' : (nn : Int) - (p : Int) < (d : Int) := by have := HZ5.out; omega
            have y1'' : (mid : Int) < (en : Int) := by omega
            have y2'' : (en : Int) < (d : Int) := by omega
            go_wp2_with fail
            try rw [HZ5.out]
            refine (IH.out mid en d (V.rot f p c en) _ (by omega) z1 z2 hdm HA2.out (by rw [V.seg_congr (fun x h _ => HG.out.out x (.inr h))]; exact HST.out.2.1.1) (by rw [V.seg_congr (fun x h _ => HG.out.out x (.inr (by omega)))]; exact HST.out.2.1.2.1) (by rw [V.seg_congr (fun x h _ => HG.out.out x (.inr h)), V.seg_congr (a := en) (fun x h _ => HG.out.out x (.inr (by omega)))]; exact HST.out.2.1.2.2)).mono ?_
            rintro e w5 ⟨rfl, h, hh, hat5⟩
            have HH := Lib.hid hh
            have HA5 := Lib.hid hat5
            clear hh hat5
            go_wp2
            go_end0
            exact ⟨rfl, h, HST.out.2.2 (V.rot f p c en) h HG.out HH.out, HA5.out⟩
          · have y1' : (mid : Int) < (nn : Int) - (p : Int) := by have := HZ5.out; omega
            have y2' : ¬ (nn : Int) - (p : Int) < (d : Int) := by have := HZ5.out; omega
            have y1'' : (mid : Int) < (en : Int) := by omega
            have y2'' : ¬ (en : Int) < (d : Int) := by omega
            have HH : Hid (V.Merged (Bef n LL) (V.rot f p c en) (V.rot f p c en) mid d) := Lib.hid (merged_edge e7 e4' (by omega) (by rw [V.seg_congr (fun x h _ => HG.out.out x (.inr h))]; exact HST.out.2.1.1) (by rw [V.seg_congr (fun x h _ => HG.out.out x (.inr (by omega)))]; exact HST.out.2.1.2.1))
            go_wp2
            go_end0
            exact ⟨rfl, (V.rot f p c en), HST.out.2.2 (V.rot f p c en) (V.rot f p c en) HG.out HH.out, HA2.out⟩
          · have y1' : ¬ (mid : Int) < (nn : Int) - (p : Int) := by have := HZ5.out; omega
            have y1'' : ¬ (mid : Int) < (en : Int) := by omega
            have HH : Hid (V.Merged (Bef n LL) (V.rot f p c en) (V.rot f p c en) mid d) := Lib.hid (merged_edge e7 e4' (by omega) (by rw [V.seg_congr (fun x h _ => HG.out.out x (.inr h))]; exact HST.out.2.1.1) (by rw [V.seg_congr (fun x h _ => HG.out.out x (.inr (by omega)))]; exact HST.out.2.1.2.1))
            go_wp2
            go_end0
            exact ⟨rfl, (V.rot f p c en), HST.out.2.2 (V.rot f p c en) (V.rot f p c en) HG.out HH.out, HA2.out⟩
        · have HG : Hid (V.Merged (Bef n LL) (V.rot f p c en) (V.rot f p c en) a mid) := Lib.hid (merged_edge e1 e6 (by omega) HST.out.1.1 HST.out.1.2.1)
          have HA2 := HA1
          rcases k3 with ⟨z1, z2⟩ | ⟨z1, z2⟩ | z1
          · have y1' : (mid : Int) < (nn : Int) - (p : Int) := by have := HZ5.out; omega
            have y2' : (nn : Int) - (p : Int) < (d : Int) := by have := HZ5.out; omega
            have y1'' : (mid : Int) < (en : Int) := by omega
            have y2'' : (en : Int) < (d : Int) := by omega
            go_wp2_with fail
            try rw [HZ5.out]
            refine (IH.out mid en d (V.rot f p c en) _ (by omega) z1 z2 hdm HA2.out (by rw [V.seg_congr (fun x h _ => HG.out.out x (.inr h))]; exact HST.out.2.1.1) (by rw [V.seg_congr (fun x h _ => HG.out.out x (.inr (by omega)))]; exact HST.out.2.1.2.1) (by rw [V.seg_congr (fun x h _ => HG.out.out x (.inr h)), V.seg_congr (a := en) (fun x h _ => HG.out.out x (.inr (by omega)))]; exact HST.out.2.1.2.2)).mono ?_
            rintro e w5 ⟨rfl, h, hh, hat5⟩
            have HH := Lib.hid hh
            have HA5 := Lib.hid hat5
            clear hh hat5
            go_wp2
            go_end0
            exact ⟨rfl, h, HST.out.2.2 (V.rot f p c en) h HG.out HH.out, HA5.out⟩
          · have y1' : (mid : Int) < (nn : Int) - (p : Int) := by have := HZ5.out; omega
            have y2' : ¬ (nn : Int) - (p : Int) < (d : Int) := by have := HZ5.out; omega
            have y1'' : (mid : Int) < (en : Int) := by omega
            have y2'' : ¬ (en : Int) < (d : Int) := by omega
            have HH : Hid (V.Merged (Bef n LL) (V.rot f p c en) (V.rot f p c en) mid d) := Lib.hid (merged_edge e7 e4' (by omega) (by rw [V.seg_congr (fun x h _ => HG.out.out x (.inr h))]; exact HST.out.2.1.1) (by rw [V.seg_congr (fun x h _ => HG.out.out x (.inr (by omega)))]; exact HST.out.2.1.2.1))
            go_wp2
            go_end0
            exact ⟨rfl, (V.rot f p c en), HST.out.2.2 (V.rot f p c en) (V.rot f p c en) HG.out HH.out, HA2.out⟩
          · have y1' : ¬ (mid : Int) < (nn : Int) - (p : Int) := by have := HZ5.out; omega
            have y1'' : ¬ (mid : Int) < (en : Int) := by omega
            have HH : Hid (V.Merged (Bef n LL) (V.rot f p c en) (V.rot f p c en) mid d) := Lib.hid (merged_edge e7 e4' (by omega) (by rw [V.seg_congr (fun x h _ => HG.out.out x (.inr h))]; exact HST.out.2.1.1) (by rw [V.seg_congr (fun x h _ => HG.out.out x (.inr (by omega)))]; exact HST.out.2.1.2.1))
            go_wp2
            go_end0
            exact ⟨rfl, (V.rot f p c en), HST.out.2.2 (V.rot f p c en) (V.rot f p c en) HG.out HH.out, HA2.out⟩

end Go.Proofs.YtabeblbhbekjaaaGreatDoor
