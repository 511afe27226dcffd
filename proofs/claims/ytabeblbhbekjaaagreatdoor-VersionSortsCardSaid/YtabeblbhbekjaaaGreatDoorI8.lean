/-
  Walk: the library's merge of two ascending stretches in place.
  Walk: the library's merge, the right stretch of one element.
-/
import Derived.Test.YtabeblbhbekjaaaGreatDoorI6
import Derived.Test.YtabeblbhbekjaaaGreatDoorI2
namespace Go.Proofs.YtabeblbhbekjaaaGreatDoor
open Go.RowKit

/-- before, in the order of a scheme; of equal ones the earlier -/
def Bef (n : Int) (LL : Nat → V.Bs) (i k : Nat) : Prop := V.cmpV n (LL i) (LL k) < 0 ∨ (V.cmpV n (LL i) (LL k) = 0 ∧ i < k)

theorem Bef.trans {n : Int} {LL : Nat → V.Bs} (hn : V.scheme n = true) (hv : ∀ i, V.valid n (LL i) = true) : ∀ x y z, Bef n LL x y → Bef n LL y z → Bef n LL x z := by
  intro x y z h g
  have t := V.total_law hn (hv x) (hv y) (hv z)
  have t2 := V.total_law hn (hv z) (hv x) (hv y)
  have t3 := V.total_law hn (hv y) (hv z) (hv x)
  have a1 := (V.total_law hn (hv x) (hv z) (hv z)).1
  have a2 := (V.total_law hn (hv y) (hv z) (hv z)).1
  unfold Bef at *
  obtain ⟨b1, _, b3, _, b5⟩ := t
  obtain ⟨_, _, c3, _, c5⟩ := t2
  obtain ⟨_, _, d3, _, d5⟩ := t3
  rcases h with h | ⟨h, hi⟩ <;> rcases g with g | ⟨g, gi⟩
  · left
    by_cases e : V.cmpV n (LL x) (LL z) < 0
    · exact e
    · exfalso
      have : V.cmpV n (LL x) (LL z) ≤ 0 := by omega
      omega
  · left
    by_cases e : V.cmpV n (LL x) (LL z) < 0
    · exact e
    · exfalso
      have e1 : V.cmpV n (LL x) (LL z) ≤ 0 := by omega
      have e2 : V.cmpV n (LL z) (LL x) = 0 := by omega
      omega
  · left
    have := b5 h
    omega
  · right
    have := b5 h
    exact ⟨by omega, by omega⟩

theorem Bef.right {n : Int} {LL : Nat → V.Bs} {i k : Nat} (hik : k < i) : V.cmpV n (LL i) (LL k) < 0 ↔ Bef n LL i k := by
  unfold Bef
  constructor
  · exact .inl
  · rintro (h | ⟨_, h⟩)
    · exact h
    · omega
theorem Bef.left {n : Int} {LL : Nat → V.Bs} (hn : V.scheme n = true) (hv : ∀ i, V.valid n (LL i) = true) {i k : Nat} (hik : k < i) (h : ¬ V.cmpV n (LL i) (LL k) < 0) : Bef n LL k i := by
  have := (V.total_law hn (hv k) (hv i) (hv i)).1
  unfold Bef
  omega

theorem merged_rot {R : Nat → Nat → Prop} {f : V.Ix} {a s m e b : Nat} (h1 : a ≤ s) (h2 : s ≤ m) (h3 : m ≤ e) (h4 : e ≤ b)
    (hp : (V.seg f a s ++ (V.seg f m e ++ (V.seg f s m ++ V.seg f e b))).Pairwise R) : V.Merged R f (V.rot f s m e) a b := by
  have s1 : V.seg (V.rot f s m e) a s = V.seg f a s := V.seg_congr fun p _ g => V.rot_out f (.inl g)
  have s2 := V.rot_seg1 f (a := s) (m := m) (b := e) h2 h3
  have s3 := V.rot_seg2 f (a := s) (m := m) (b := e) h2 h3
  have s4 : V.seg (V.rot f s m e) e b = V.seg f e b := V.seg_congr fun p g _ => V.rot_out f (.inr g)
  have hs : V.seg (V.rot f s m e) a b = V.seg f a s ++ (V.seg f m e ++ (V.seg f s m ++ V.seg f e b)) := by
    rw [V.seg_append _ h1 (show s ≤ b by omega), V.seg_append _ (show s ≤ s + (e - m) by omega) (show s + (e - m) ≤ b by omega), V.seg_append _ (show s + (e - m) ≤ e by omega) h4, s1, s2, s3, s4]
  refine ⟨fun p hp => V.rot_out f (by omega), ?_, by rw [hs]; exact hp⟩
  rw [hs, V.seg_append f h1 (show s ≤ b by omega), V.seg_append f h2 (show m ≤ b by omega), V.seg_append f h3 h4]
  refine List.Perm.append_left _ ?_
  rw [← List.append_assoc, ← List.append_assoc]
  exact List.Perm.append_right _ List.perm_append_comm

theorem seg_one (f : V.Ix) (a : Nat) : V.seg f a (a + 1) = [f a] := by
  unfold V.seg; rw [show a + 1 - a = 1 by omega]; simp

theorem rot_next (f : V.Ix) {a k : Nat} (h : a ≤ k) (i : Nat) : V.rot f a (a + 1) (k + 2) i = if i = k then V.rot f a (a + 1) (k + 1) (k + 1) else if i = k + 1 then V.rot f a (a + 1) (k + 1) k else V.rot f a (a + 1) (k + 1) i := by
  simp only [V.rot]
  repeat' split
  all_goals first | rfl | omega | (congr 1; omega)
theorem rot_start (f : V.Ix) (a : Nat) : V.rot f a (a + 1) (a + 1) = f := by
  funext i
  simp only [V.rot]
  repeat' split
  all_goals first | rfl | omega | (congr 1; omega)

def SymPost (R : Nat → Nat → Prop) (LL : Nat → V.Bs) (b mm : Nat) (w0 : World) (f : V.Ix) (a c : Nat) (e : Ending) (w' : World) : Prop :=
  e = .returned (.tuple #[]) ∧ ∃ g, V.Merged R f g a c ∧ At LL b mm w0 g w'

set_option maxRecDepth 100000 in
set_option maxHeartbeats 6400000 in
theorem symMergeL_any (n : Int) (T : TypeId) (K : FuncId) (LL : Nat → V.Bs) (b mm cap a c1 d : Nat) (f : V.Ix) (w w0 : World) (hca : c1 = a + 1) (hn : V.scheme n = true) (hv : ∀ i, V.valid n (LL i) = true) (hm : mm ≤ 1000) (h : At LL b mm w0 f w) (h2 : a + 1 < d) (h3 : d ≤ mm)
    (asc : (V.seg f (a + 1) d).Pairwise (Bef n LL)) (tags : ∀ x ∈ V.seg f a (a + 1), ∀ y ∈ V.seg f (a + 1) d, x < y)
    (hmeth : ∀ k w, (method (k + 1) T (.agg #[]) "admission/version.compare").run Tryz.prog w = .ok (K, .agg #[]) w)
    (henter : ∀ args w, (callFunc K args).run Tryz.prog w = .ok (.enter K args) w)
    (hK : ∀ (x y : V.Bs) W, V.valid n x = true → V.valid n y = true → MaxOk W → Calls Tryz.prog K #[.agg #[], .string ⟨x.toArray⟩, .string ⟨y.toArray⟩] W fun e w' => e = .returned (.int .i64 (V.cmpV n x y)) ∧ Below W.heap.size W w') :
    Calls Tryz.prog 50 #[.slice (some ⟨b, 0, none⟩) mm cap, .int .i64 a, .int .i64 c1, .int .i64 d, cmpVal T] w (SymPost (Bef n LL) LL b mm w0 f a d) := by
  have H := Lib.hid h
  have HCA := Lib.hid hca
  have hca1 : c1 ≤ a + 1 := by omega
  have hca2 : a + 1 ≤ c1 := by omega
  have htst : ((c1 : Int) - (a : Int) == 1) = true := by rw [beq_iff_eq]; omega
  clear hca
  have HN := Lib.hid hn
  have HV := Lib.hid hv
  have HK := Lib.hid hK
  have HASC := Lib.hid asc
  have HTAG : Hid (∀ x, a + 1 ≤ x → x < d → f a < f x) := Lib.hid (fun x h1 h2 => tags _ (V.mem_seg.2 ⟨a, Nat.le_refl _, by omega, rfl⟩) _ (V.mem_seg.2 ⟨x, h1, h2, rfl⟩))
  have HMON : Hid (∀ x y, a + 1 ≤ x → x < y → y < d → Bef n LL (f x) (f y)) := Lib.hid (fun x y h1 h2 h3 => by
    have := asc
    rw [V.seg_append f (show a + 1 ≤ x + 1 by omega) (show x + 1 ≤ d by omega), List.pairwise_append] at this
    exact this.2.2 _ (V.mem_seg.2 ⟨x, h1, by omega, rfl⟩) _ (V.mem_seg.2 ⟨y, by omega, h3, rfl⟩))
  clear h hn hv hK asc tags
  unfold cmpVal
  go_enter Tryz.func50, Tryz.ntmps50
  go_wp2
  go_loopw [10, 11] (fun i j wr => ∃ p q : Nat, a + 1 ≤ p ∧ p ≤ q ∧ q ≤ d ∧ i = .int .i64 p ∧ j = .int .i64 q ∧ At LL b mm w0 f wr ∧ (∀ x, a + 1 ≤ x → x < p → Bef n LL (f x) (f a)) ∧ ∀ x, q ≤ x → x < d → Bef n LL (f a) (f x)) (fun i j _ => (intOf j - intOf i).toNat)
  case atStart => exact ⟨c1, d, hca2, by omega, Nat.le_refl _, rfl, rfl, H.out, fun x h1 h2 => by omega, fun x h1 h2 => by omega⟩
  case round =>
    obtain ⟨p, q, hp1, hpq, hq, rfl, rfl, hat, hlo, hhi⟩ := hrel
    have HA := Lib.hid hat
    have HLO := Lib.hid hlo
    have HHI := Lib.hid hhi
    clear hat hlo hhi
    by_cases hlt : p < q
    · obtain ⟨h, hh⟩ : ∃ h : Nat, h = (p + q) / 2 := ⟨_, rfl⟩
      have hh1 : p ≤ h := by omega
      have hh2 : h < q := by omega
      have hz : ((p : Int) + (q : Int)) / 2 = (h : Int) := by omega
      have HZ := Lib.hid hz
      have d0 := HA.out.row.cell h (by omega)
      have d1 := HA.out.row.cell a (by omega)
      have HV0 := Lib.hid (HV.out (f h))
      have HV1 := Lib.hid (HV.out (f a))
      have hat2 := HTAG.out h (by omega) (by omega)
      have hcmp : V.cmpV n (LL (f h)) (LL (f a)) < 0 ↔ Bef n LL (f h) (f a) := Bef.right hat2
      have hleft : ¬ V.cmpV n (LL (f h)) (LL (f a)) < 0 → Bef n LL (f a) (f h) := Bef.left HN.out HV.out hat2
      obtain ⟨c, hc⟩ : ∃ c, V.cmpV n (LL (f h)) (LL (f a)) = c := ⟨_, rfl⟩
      have HC := Lib.hid hc
      rw [hc] at hcmp hleft
      have HYES : Hid (c < 0 → ∀ x, a + 1 ≤ x → x < h + 1 → Bef n LL (f x) (f a)) := Lib.hid (fun g x g1 g2 => by
        by_cases e : x = h
        · subst e; exact hcmp.1 g
        · exact Bef.trans HN.out HV.out _ _ _ (HMON.out x h g1 (by omega) (by omega)) (hcmp.1 g))
      have HNO : Hid (¬ c < 0 → ∀ x, h ≤ x → x < d → Bef n LL (f a) (f x)) := Lib.hid (fun g x g1 g2 => by
        by_cases e : x = h
        · subst e; exact hleft g
        · exact Bef.trans HN.out HV.out _ _ _ (hleft g) (HMON.out h x (by omega) (by omega) g2))
      have hi1 : (0 : Int) ≤ (h : Int) := by omega
      have hi2 : (h : Int) < (mm : Int) := by omega
      have hi3 : (0 : Int) ≤ (a : Int) := by omega
      have hi4 : (a : Int) < (mm : Int) := by omega
      clear hz hh hat2 hcmp hleft hc
      generalize hy0 : LL (f h) = y0 at *
      generalize hy1 : LL (f a) = y1 at *
      clear hy0 hy1
      go_wp2
      rw [HZ.out]
      go_still_tail 9, (by kernel_rfl)
      change wpList _ _ _ _ _ wr.drew
      have HA2 := Lib.hid (HA.out.below (Below.refl _ wr).drew)
      clear d0 d1
      generalize wr.drew = W1 at *
      go_wp2_with fail
      refine (HK.out y0 y1 _ HV0.out HV1.out HA2.out.max).mono ?_
      rintro e W2 ⟨rfl, hb2⟩
      have HA3 := Lib.hid (HA2.out.below hb2)
      clear hb2
      rw [HC.out]
      by_cases hcn : c < 0
      · go_wp2
        go_roundw
        case rel => exact ⟨h + 1, q, by omega, by omega, hq, by go_num, rfl, HA3.out, HYES.out hcn, HHI.out⟩
        case measure => simp [intOf]; omega
      · go_wp2
        go_roundw
        case rel => exact ⟨p, h, hp1, hh1, by omega, rfl, by go_num, HA3.out, HLO.out, HNO.out hcn⟩
        case measure => simp [intOf]; omega
    · obtain rfl : p = q := by omega
      obtain ⟨wo, rfl⟩ : ∃ wo : World, wo = wr := ⟨_, rfl⟩
      clear hlt
      go_wp2
      go_loopw [13] (fun k wr => ∃ k' : Nat, a ≤ k' ∧ k' + 1 ≤ p ∧ k = .int .i64 k' ∧ At LL b mm w0 (V.rot f a (a + 1) (k' + 1)) wr) (fun k _ => p - (intOf k).toNat)
      case atStart => exact ⟨a, Nat.le_refl _, hp1, rfl, by rw [rot_start]; exact HA.out⟩
      case round =>
        obtain ⟨k, hk1, hk2, rfl, hat⟩ := hrel
        have HA5 := Lib.hid hat
        clear hat
        by_cases hgo : k + 1 < p
        · have d0 := HA5.out.row.cell k (by omega)
          have d1 := HA5.out.row.cell (k + 1) (by omega)
          have f0 := HA5.out.row.free k (by omega)
          have f1 := HA5.out.row.free (k + 1) (by omega)
          have HSW := Lib.hid ((HA5.out.below (Below.refl _ wr).drew).swap (p := k) (q := k + 1) (by omega) (by omega) (by omega))
          have hw1 : IntKind.i64.wrap ((k : Int) + 1) = (k : Int) + 1 := IntWalk.i64_in _ (by omega)
          have hn1 : ((k : Int) + 1).toNat = k + 1 := by omega
          have hp2 : (0 : Int) ≤ (k : Int) + 1 := by omega
          have hp3 : (k : Int) < (mm : Int) := by omega
          have hp4 : (k : Int) + 1 < (mm : Int) := by omega
          have hp5 : k < mm := by omega
          have hp6 : k + 1 < mm := by omega
          have ht : (k : Int) < (p : Int) - 1 := by omega
          generalize hy0 : V.rot f a (a + 1) (k + 1) k = y0 at *
          generalize hy1 : V.rot f a (a + 1) (k + 1) (k + 1) = y1 at *
          have HY0 := Lib.hid hy0
          have HY1 := Lib.hid hy1
          clear hy0 hy1
          go_wp2
          go_region
          clear d0 d1 f0 f1
          go_wp2
          go_roundw
          case rel => exact ⟨k + 1, by omega, by omega, by go_num, HSW.out.congr (fun i _ => by rw [rot_next f hk1, HY0.out, HY1.out])⟩
          case measure => simp [intOf]; omega
        · obtain rfl : p = k + 1 := by omega
          have HMG : Hid (V.Merged (Bef n LL) f (V.rot f a (a + 1) (k + 1)) a d) := Lib.hid (merged_rot (Nat.le_refl _) (by omega) (by omega) hq (by
            have h0 : V.seg f a a = [] := by unfold V.seg; simp
            rw [h0, List.nil_append, seg_one]
            have hs := HASC.out
            rw [V.seg_append f (show a + 1 ≤ k + 1 by omega) hq, List.pairwise_append] at hs
            rw [List.pairwise_append]
            refine ⟨hs.1, List.pairwise_cons.2 ⟨fun y hy => ?_, hs.2.1⟩, fun x hx y hy => ?_⟩
            · obtain ⟨z, z1, z2, rfl⟩ := V.mem_seg.1 hy
              exact HHI.out z z1 z2
            · rcases List.mem_cons.1 hy with e | e
              · subst e
                obtain ⟨z, z1, z2, rfl⟩ := V.mem_seg.1 hx
                exact HLO.out z z1 z2
              · exact hs.2.2 x hx y e))
          have ht : ¬ (k : Int) < ((k + 1 : Nat) : Int) - 1 := by omega
          go_wp2
          go_end0
          exact ⟨rfl, _, HMG.out, HA5.out⟩
end Go.Proofs.YtabeblbhbekjaaaGreatDoor
namespace Go.Proofs.YtabeblbhbekjaaaGreatDoor
open Go.RowKit

theorem rotR_next (f : V.Ix) {c k : Nat} (h0 : 0 < k) (h : k ≤ c) (i : Nat) : V.rot f (k - 1) c (c + 1) i = if i = k then V.rot f k c (c + 1) (k - 1) else if i = k - 1 then V.rot f k c (c + 1) k else V.rot f k c (c + 1) i := by
  simp only [V.rot]
  repeat' split
  all_goals first | rfl | omega | (congr 1; omega)
theorem rotR_start (f : V.Ix) (c : Nat) : V.rot f c c (c + 1) = f := by
  funext i
  simp only [V.rot]
  repeat' split
  all_goals first | rfl | omega | (congr 1; omega)

set_option maxRecDepth 100000 in
set_option maxHeartbeats 6400000 in
theorem symMergeR_any (n : Int) (T : TypeId) (K : FuncId) (LL : Nat → V.Bs) (b mm cap a c d1 : Nat) (f : V.Ix) (w w0 : World) (hcd : d1 = c + 1) (hn : V.scheme n = true) (hv : ∀ i, V.valid n (LL i) = true) (hm : mm ≤ 1000) (h : At LL b mm w0 f w) (h2 : a + 1 < c) (h3 : d1 ≤ mm)
    (asc : (V.seg f a c).Pairwise (Bef n LL)) (tags : ∀ x ∈ V.seg f a c, ∀ y ∈ V.seg f c (c + 1), x < y)
    (hmeth : ∀ k w, (method (k + 1) T (.agg #[]) "admission/version.compare").run Tryz.prog w = .ok (K, .agg #[]) w)
    (henter : ∀ args w, (callFunc K args).run Tryz.prog w = .ok (.enter K args) w)
    (hK : ∀ (x y : V.Bs) W, V.valid n x = true → V.valid n y = true → MaxOk W → Calls Tryz.prog K #[.agg #[], .string ⟨x.toArray⟩, .string ⟨y.toArray⟩] W fun e w' => e = .returned (.int .i64 (V.cmpV n x y)) ∧ Below W.heap.size W w') :
    Calls Tryz.prog 50 #[.slice (some ⟨b, 0, none⟩) mm cap, .int .i64 a, .int .i64 c, .int .i64 d1, cmpVal T] w (SymPost (Bef n LL) LL b mm w0 f a d1) := by
  have H := Lib.hid h
  have HCD := Lib.hid hcd
  have hca1 : d1 ≤ c + 1 := by omega
  have hca2 : c + 1 ≤ d1 := by omega
  have htst : ((c : Int) - (a : Int) == 1) = false := by rw [beq_eq_false_iff_ne]; omega
  have htst2 : ((d1 : Int) - (c : Int) == 1) = true := by rw [beq_iff_eq]; omega
  clear hcd
  have HN := Lib.hid hn
  have HV := Lib.hid hv
  have HK := Lib.hid hK
  have HASC := Lib.hid asc
  have HTAG : Hid (∀ x, a ≤ x → x < c → f x < f c) := Lib.hid (fun x h1 h2 => tags _ (V.mem_seg.2 ⟨x, h1, h2, rfl⟩) _ (V.mem_seg.2 ⟨c, Nat.le_refl _, by omega, rfl⟩))
  have HMON : Hid (∀ x y, a ≤ x → x < y → y < c → Bef n LL (f x) (f y)) := Lib.hid (fun x y h1 h2 h3 => by
    have := asc
    rw [V.seg_append f (show a ≤ x + 1 by omega) (show x + 1 ≤ c by omega), List.pairwise_append] at this
    exact this.2.2 _ (V.mem_seg.2 ⟨x, h1, by omega, rfl⟩) _ (V.mem_seg.2 ⟨y, by omega, h3, rfl⟩))
  clear h hn hv hK asc tags
  unfold cmpVal
  go_enter Tryz.func50, Tryz.ntmps50
  go_wp2
  go_loopw [14, 15] (fun i j wr => ∃ p q : Nat, a ≤ p ∧ p ≤ q ∧ q ≤ c ∧ i = .int .i64 p ∧ j = .int .i64 q ∧ At LL b mm w0 f wr ∧ (∀ x, a ≤ x → x < p → Bef n LL (f x) (f c)) ∧ ∀ x, q ≤ x → x < c → Bef n LL (f c) (f x)) (fun i j _ => (intOf j - intOf i).toNat)
  case atStart => exact ⟨a, c, Nat.le_refl _, by omega, Nat.le_refl _, rfl, rfl, H.out, fun x h1 h2 => by omega, fun x h1 h2 => by omega⟩
  case round =>
    obtain ⟨p, q, hp1, hpq, hq, rfl, rfl, hat, hlo, hhi⟩ := hrel
    have HA := Lib.hid hat
    have HLO := Lib.hid hlo
    have HHI := Lib.hid hhi
    clear hat hlo hhi
    by_cases hlt : p < q
    · obtain ⟨h, hh⟩ : ∃ h : Nat, h = (p + q) / 2 := ⟨_, rfl⟩
      have hh1 : p ≤ h := by omega
      have hh2 : h < q := by omega
      have hz : ((p : Int) + (q : Int)) / 2 = (h : Int) := by omega
      have HZ := Lib.hid hz
      have d0 := HA.out.row.cell c (by omega)
      have d2 := HA.out.row.cell h (by omega)
      have HV0 := Lib.hid (HV.out (f c))
      have HV1 := Lib.hid (HV.out (f h))
      have hat2 := HTAG.out h (by omega) (by omega)
      have hcmp : V.cmpV n (LL (f c)) (LL (f h)) < 0 ↔ Bef n LL (f c) (f h) := Bef.right hat2
      have hleft : ¬ V.cmpV n (LL (f c)) (LL (f h)) < 0 → Bef n LL (f h) (f c) := Bef.left HN.out HV.out hat2
      obtain ⟨cc, hc⟩ : ∃ cc, V.cmpV n (LL (f c)) (LL (f h)) = cc := ⟨_, rfl⟩
      have HC := Lib.hid hc
      rw [hc] at hcmp hleft
      have HNO : Hid (¬ cc < 0 → ∀ x, a ≤ x → x < h + 1 → Bef n LL (f x) (f c)) := Lib.hid (fun g x g1 g2 => by
        by_cases e : x = h
        · subst e; exact hleft g
        · exact Bef.trans HN.out HV.out _ _ _ (HMON.out x h g1 (by omega) (by omega)) (hleft g))
      have HYES : Hid (cc < 0 → ∀ x, h ≤ x → x < c → Bef n LL (f c) (f x)) := Lib.hid (fun g x g1 g2 => by
        by_cases e : x = h
        · subst e; exact hcmp.1 g
        · exact Bef.trans HN.out HV.out _ _ _ (hcmp.1 g) (HMON.out h x (by omega) (by omega) g2))
      have hi1 : (0 : Int) ≤ (h : Int) := by omega
      have hi2 : (h : Int) < (mm : Int) := by omega
      have hi3 : (0 : Int) ≤ (c : Int) := by omega
      have hi4 : (c : Int) < (mm : Int) := by omega
      clear hz hh hat2 hcmp hleft hc
      generalize hy0 : LL (f c) = y0 at *
      generalize hy1 : LL (f h) = y1 at *
      clear hy0 hy1
      go_wp2
      rw [HZ.out]
      go_still_tail 9, (by kernel_rfl)
      change wpList _ _ _ _ _ wr.drew
      have HA2 := Lib.hid (HA.out.below (Below.refl _ wr).drew)
      clear d0 d2
      generalize wr.drew = W1 at *
      go_wp2_with fail
      refine (HK.out y0 y1 _ HV0.out HV1.out HA2.out.max).mono ?_
      rintro e W2 ⟨rfl, hb2⟩
      have HA3 := Lib.hid (HA2.out.below hb2)
      clear hb2
      rw [HC.out]
      by_cases hcn : cc < 0
      · have hb1 : decide (cc < 0) = true := by simpa using hcn
        have hb2 : (!decide (cc < 0)) = false := by rw [hb1]; rfl
        go_wp2
        go_roundw
        case rel => exact ⟨p, h, hp1, hh1, by omega, rfl, by go_num, HA3.out, HLO.out, HYES.out hcn⟩
        case measure => simp [intOf]; omega
      · have hb1 : decide (cc < 0) = false := by simpa using hcn
        have hb2 : (!decide (cc < 0)) = true := by rw [hb1]; rfl
        go_wp2
        go_roundw
        case rel => exact ⟨h + 1, q, by omega, by omega, hq, by go_num, rfl, HA3.out, HNO.out hcn, HHI.out⟩
        case measure => simp [intOf]; omega
    · obtain rfl : p = q := by omega
      obtain ⟨wo, rfl⟩ : ∃ wo : World, wo = wr := ⟨_, rfl⟩
      clear hlt
      go_wp2
      go_loopw [17] (fun k wr => ∃ k' : Nat, p ≤ k' ∧ k' ≤ c ∧ k = .int .i64 k' ∧ At LL b mm w0 (V.rot f k' c (c + 1)) wr) (fun k _ => (intOf k).toNat)
      case atStart => exact ⟨c, hq, Nat.le_refl _, rfl, by rw [rotR_start]; exact HA.out⟩
      case round =>
        obtain ⟨k, hk1, hk2, rfl, hat⟩ := hrel
        have HA5 := Lib.hid hat
        clear hat
        by_cases hgo : p < k
        · have d0 := HA5.out.row.cell k (by omega)
          have d2 := HA5.out.row.cell (k - 1) (by omega)
          have f0 := HA5.out.row.free k (by omega)
          have f1 := HA5.out.row.free (k - 1) (by omega)
          have HSW := Lib.hid ((HA5.out.below (Below.refl _ wr).drew).swap (p := k) (q := k - 1) (by omega) (by omega) (by omega))
          have hw1 : IntKind.i64.wrap ((k : Int) - 1) = (k : Int) - 1 := IntWalk.i64_in _ (by omega)
          have hn1 : ((k : Int) - 1).toNat = k - 1 := by omega
          have hp2 : (0 : Int) ≤ (k : Int) - 1 := by omega
          have hp7 : (1 : Int) ≤ (k : Int) := by omega
          have hp3 : (k : Int) < (mm : Int) := by omega
          have hp4 : (k : Int) - 1 < (mm : Int) := by omega
          have hp5 : k < mm := by omega
          have hp6 : k - 1 < mm := by omega
          generalize hy0 : V.rot f k c (c + 1) k = y0 at *
          generalize hy1 : V.rot f k c (c + 1) (k - 1) = y1 at *
          have HY0 := Lib.hid hy0
          have HY1 := Lib.hid hy1
          clear hy0 hy1
          go_wp2
          go_region
          clear d0 d2 f0 f1
          go_wp2
          go_roundw
          case rel => exact ⟨k - 1, by omega, by omega, by rw [← hn1, Int.toNat_of_nonneg hp2], HSW.out.congr (fun i _ => by rw [rotR_next f (show 0 < k by omega) hk2, HY0.out, HY1.out])⟩
          case measure => simp [intOf]; omega
        · obtain rfl : k = p := by omega
          have HMG : Hid (V.Merged (Bef n LL) f (V.rot f k c (c + 1)) a (c + 1)) := Lib.hid (merged_rot hp1 hk2 (by omega) (Nat.le_refl _) (by
            have h0 : V.seg f (c + 1) (c + 1) = [] := by unfold V.seg; simp
            rw [h0, List.append_nil, seg_one]
            have hs := HASC.out
            rw [V.seg_append f hp1 hk2, List.pairwise_append] at hs
            rw [List.pairwise_append]
            refine ⟨hs.1, List.pairwise_cons.2 ⟨fun y hy => ?_, hs.2.1⟩, fun x hx y hy => ?_⟩
            · obtain ⟨z, z1, z2, rfl⟩ := V.mem_seg.1 hy
              exact HHI.out z z1 z2
            · rcases List.mem_cons.1 hy with e | e
              · subst e
                obtain ⟨z, z1, z2, rfl⟩ := V.mem_seg.1 hx
                exact HLO.out z z1 z2
              · exact hs.2.2 x hx y e))
          rw [← HCD.out] at HMG
          go_wp2
          go_end0
          exact ⟨rfl, _, HMG.out, by rw [HCD.out]; exact HA5.out⟩
end Go.Proofs.YtabeblbhbekjaaaGreatDoor
