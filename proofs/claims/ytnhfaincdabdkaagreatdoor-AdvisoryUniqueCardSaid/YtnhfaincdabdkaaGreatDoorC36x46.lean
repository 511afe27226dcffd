/-
  Lemmas for the law.
-/
import Derived.Test.YtnhfaincdabdkaaGreatDoorC36x44
import Derived.Test.YtnhfaincdabdkaaGreatDoorC36x45
import Derived.Test.YtnhfaincdabdkaaGreatDoorC36x18
import Derived.Test.YtnhfaincdabdkaaGreatDoorC36x34
import Derived.Test.YtnhfaincdabdkaaGreatDoorC36x35
import Derived.Test.YtnhfaincdabdkaaGreatDoorC36x21
import Derived.Test.YtnhfaincdabdkaaGreatDoorC36x43
import Derived.Test.YtnhfaincdabdkaaGreatDoorC36x39
import Derived.Test.YtnhfaincdabdkaaGreatDoorC36x37
import Derived.Test.YtnhfaincdabdkaaGreatDoorC36x38
import Derived.Laws.StructEq
set_option linter.all false
set_option maxRecDepth 100000
set_option maxHeartbeats 6400000
namespace Go.Proofs.YtnhfaincdabdkaaGreatDoor
open Go.RowKit
theorem zg.tape {w w' : World} {b k : Nat} (hm : zg w) (ht : Tape w b k) (hg : w.grownBy w' (some b)) : zg w' := by
 obtain ⟨m, hm⟩ := hm
 obtain ⟨a, n, cap, p, c0, _⟩ := ht
 exact ⟨m, hg.cell hm (fun e => by cases e; rw [c0] at hm; cases hm)⟩
theorem zd9 {w w6 W7 : World} {b g : Nat} (h : w.grownBy w6 (some b)) (k : w6.grownBy W7 (some g)) (hg : w.heap.size ≤ g) : w.grownBy W7 (some b) :=
 ⟨k.os.trans h.os, k.tape.trans h.tape, k.output.trans h.output, Nat.le_trans h.size k.size, fun i hi hr => (k.block i (Nat.lt_of_lt_of_le hi h.size) (by intro e; cases e; omega)).trans (h.block i hi hr)⟩
def RngPost (b k : Nat) (n : Int) (w : World) (e : Ending) (w' : World) : Prop :=
 ∃ u l, e = .returned (setV n u) /\ Itvs w' u l /\ V.okR n l = true /\ 1 ≤ l.length /\ (∀ c, u.ownBlock = some c -> w.heap.size ≤ c) /\ Tape w' b (k + 3) /\ w.grownBy w' (some b)
def rngL (s t : ByteArray) : List ByteArray := [⟨#[42]⟩, (⟨#[62, 61]⟩ : ByteArray) ++ s, (⟨#[60]⟩ : ByteArray) ++ s, (⟨#[61]⟩ : ByteArray) ++ s, (⟨#[62]⟩ : ByteArray) ++ s ++ ⟨#[32, 60, 61]⟩ ++ t, (⟨#[60]⟩ : ByteArray) ++ s ++ ⟨#[32, 124, 124, 32, 62, 61]⟩ ++ t, (⟨#[60, 61]⟩ : ByteArray) ++ s]
theorem rngL_len {s t : ByteArray} (hs : s.size ≤ 64) (ht : t.size ≤ 64) : ∀ x ∈ (rngL s t).map (·.data.toList), x.length ≤ 200 := by
 intro x hx
 obtain ⟨y, hy, rfl⟩ := List.mem_map.1 hx
 have hz : y.size ≤ 200 := by
  simp only [rngL, List.mem_cons, List.not_mem_nil, or_false] at hy
  rcases hy with rfl | rfl | rfl | rfl | rfl | rfl | rfl
  ·decide
  ·rw [ByteArray.size_append]; show 2 + s.size ≤ 200; omega
  ·rw [ByteArray.size_append]; show 1 + s.size ≤ 200; omega
  ·rw [ByteArray.size_append]; show 1 + s.size ≤ 200; omega
  ·rw [ByteArray.size_append, ByteArray.size_append, ByteArray.size_append]; show 1 + s.size + 3 + t.size ≤ 200; omega
  ·rw [ByteArray.size_append, ByteArray.size_append, ByteArray.size_append]; show 1 + s.size + 6 + t.size ≤ 200; omega
  ·rw [ByteArray.size_append]; show 2 + s.size ≤ 200; omega
 exact hz
theorem rng_star {n : Int} (h : V.scheme n = true) : V.parP n [42] = (n, [⟨[], 0, [], 0⟩], 0) := by
 have hs : n = 1 ∨ n = 2 ∨ n = 3 := by unfold V.scheme at h; simpa [or_assoc] using h
 rcases hs with e | e | e <;> subst e
 ·exact (show V.parP 1 [42] = (1, [⟨[], 0, [], 0⟩], 0) by kernel_rfl)
 ·exact (show V.parP 2 [42] = (2, [⟨[], 0, [], 0⟩], 0) by kernel_rfl)
 ·exact (show V.parP 3 [42] = (3, [⟨[], 0, [], 0⟩], 0) by kernel_rfl)
theorem rng_full {n : Int} (h : V.scheme n = true) : V.okR n [⟨[], 0, [], 0⟩] = true := by
 have hs : n = 1 ∨ n = 2 ∨ n = 3 := by unfold V.scheme at h; simpa [or_assoc] using h
 rcases hs with e | e | e <;> subst e
 ·exact (show V.okR 1 [⟨[], 0, [], 0⟩] = true by kernel_rfl)
 ·exact (show V.okR 2 [⟨[], 0, [], 0⟩] = true by kernel_rfl)
 ·exact (show V.okR 3 [⟨[], 0, [], 0⟩] = true by kernel_rfl)
theorem zqc (n : Int) (s : V.Bs) : V.xg n s ≠ (none, 0) := by
 unfold V.xg
 repeat' split
 all_goals (intro h; simp at h)
theorem parP_okR {n : Int} {s : V.Bs} {rs : Int} {l : List V.Itv} (h : V.parP n s = (rs, l, 0)) : rs = n /\ V.okR n l = true := by
 unfold V.parP at h
 split at h
 ·rename_i l' c hq
  cases h
  exact ⟨rfl, V.of_ok (V.zix (by rw [hq])).1⟩
 ·rename_i c hq
  cases h
  exact absurd hq (zqc _ _)
theorem zj4 (b k : Nat) (n : Int) (w : World) (hm : zg w) (h : Tape w b k) (hk : k ≤ 900000) (hn : V.scheme n = true) :
  Calls Tryz.prog 63 #[.pointer (some ⟨b, 0, none⟩), .int .i64 n] w (RngPost b k n w) := by
 have hb0 : Below w.heap.size w (w.alloc (.cells #[.int .i64 0, .slice none 0 0] 48)) := (zu1 _ w).alloc (zu0 _) _
 have HM0 := zuy (hm.below hb0)
 have HT0 := zuy (h.below hb0)
 have HK0 : Hid ((w.alloc (.cells #[.int .i64 0, .slice none 0 0] 48)).heap[w.heap.size]? = some (.cells #[.int .i64 0, .slice none 0 0] 48 (0, 0))) := zuy (heap_alloc_new w _)
 have HGW := zuy (qm hb0 (some b))
 have HBW := zuy h.lt
 have HN := zuy hn
 have hz0 : (w.alloc (.cells #[.int .i64 0, .slice none 0 0] 48)).heap.size = w.heap.size + 1 := by simp
 have HZ0 := zuy hz0
 clear hb0 hm h hn hz0
 go_enter Tryz.func63, Tryz.ntmps63
 go_wp2_with fail
 generalize w.alloc (.cells #[.int .i64 0, .slice none 0 0] 48) = w0 at *
 refine (zhc b k n w0 HT0.out (by omega) HN.out).mono ?_
 rintro e w1 ⟨xa, ha, rfl, ht1, hg1⟩
 have HM1 := zuy (HM0.out.tape HT0.out hg1)
 have HT1 := zuy ht1
 have HG1 := zuy hg1
 clear ht1 hg1
 go_wp2_with fail
 refine (zhc b (k + 1) n w1 HT1.out (by omega) HN.out).mono ?_
 rintro e w2 ⟨xb, hb, rfl, ht2, hg2⟩
 have HM2 := zuy (HM1.out.tape HT1.out hg2)
 have HT2 := zuy ht2
 have HG2 := zuy (HG1.out.trans hg2)
 have hsa : (⟨xa.toArray⟩ : ByteArray).size ≤ 64 := by simpa [ByteArray.size] using (V.valid_len ha).2
 have hsb : (⟨xb.toArray⟩ : ByteArray).size ≤ 64 := by simpa [ByteArray.size] using (V.valid_len hb).2
 clear ht2 hg2 ha hb HM0 HT0 HM1 HT1 HG1
 generalize (⟨xa.toArray⟩ : ByteArray) = s at *
 generalize (⟨xb.toArray⟩ : ByteArray) = t at *
 have q1 : ¬ (9223372036854775807 < 2 + s.size) := by omega
 have q2 : ¬ (9223372036854775807 < 1 + s.size) := by omega
 have q3 : ¬ (9223372036854775807 < 1 + s.size + 3) := by omega
 have q4 : ¬ (9223372036854775807 < 1 + s.size + 3 + t.size) := by omega
 have q5 : ¬ (9223372036854775807 < 1 + s.size + 6) := by omega
 have q6 : ¬ (9223372036854775807 < 1 + s.size + 6 + t.size) := by omega
 have HL := zuy (rngL_len hsa hsb)
 have hz2 : w.heap.size + 1 ≤ w2.heap.size := by have := HG2.out.size; have := HZ0.out; omega
 go_wp2_with fail
 clear q1 q2 q3 q4 q5 q6 hsa hsb
 have hb3 : Below w2.heap.size w2 (w2.alloc (.cells #[.string (⟨#[42]⟩), .string ((⟨#[62, 61]⟩ : ByteArray) ++ s), .string ((⟨#[60]⟩ : ByteArray) ++ s), .string ((⟨#[61]⟩ : ByteArray) ++ s), .string ((⟨#[62]⟩ : ByteArray) ++ s ++ ⟨#[32, 60, 61]⟩ ++ t), .string ((⟨#[60]⟩ : ByteArray) ++ s ++ ⟨#[32, 124, 124, 32, 62, 61]⟩ ++ t), .string ((⟨#[60, 61]⟩ : ByteArray) ++ s)] 9)) := (zu1 _ w2).alloc (zu0 _) _
 have HM3 := zuy (HM2.out.below hb3)
 have HT3 := zuy (HT2.out.below hb3)
 have HG3 := zuy (HG2.out.trans (qm hb3 (some b)))
 refine (zbp b (k + 2) (w2.alloc (.cells #[.string (⟨#[42]⟩), .string ((⟨#[62, 61]⟩ : ByteArray) ++ s), .string ((⟨#[60]⟩ : ByteArray) ++ s), .string ((⟨#[61]⟩ : ByteArray) ++ s), .string ((⟨#[62]⟩ : ByteArray) ++ s ++ ⟨#[32, 60, 61]⟩ ++ t), .string ((⟨#[60]⟩ : ByteArray) ++ s ++ ⟨#[32, 124, 124, 32, 62, 61]⟩ ++ t), .string ((⟨#[60, 61]⟩ : ByteArray) ++ s)] 9)) ⟨w2.heap.size, 0, none⟩ 7 ((rngL s t).map (·.data.toList)) HT3.out (by omega) (by simp [rngL]) (by simp [rngL]) (by have := HT2.out.lt; simp; omega) rfl (fun j hj => by
   rw [World.cell?_alloc_new, Nat.zero_add]
   have h7 : j = 0 ∨ j = 1 ∨ j = 2 ∨ j = 3 ∨ j = 4 ∨ j = 5 ∨ j = 6 := by simp [rngL] at hj; omega
   rcases h7 with rfl | rfl | rfl | rfl | rfl | rfl | rfl <;> rfl)).mono ?_
 rintro e w4 ⟨x, hx, rfl, ht4, hg4⟩
 have HX := zuy (HL.out x hx)
 have HM4 := zuy (HM3.out.tape HT3.out hg4)
 have HT4 := zuy ht4
 have HG4 := zuy (HG3.out.trans hg4)
 have hz4 : w.heap.size + 1 ≤ w4.heap.size := by have := hg4.size; have := hb3.size; omega
 clear hb3 hx ht4 hg4 HM2 HT2 HG2 HM3 HT3 HG3 HL hz2
 go_wp2_with fail
 refine (zhf n x w4 HM4.out (by have := HX.out; unfold maxLen; omega)).mono ?_
 rintro e w5 ⟨u5, rfl, hu5, how5, hb5⟩
 obtain ⟨⟨rs, its, ec⟩, hpp⟩ : ∃ p, V.parP n x = p := ⟨_, rfl⟩
 rw [hpp] at hu5 ⊢
 simp only at hu5 ⊢
 have HPP := zuy hpp
 obtain ⟨p5, c5, rfl⟩ := hu5.slice
 have hb6 : Below w4.heap.size w4 (w5.alloc (.cells #[.int .i64 rs, .slice p5 its.length c5] 48)) := hb5.alloc hb5.size _
 have HM6 := zuy (HM4.out.below hb6)
 have HT6 := zuy (HT4.out.below hb6)
 have HG06 := zuy (HG4.out.trans (qm hb6 (some b)))
 have HI6 := zuy (hu5.below ((zu1 _ w5).alloc (zu0 _) (.cells #[.int .i64 rs, .slice p5 its.length c5] 48)))
 have HO6 : Hid (∀ c, (Value.slice p5 its.length c5).ownBlock = some c -> w4.heap.size ≤ c) := zuy how5
 have HC6 : Hid ((w5.alloc (.cells #[.int .i64 rs, .slice p5 its.length c5] 48)).heap[w5.heap.size]? = some (.cells #[.int .i64 rs, .slice p5 its.length c5] 48 (0, 0))) := zuy (heap_alloc_new w5 _)
 have hz5 : w4.heap.size ≤ w5.heap.size := hb5.size
 have hz6 : (w5.alloc (.cells #[.int .i64 rs, .slice p5 its.length c5] 48)).heap.size = w5.heap.size + 1 := by simp
 clear hpp hu5 how5 hb5 hb6 HM4 HT4 HG4
 obtain ⟨s0, s1⟩ := zas HC6.out
 unfold setV
 have HKW := zuy ((HG06.out.block _ (by have := HZ0.out; omega) (by intro e; cases e; have := HBW.out; omega)).trans HK0.out)
 have HXW : Hid (w4.heap.size ≤ w5.heap.size /\ w.heap.size + 1 ≤ w4.heap.size /\ (w5.alloc (.cells #[.int .i64 rs, .slice p5 its.length c5] 48)).heap.size = w5.heap.size + 1) := zuy ⟨hz5, hz4, hz6⟩
 clear hz4 hz5 hz6
 by_cases hgood : ec = 0 /\ its.length ≠ 0
 ·obtain ⟨rfl, h0⟩ := hgood
  have HOKR := zuy (parP_okR HPP.out)
  obtain ⟨hrs, hok⟩ := HOKR.out
  subst hrs
  generalize hmm : its.length = m at *
  have HMM := zuy hmm
  have H0 := zuy h0
  have q1 : ((m : Int) == 0) = false := by rw [zu2]; omega
  have q2 : ¬ (m : Int) = 0 := by omega
  have q3 : ¬ m = 0 := h0
  have HOKI := zuy hok
  clear hmm h0 hok
  go_wp2_with (first | (refine zi rfl 48 _ _ rfl w.heap.size #[.int .i64 0, .slice none 0 0] _ HKW.out rfl #[.int .i64 rs, .slice p5 m c5] rfl rfl (by kernel_rfl) (zr _ _ _ _) ?_
                        intro W7 hp7
                        have HP7 := zuy hp7
                        obtain ⟨z0, z1⟩ := zas hp7.here
                        clear hp7) | fail)
  refine bodyPost_ret (v := .agg #[.int .i64 rs, .slice p5 m c5]) (by simp [results, Tryz.results63, go_sem, z0, z1]) rfl ?_
  exact ⟨_, its, rfl, HP7.out.itvs HI6.out (fun c hc => by have := HO6.out c hc; have := HXW.out; omega), HOKI.out, by have := HMM.out; have := H0.out; omega, fun c hc => by have := HO6.out c hc; have := HXW.out; omega, HT6.out.grown HP7.out.grown (by intro e; cases e; have := HBW.out; omega) (by intro c e; cases e; exact HBW.out), zd9 (HGW.out.trans HG06.out) HP7.out.grown (zu0 _)⟩
 ·have HNG := zuy hgood
  have hcase : (ec != 0) = true ∨ (ec = 0 /\ its = []) := by
   by_cases he : ec = 0
   ·refine .inr ⟨he, ?_⟩
    by_cases hl : its.length = 0
    ·exact List.eq_nil_of_length_eq_zero hl
    ·exact absurd ⟨he, hl⟩ hgood
   ·exact .inl (by simpa using he)
  clear hgood
  rcases hcase with hcb | ⟨rfl, rfl⟩
  all_goals
   go_wp2_with fail
   generalize w5.alloc (.cells #[.int .i64 rs, .slice p5 _ c5] 48) = w6 at *
   generalize w5.heap.size = X at *
   refine (zhf n [42] w6 HM6.out (by decide)).mono ?_
   rintro e w8 ⟨u8, rfl, hu8, how8, hb8⟩
   rw [rng_star HN.out] at hu8 ⊢
   simp only at hu8 ⊢
   obtain ⟨p8, c8, rfl⟩ := hu8.slice
   have HT8 := zuy (HT6.out.below hb8)
   have HC8 := zuy ((hb8.block X (by have := HXW.out; omega)).trans HC6.out)
   have HK8 := zuy ((hb8.block w.heap.size (by have := HXW.out; omega)).trans HKW.out)
   have HG8 := zuy (HG06.out.trans (qm hb8 (some b)))
   have HI8 := zuy hu8
   have HO8 : Hid (∀ c, (Value.slice p8 1 c8).ownBlock = some c -> w6.heap.size ≤ c) := zuy how8
   clear hu8 how8 hb8 s0 s1
   unfold setV
   go_wp2_with (first | (refine zi rfl 48 _ _ rfl X _ _ HC8.out rfl #[.int .i64 n, .slice p8 1 c8] rfl rfl (by kernel_rfl) (zr _ _ _ _) ?_
                         intro W9 hp9
                         obtain ⟨s0, s1⟩ := zas hp9.here
                         have HP9 := zuy hp9
                         have HK9 := zuy ((hp9.grown.block w.heap.size (Array.getElem?_eq_some_iff.1 HK8.out).1 (by intro e; cases e; have := HXW.out; omega)).trans HK8.out)
                         clear hp9)
                      | (refine zi rfl 48 _ _ rfl w.heap.size #[.int .i64 0, .slice none 0 0] _ HK9.out rfl #[.int .i64 n, .slice p8 1 c8] rfl rfl (by kernel_rfl) (zr _ _ _ _) ?_
                         intro W7 hp7
                         have HP7 := zuy hp7
                         obtain ⟨z0, z1⟩ := zas hp7.here
                         clear hp7) | fail)
   refine bodyPost_ret (v := .agg #[.int .i64 n, .slice p8 1 c8]) (by simp [results, Tryz.results63, go_sem, z0, z1]) rfl ?_
   refine ⟨_, [⟨[], 0, [], 0⟩], rfl, HP7.out.itvs (HP9.out.itvs HI8.out (fun c hc => by have := HO8.out c hc; have := HXW.out; omega)) (fun c hc => by have := HO8.out c hc; have := HXW.out; omega), rng_full HN.out, by decide, fun c hc => by have := HO8.out c hc; have := HXW.out; omega, ?_, zd9 (zd9 (HGW.out.trans HG8.out) HP9.out.grown (by have := HXW.out; omega)) HP7.out.grown (zu0 _)⟩
   exact (HT8.out.grown HP9.out.grown (by intro e; cases e; have := HBW.out; have := HXW.out; omega) (by intro c e; cases e; have := HBW.out; have := HXW.out; omega)).grown HP7.out.grown (by intro e; cases e; have := HBW.out; omega) (by intro c e; cases e; exact HBW.out)
open Go.RowKit
def pE (p : Int × V.Bs) : List Value := [.int .i64 p.1, .string ⟨p.2.toArray⟩]
theorem ze4 (p : Int × V.Bs) : (pE p).length = 2 := rfl
theorem ziy (p : Int × V.Bs) : ∀ u ∈ pE p, u.oneCell' = true := by
 intro u hu
 simp [pE] at hu
 rcases hu with rfl | rfl <;> rfl
theorem zqv : xh 79 2 24 := by
 have h : (match Tryz.prog.info? 79 with | some i => i.size == 2 && (i.bytes == 24 && (match i.zero with | some z => z.cells.size == 2 | none => false)) | none => false) = true := by kernel_rfl
 unfold xh
 cases hq : Tryz.prog.info? 79 with
 | none => rw [hq] at h; cases h
 | some i =>
  exact zve
theorem zf8 : Tryz.prog.eqGuardType Tryz.prog.depth 79 = false := by kernel_rfl
theorem eq_pkg (x y : Int × V.Bs) (w : World) : (Op.equalIn 10000 79 (.agg #[.int .i64 x.1, .string ⟨x.2.toArray⟩]) (.agg #[.int .i64 y.1, .string ⟨y.2.toArray⟩])).run Tryz.prog w = .ok (decide (x = y)) w := by
 rw [run_equalIn_agg w 9999 79 _ _ (by kernel_rfl) (by kernel_rfl)]
 unfold Program.fieldsOf
 rw [Tryz.underlying79]
 simp only [Op.eqFields]
 simp [go_sem]
 obtain ⟨a, b⟩ := x
 obtain ⟨c, d⟩ := y
 by_cases h1 : a = c
 ·by_cases h2 : b = d
  ·simp [h1, h2]
  ·simp [h1, h2]
 ·simp [h1]
theorem znh (x y : Int × V.Bs) (w : World) : (binOp .eql 79 (.agg #[.int .i64 x.1, .string ⟨x.2.toArray⟩]) (.agg #[.int .i64 y.1, .string ⟨y.2.toArray⟩])).run Tryz.prog w = .ok (.bool (decide (x = y))) w := by
 rw [run_eql_struct, eq_pkg]
 rfl
theorem zfu (n m : Int) (s t : V.Bs) (w : World) :
  Calls Tryz.prog 75 #[.agg #[.int .i64 n, .string ⟨s.toArray⟩], .agg #[.int .i64 m, .string ⟨t.toArray⟩]] w fun e w' => e = .returned (.bool (decide (V.pkC (n, s) (m, t) < 0))) /\ Below w.heap.size w w' := zpa n m s t w
theorem GSl.pk {w : World} {a : Option Addr} {n cap : Nat} {l : List (Int × V.Bs)} (h : GSl 2 pE w (.slice a n cap) l) (j : Nat) (hj : j < l.length) : ∃ g off, a = some ⟨g, off, none⟩ /\ g < w.heap.size /\ w.cell? ⟨g, off + j * 2, none⟩ = some (.int .i64 l[j].1) /\ w.cell? ⟨g, off + j * 2 + 1, none⟩ = some (.string ⟨l[j].2.toArray⟩) := by
 obtain ⟨g, off, e, hg, hc⟩ := h.at j hj
 exact ⟨g, off, e, hg, hc 0 _ rfl, hc 1 _ rfl⟩
theorem zfq {w W : World} {B : Nat} {a : Int × V.Bs} {t : TypeId} (h : W = w.alloc (.cells #[.int .i64 a.1, .string ⟨a.2.toArray⟩] t)) (hB : B = w.heap.size) : ∀ j u, (pE a)[j]? = some u -> W.cell? ⟨B, j, none⟩ = some u := by
 intro j u hj
 rw [h, hB, zc, if_pos rfl]
 simpa [pE] using hj
theorem zx2 {P : Prop} (h : P := by
 (try dsimp only); exact ⟨hHeld.1.trans (hb7.mono hHeld.1.size), zb hb7 hHeld.2.1, zb hb7 hHeld.2.2.1, zb hb7 hHeld.2.2.2.1, zb hb7 hHeld.2.2.2.2⟩) : P := h
theorem zrc (v : Value) (l : List (Int × V.Bs)) (p : Int × V.Bs) (w : World) (hv : GSl 2 pE w v l) (hl : l.length ≤ 1000) :
  Calls Tryz.prog 62 #[v, .agg #[.int .i64 p.1, .string ⟨p.2.toArray⟩]] w fun e w' => ∃ u, e = .returned u /\ GRow 79 2 pE w' w.heap.size u (V.addP p l) /\ Below w.heap.size w w' := by
 obtain ⟨va, vc, rfl⟩ := hv.slice
 have hb0 : Below w.heap.size w (w.alloc (.cells #[.int .i64 p.1, .string ⟨p.2.toArray⟩] 79)) := (zu1 _ w).alloc (zu0 _) _
 have HB0 := zuy hb0
 have HV := zuy (hv.below hb0)
 have p0 : (w.alloc (.cells #[.int .i64 p.1, .string ⟨p.2.toArray⟩] 79)).cell? ⟨w.heap.size, 0, none⟩ = some (.int .i64 p.1) := by rw [World.cell?_alloc_new]; rfl
 have p1 : (w.alloc (.cells #[.int .i64 p.1, .string ⟨p.2.toArray⟩] 79)).cell? ⟨w.heap.size, 1, none⟩ = some (.string ⟨p.2.toArray⟩) := by rw [World.cell?_alloc_new]; rfl
 have Z0 := zuy p0
 have Z1 := zuy p1
 clear hb0 hv p0 p1
 go_enter Tryz.func62, Tryz.ntmps62
 go_wp2_with fail
 generalize w.alloc (.cells #[.int .i64 p.1, .string ⟨p.2.toArray⟩] 79) = w0 at *
 go_loopw [5, 6, 7] (fun ov dv iv wx => ∃ (k : Nat) (q : List (Int × V.Bs) × Bool), k ≤ l.length /\ iv = .int .i64 k /\ (q = V.jz p l k /\ dv = .bool q.2) /\ GRow 79 2 pE wx w0.heap.size ov q.1 /\ Below w0.heap.size w0 wx) (fun _ _ iv _ => l.length - (intOf iv).toNat)
 case atStart => exact ⟨0, _, Nat.zero_le _, rfl, ⟨rfl, rfl⟩, GRow.nil _ _, zu1 _ _⟩
 case round =>
  obtain ⟨k, ⟨o, d⟩, hk, rfl, ⟨hq, hdv⟩, hrow, hbl⟩ := hrel
  simp only at hdv hrow
  subst hdv
  obtain ⟨oa, oc, hov⟩ := hrow.slice
  subst hov
  have HROW := zuy hrow
  have HBR := zuy hbl
  have HQ := zuy hq
  have P0 := zuy (zb hbl Z0.out)
  have P1 := zuy (zb hbl Z1.out)
  have HLO : Hid (o.length ≤ 1001) := zuy (by have := (V.zec (p := p) (l := l) k hk).2.1; rw [← hq] at this; simp only at this; omega)
  clear hrow hbl hq
  by_cases hlt : k < l.length
  ·obtain ⟨g, off, rfl, hg, hx0, hx1⟩ := HV.out.pk k hlt
   have X0 := zuy hx0
   have X1 := zuy hx1
   have x0 := zb HBR.out hx0
   have x1 := zb HBR.out hx1
   have HST := zuy (V.zb9 (p := p) hlt)
   rw [← HQ.out] at HST
   simp only at HST
   have i1 : (0 : Int) ≤ (k : Int) := by omega
   have i2 : (k : Int) < (l.length : Int) := by omega
   have wr1 : IntKind.i64.wrap ((k : Int) + 1) = (k : Int) + 1 := IntWalk.i64_in _ (by omega)
   generalize l[k] = x at *
   clear hx0 hx1 HV
   rcases d with _ | _
   ·by_cases hls : V.pkC p x < 0
    ·have HN : Hid (V.jz p l (k + 1) = (o ++ [p] ++ [x], true)) := zuy (by rw [HST.out]; simp [hls])
     have hld : decide (V.pkC p x < 0) = true := decide_eq_true hls
     clear HST hls
     go_wp2_with fail
     refine wp_region_held_drew (S := (fun W' => Below wr.heap.size wr W' /\ W'.cell? ⟨w.heap.size, 0, none⟩ = some (.int .i64 p.1) /\ W'.cell? ⟨w.heap.size, 1, none⟩ = some (.string ⟨p.2.toArray⟩) /\ W'.cell? ⟨g, off + k * 2, none⟩ = some (.int .i64 x.1) /\ W'.cell? ⟨g, off + k * 2 + 1, none⟩ = some (.string ⟨x.2.toArray⟩))) (by kernel_rfl) (⟨(zu1 _ _).drew, zb (zu1 _ _).drew P0.out, zb (zu1 _ _).drew P1.out, zb (zu1 _ _).drew x0, zb (zu1 _ _).drew x1⟩) (fun hHeld => ?_)
     refine tk 0 ?_
     refine tk 1 ?_
     refine tk 2 ?_
     refine tk 3 ?_
     refine tk 4 ?_
     refine tk 5 ?_
     refine tk 6 ?_
     refine tk 7 ?_
     refine rd 8 fun K hK => ?_
     go_simp
     refine (zfu p.1 x.1 p.2 x.2 _).mono ?_
     rintro e w7 ⟨rfl, hb7⟩
     try dsimp only
     refine hK.out _ _ ?_ (fun hHeld => nx ?_)
     ·exact zx2
     clear hK K
     refine tk 9 ?_
     refine wpAnyH_done (by kernel_rfl) ?_ _
     rw [show V.pkC (p.1, p.2) (x.1, x.2) = V.pkC p x from rfl, hld]
     have HBR7 := zuy (HBR.out.trans (hHeld.1.mono HBR.out.size))
     have HROW7 := zuy (GRow.below HROW.out hHeld.1)
     have q0 := hHeld.2.1
     have q1 := hHeld.2.2.1
     clear hb7 hHeld x0 x1 hld
     have hbYf : Below w7.heap.size w7 (w7.alloc (.cells #[.int .i64 p.1, .string ⟨p.2.toArray⟩] 79)) := (zu1 _ _).alloc (zu0 _) _
     have HRZf := zuy (GRow.below HROW7.out hbYf)
     have HBYf := zuz HBR7 hbYf
     have HNWf : Hid (∀ j u, (pE p)[j]? = some u -> (w7.alloc (.cells #[.int .i64 p.1, .string ⟨p.2.toArray⟩] 79)).cell? ⟨w7.heap.size, j, none⟩ = some u) := zuy (zfq (w := w7) (t := 79) rfl rfl)
     clear hbYf
     go_wp2_with (first | (refine zp ze4 (by decide) ziy zqv (by decide) rfl _ _ 74 rfl Tryz.underlying74 w0.heap.size _ o rfl HRZf.out w7.heap.size p rfl HNWf.out (by have := HLO.out; (try simp only [List.length_append, List.length_cons, List.length_nil]); omega) HBYf.out.size ?_
                           intro vf wf hrf hgf
                           have HBRf := zuy (HBYf.out.trans (zl hgf (GRow.block HRZf.out) (zu0 _) HBYf.out.size))
                           have HROWf := zuy hrf
                           clear hgf hrf) | fail)
     clear q0 q1
     have HX : Hid (Below w0.heap.size w0 wf) := HBRf
     have y0 := zb HX.out X0.out
     have y1 := zb HX.out X1.out
     have z0 := zb HX.out Z0.out
     have z1 := zb HX.out Z1.out
     have hgd := zf8
     have heq := znh x p
     by_cases hxp : x = p
     all_goals
      first | (rw [decide_eq_true hxp] at heq) | (rw [decide_eq_false hxp] at heq)
      have HXP := zuy hxp
      clear hxp
      go_wp2_with fail
      go_quiet (fail)
      rename_i nq
      have hbq : Below wf.heap.size wf (wf.drewN nq) := below_drewN (zu1 _ _) nq
      have HROWq := zuy (GRow.below HROWf.out hbq)
      have HBRq := zuz HX hbq
      replace y0 := zb hbq y0
      replace y1 := zb hbq y1
      generalize wf.drewN nq = wq at *
      clear hbq z0 z1 heq hgd
      have hbYe : Below wq.heap.size wq (wq.alloc (.cells #[.int .i64 x.1, .string ⟨x.2.toArray⟩] 79)) := (zu1 _ _).alloc (zu0 _) _
      have HRZe := zuy (GRow.below HROWq.out hbYe)
      have HBYe := zuz HBRq hbYe
      have HNWe : Hid (∀ j u, (pE x)[j]? = some u -> (wq.alloc (.cells #[.int .i64 x.1, .string ⟨x.2.toArray⟩] 79)).cell? ⟨wq.heap.size, j, none⟩ = some u) := zuy (zfq (w := wq) (t := 79) rfl rfl)
      clear hbYe
      go_wp2_with (first | (refine zp ze4 (by decide) ziy zqv (by decide) rfl _ _ 74 rfl Tryz.underlying74 w0.heap.size _ (o ++ [p]) rfl HRZe.out wq.heap.size x rfl HNWe.out (by have := HLO.out; (try simp only [List.length_append, List.length_cons, List.length_nil]); omega) HBYe.out.size ?_
                            intro ve we hre hge
                            have HBRe := zuy (HBYe.out.trans (zl hge (GRow.block HRZe.out) (zu0 _) HBYe.out.size))
                            have HROWe := zuy hre
                            clear hge hre) | fail)
      go_roundw
      case rel => exact ⟨k + 1, _, by omega, by go_num, ⟨HN.out.symm, rfl⟩, HROWe.out, HBRe.out⟩
      case measure => simp [intOf]; omega
    ·have hld : decide (V.pkC p x < 0) = false := decide_eq_false hls
     have HN : Hid (V.jz p l (k + 1) = (o ++ [x], decide (x = p))) := zuy (by rw [HST.out]; simp [hls])
     clear HST hls
     go_wp2_with fail
     refine wp_region_held_drew (S := (fun W' => Below wr.heap.size wr W' /\ W'.cell? ⟨w.heap.size, 0, none⟩ = some (.int .i64 p.1) /\ W'.cell? ⟨w.heap.size, 1, none⟩ = some (.string ⟨p.2.toArray⟩) /\ W'.cell? ⟨g, off + k * 2, none⟩ = some (.int .i64 x.1) /\ W'.cell? ⟨g, off + k * 2 + 1, none⟩ = some (.string ⟨x.2.toArray⟩))) (by kernel_rfl) (⟨(zu1 _ _).drew, zb (zu1 _ _).drew P0.out, zb (zu1 _ _).drew P1.out, zb (zu1 _ _).drew x0, zb (zu1 _ _).drew x1⟩) (fun hHeld => ?_)
     refine tk 0 ?_
     refine tk 1 ?_
     refine tk 2 ?_
     refine tk 3 ?_
     refine tk 4 ?_
     refine tk 5 ?_
     refine tk 6 ?_
     refine tk 7 ?_
     refine rd 8 fun K hK => ?_
     go_simp
     refine (zfu p.1 x.1 p.2 x.2 _).mono ?_
     rintro e w7 ⟨rfl, hb7⟩
     try dsimp only
     refine hK.out _ _ ?_ (fun hHeld => nx ?_)
     ·exact zx2
     clear hK K
     refine tk 9 ?_
     refine wpAnyH_done (by kernel_rfl) ?_ _
     rw [show V.pkC (p.1, p.2) (x.1, x.2) = V.pkC p x from rfl, hld]
     have HBR7 := zuy (HBR.out.trans (hHeld.1.mono HBR.out.size))
     have HROW7 := zuy (GRow.below HROW.out hHeld.1)
     clear hb7 hHeld x0 x1 hld
     have HX : Hid (Below w0.heap.size w0 w7) := HBR7
     have y0 := zb HX.out X0.out
     have y1 := zb HX.out X1.out
     have z0 := zb HX.out Z0.out
     have z1 := zb HX.out Z1.out
     have hgd := zf8
     have heq := znh x p
     by_cases hxp : x = p
     all_goals
      first | (rw [decide_eq_true hxp] at heq) | (rw [decide_eq_false hxp] at heq)
      have HXP := zuy hxp
      clear hxp
      go_wp2_with fail
      go_quiet (fail)
      rename_i nq
      have hbq : Below w7.heap.size w7 (w7.drewN nq) := below_drewN (zu1 _ _) nq
      have HROWq := zuy (GRow.below HROW7.out hbq)
      have HBRq := zuz HX hbq
      replace y0 := zb hbq y0
      replace y1 := zb hbq y1
      generalize w7.drewN nq = wq at *
      clear hbq z0 z1 heq hgd
      have hbYe : Below wq.heap.size wq (wq.alloc (.cells #[.int .i64 x.1, .string ⟨x.2.toArray⟩] 79)) := (zu1 _ _).alloc (zu0 _) _
      have HRZe := zuy (GRow.below HROWq.out hbYe)
      have HBYe := zuz HBRq hbYe
      have HNWe : Hid (∀ j u, (pE x)[j]? = some u -> (wq.alloc (.cells #[.int .i64 x.1, .string ⟨x.2.toArray⟩] 79)).cell? ⟨wq.heap.size, j, none⟩ = some u) := zuy (zfq (w := wq) (t := 79) rfl rfl)
      clear hbYe
      go_wp2_with (first | (refine zp ze4 (by decide) ziy zqv (by decide) rfl _ _ 74 rfl Tryz.underlying74 w0.heap.size _ o rfl HRZe.out wq.heap.size x rfl HNWe.out (by have := HLO.out; (try simp only [List.length_append, List.length_cons, List.length_nil]); omega) HBYe.out.size ?_
                            intro ve we hre hge
                            have HBRe := zuy (HBYe.out.trans (zl hge (GRow.block HRZe.out) (zu0 _) HBYe.out.size))
                            have HROWe := zuy hre
                            clear hge hre) | fail)
      go_roundw
      case rel => exact ⟨k + 1, _, by omega, by go_num, ⟨HN.out.symm, by first | (rw [decide_eq_true HXP.out]) | (rw [decide_eq_false HXP.out])⟩, HROWe.out, HBRe.out⟩
      case measure => simp [intOf]; omega
   ·have HN : Hid (V.jz p l (k + 1) = (o ++ [x], true)) := zuy (by rw [HST.out]; simp)
    clear HST
    go_wp2_with fail
    go_quiet (fail)
    have hbr : Below wr.heap.size wr (wr.drewN nq) := below_drewN (zu1 _ _) nq
    have HROW7 := zuy (GRow.below HROW.out hbr)
    have HBR7 := zuz HBR hbr
    generalize wr.drewN nq = w7 at *
    clear nq
    clear hbr x0 x1
    have HX : Hid (Below w0.heap.size w0 w7) := HBR7
    have y0 := zb HX.out X0.out
    have y1 := zb HX.out X1.out
    have z0 := zb HX.out Z0.out
    have z1 := zb HX.out Z1.out
    have hgd := zf8
    have heq := znh x p
    by_cases hxp : x = p
    all_goals
     first | (rw [decide_eq_true hxp] at heq) | (rw [decide_eq_false hxp] at heq)
     have HXP := zuy hxp
     clear hxp
     go_wp2_with fail
     go_quiet (fail)
     rename_i nq
     have hbq : Below w7.heap.size w7 (w7.drewN nq) := below_drewN (zu1 _ _) nq
     have HROWq := zuy (GRow.below HROW7.out hbq)
     have HBRq := zuz HX hbq
     replace y0 := zb hbq y0
     replace y1 := zb hbq y1
     generalize w7.drewN nq = wq at *
     clear hbq z0 z1 heq hgd
     have hbYe : Below wq.heap.size wq (wq.alloc (.cells #[.int .i64 x.1, .string ⟨x.2.toArray⟩] 79)) := (zu1 _ _).alloc (zu0 _) _
     have HRZe := zuy (GRow.below HROWq.out hbYe)
     have HBYe := zuz HBRq hbYe
     have HNWe : Hid (∀ j u, (pE x)[j]? = some u -> (wq.alloc (.cells #[.int .i64 x.1, .string ⟨x.2.toArray⟩] 79)).cell? ⟨wq.heap.size, j, none⟩ = some u) := zuy (zfq (w := wq) (t := 79) rfl rfl)
     clear hbYe
     go_wp2_with (first | (refine zp ze4 (by decide) ziy zqv (by decide) rfl _ _ 74 rfl Tryz.underlying74 w0.heap.size _ o rfl HRZe.out wq.heap.size x rfl HNWe.out (by have := HLO.out; (try simp only [List.length_append, List.length_cons, List.length_nil]); omega) HBYe.out.size ?_
                           intro ve we hre hge
                           have HBRe := zuy (HBYe.out.trans (zl hge (GRow.block HRZe.out) (zu0 _) HBYe.out.size))
                           have HROWe := zuy hre
                           clear hge hre) | fail)
     go_roundw
     case rel => exact ⟨k + 1, _, by omega, by go_num, ⟨HN.out.symm, rfl⟩, HROWe.out, HBRe.out⟩
     case measure => simp [intOf]; omega
  ·obtain rfl : k = l.length := by omega
   have HBE := zuy (HB0.out.trans (HBR.out.mono HB0.out.size))
   have q0 := P0.out
   have q1 := P1.out
   rcases d with _ | _
   ·have HR : Hid (V.addP p l = o ++ [p]) := zuy (by unfold V.addP; rw [← HQ.out]; rfl)
    clear HQ
    have hbYf : Below wr.heap.size wr (wr.alloc (.cells #[.int .i64 p.1, .string ⟨p.2.toArray⟩] 79)) := (zu1 _ _).alloc (zu0 _) _
    have HRZf := zuy (GRow.below HROW.out hbYf)
    have HBYf := zuz HBR hbYf
    have HNWf : Hid (∀ j u, (pE p)[j]? = some u -> (wr.alloc (.cells #[.int .i64 p.1, .string ⟨p.2.toArray⟩] 79)).cell? ⟨wr.heap.size, j, none⟩ = some u) := zuy (zfq (w := wr) (t := 79) rfl rfl)
    clear hbYf
    go_wp2_with (first | (refine zp ze4 (by decide) ziy zqv (by decide) rfl _ _ 74 rfl Tryz.underlying74 w0.heap.size _ o rfl HRZf.out wr.heap.size p rfl HNWf.out (by have := HLO.out; (try simp only [List.length_append, List.length_cons, List.length_nil]); omega) HBYf.out.size ?_
                          intro vf wf hrf hgf
                          have HBRf := zuy (HBYf.out.trans (zl hgf (GRow.block HRZf.out) (zu0 _) HBYf.out.size))
                          have HROWf := zuy hrf
                          clear hgf hrf) | fail)
    have HBF := zuy (HB0.out.trans (HBRf.out.mono HB0.out.size))
    go_ret
    exact ⟨_, rfl, by rw [HR.out]; exact GRow.weaken HROWf.out HB0.out.size, HBF.out⟩
   ·have HR : Hid (V.addP p l = o) := zuy (by unfold V.addP; rw [← HQ.out]; rfl)
    clear HQ q0 q1
    go_wp2
    go_ret
    exact ⟨_, rfl, by rw [HR.out]; exact GRow.weaken HROW.out HB0.out.size, HBE.out⟩
open Go.RowKit
theorem zbg {α : Type} {enc : α -> List Value} {k : Nat} {T : TypeId} {ops : Array Oper} {o : Oper} {a : Act} {w : World} {K : Act -> World -> Prop} {Q : Exit -> Act -> World -> Prop} {E : Prop} (hk : ∀ x, (enc x).length = k) (hk0 : 0 < k) (h1c : ∀ x, ∀ u ∈ enc x, u.oneCell' = true) {bytes : Nat} (hi : xh T k bytes) (hby : bytes ≤ 1000) (hgd : o.guard = none) (s x : Operand) (S : TypeId)
  (ho : o.op = .call { callee := .builtin .append, args := #[s, x], argTypes := #[S, S] }) (hu : Tryz.prog.underlying S = some (.slice T))
  (N : Nat) (v : Value) (l : List α) (hs : a.eval s = v) (hown : GRow T k enc w N v l) (b : Nat) (c : α) (hx : a.eval x = .slice (some ⟨b, 0, none⟩) 1 1) (hr : ∀ j u, (enc c)[j]? = some u -> w.cell? ⟨b, j, none⟩ = some u) (hl : l.length ≤ 900000) (hN : N ≤ w.heap.size)
  (h : ∀ v' w', GRow T k enc w' N v' (l ++ [c]) -> w.grownBy w' v.ownBlock -> (v'.ownBlock = v.ownBlock ∨ v'.ownBlock = some w.heap.size) -> K (a.put o.dst v') w') : if Region.wanted o (yielded ops a.tmps) = true then Oper.wp Tryz.prog o a w K Q else E := by
 rw [if_pos (by simp [Region.wanted, hgd])]
 obtain ⟨ie, z, hie, hz, h1, h2, h3⟩ := hi
 obtain ⟨v', w', hr', ho', hg, _, hob⟩ := run_append_own_at (P := Tryz.prog) w N S o.type T ie z k bytes hu hie hz h1 h2 h3 hk0 v l.length (l.flatMap enc) hown ⟨b, 0, none⟩ 1 1 (enc c) (by rw [hk]; omega) (fun j u hj => by
   rw [Addr.add_mid, Nat.zero_add]
   exact hr j u hj) (h1c c) (by unfold maxLen; omega) (by
     have : (l.length + 1) * bytes ≤ 1000001 * 1000 := Nat.mul_le_mul (by omega) hby
     omega) hN
 unfold Oper.wp execOp
 simp only [ho, resolve, invoke, builtin, Sem.run_bind, Sem.run_pure, Result.andThen_ok, List.map_toArray, List.map_cons, List.map_nil, hs, hx, hr']
 refine h v' w' ?_ hg hob
 unfold GRow
 rw [List.length_append, List.flatMap_append]
 simpa using ho'
open Go.RowKit
theorem zf6 {ops : Array Oper} {o : Oper} {a : Act} {w : World} {K : Act -> World -> Prop} {Q : Exit -> Act -> World -> Prop} {E : Prop} (hgd : o.guard = none) (v : Value) (he : (execOp a.eval o).run Tryz.prog w = .ok (.value v) w)
  (h : K (a.put o.dst v) w) : if Region.wanted o (yielded ops a.tmps) = true then Oper.wp Tryz.prog o a w K Q else E := by
 rw [if_pos (by simp [Region.wanted, hgd])]
 unfold Oper.wp
 rw [he]
 exact h
theorem zf7 {ops : Array Oper} {o : Oper} {a : Act} {w : World} {K : Act -> World -> Prop} {Q : Exit -> Act -> World -> Prop} {E : Prop} (hgd : o.guard = none) (ty : TypeId) (x y : Operand) (ho : o.op = .store ty x y)
  (b off : Nat) (hx : a.eval x = .pointer (some ⟨b, off, none⟩)) (v : Value) (hy : a.eval y = v) (u : Value) (hc : w.cell? ⟨b, off, none⟩ = some u) (hf : w.frozen? ⟨b, off, none⟩ = false) (hi : (Tryz.prog.info? ty).map (·.size) = some 1) (h1 : v.oneCell' = true)
  (h : K (a.put o.dst undef) (w.setCell ⟨b, off, none⟩ v)) : if Region.wanted o (yielded ops a.tmps) = true then Oper.wp Tryz.prog o a w K Q else E := by
 rw [if_pos (by simp [Region.wanted, hgd])]
 unfold Oper.wp execOp
 simp only [ho, hx, hy, Instr.storeAt, Instr.sureAddr, Sem.run_bind, Sem.run_pure, Result.andThen_ok, zsg hc hf hi h1]
 exact h
theorem qj {W W' : World} {row : Option Nat} {b o : Nat} {u : Value} (hg : W.grownBy W' row) (hb : row ≠ some b) (h : W.cell? ⟨b, o, none⟩ = some u) : W'.cell? ⟨b, o, none⟩ = some u := hg.cell h (fun e => hb e.symm)
structure R18 (wr W : World) (X : Nat) (rs : Int) (u : Value) (its : List V.Itv) : Prop where
 below : Below wr.heap.size wr W
 heap : W.heap[X]? = some (.cells #[.int .i64 rs, u] 48 (0, 0))
 itvs : Itvs W u its
 own : ∀ c, u.ownBlock = some c -> wr.heap.size ≤ c
 base : wr.heap.size ≤ X
theorem R18.two {wr wd w7 W9 : World} {o : Obj} {rs : Int} {u : Value} {its : List V.Itv} (hz : wr.heap.size ≤ wd.heap.size) (hu : Itvs w7 u its) (how : ∀ c, u.ownBlock = some c -> wd.heap.size ≤ c) (hb7 : Below wd.heap.size wd w7) (hb : Below wr.heap.size wr (w7.alloc o)) (hp : PutAt (w7.alloc o) W9 w7.heap.size #[.int .i64 rs, u] 48) : R18 wr W9 w7.heap.size rs u its := by
 have hz7 : wr.heap.size ≤ w7.heap.size := Nat.le_trans hz hb7.size
 refine ⟨hp.below hb hz7, hp.here, (hu.below ((zu1 _ w7).alloc (zu0 _) o)).grown hp.grown (fun hne c hc e => ?_), (fun c hc => by have := how c hc; omega), hz7⟩
 have := hu.lt hne hc
 cases e
 omega
theorem VInv.fin {V0 : World} {N0 O : Nat} {i r s v : Value} {us : List Fs} {W w8 : World} {p : Fs} {v8 : Value} (h : VInv V0 N0 O i r s v us W) (hr8 : GRow 50 4 fE w8 O v8 (us ++ [p])) (hg8 : W.grownBy w8 v.ownBlock) (ho8 : v8.ownBlock = v.ownBlock ∨ v8.ownBlock = some W.heap.size) (hp : FOk W v p) (how : ∀ c, p.2.v.ownBlock = some c -> O < c) :
  ∃ va vc, v8 = .slice va (us.length + 1) vc /\ w8.cell? ⟨O, 3, none⟩ = some v /\ w8.frozen? ⟨O, 3, none⟩ = false /\ VInv V0 N0 O i r s v8 (us ++ [p]) (w8.setCell ⟨O, 3, none⟩ v8) := by
 have hk8 := h.invKept hg8
 have hfr := h.row.add hr8 hg8 ho8 hp
 obtain ⟨va, vc, e⟩ := hfr.slice
 exact ⟨va, vc, by rw [e]; simp, (uk hk8).2.2.2, ziw hk8, h.append hfr hg8 how⟩
end Go.Proofs.YtnhfaincdabdkaaGreatDoor
