/-
  Lemmas for the law.
-/
import Derived.Test.YtbikeahmldobkaaGreatDoorC51x44
import Derived.Test.YtbikeahmldobkaaGreatDoorC51x21
import Derived.Test.YtbikeahmldobkaaGreatDoorC51x25
import Derived.Test.YtbikeahmldobkaaGreatDoorC51x40
import Derived.Test.YtbikeahmldobkaaGreatDoorC51x23
import Derived.Test.YtbikeahmldobkaaGreatDoorC51x18
import Derived.Test.YtbikeahmldobkaaGreatDoorC51x19
import Derived.Test.YtbikeahmldobkaaGreatDoorC51x42
import Derived.Test.YtbikeahmldobkaaGreatDoorC51x34
import Derived.Test.YtbikeahmldobkaaGreatDoorC51x22
import Derived.Test.YtbikeahmldobkaaGreatDoorC51x24
import Derived.Test.YtbikeahmldobkaaGreatDoorC51x05
import Derived.Test.YtbikeahmldobkaaGreatDoorC51x28
import Derived.Laws.StructEq
import Derived.Deep.RegionHeld3
import Derived.Lib.BufferRead
import Derived.Lib.Bytes
import Derived.RangeFuncLeaves
import Derived.Shelf.Bytes.SlCut
import Derived.WalkMore
set_option linter.all false
set_option maxRecDepth 100000
set_option maxHeartbeats 6400000
namespace Go.Proofs.YtbikeahmldobkaaGreatDoor
open Go.RowKit
theorem zj.tape {w w' : World} {b k : Nat} (hm : zj w) (ht : Tape w b k) (hg : w.grownBy w' (some b)) : zj w' := by
 obtain ⟨m, hm⟩ := hm
 obtain ⟨a, n, cap, p, c0, _⟩ := ht
 exact ⟨m, hg.cell hm (fun e => by cases e; rw [c0] at hm; cases hm)⟩
theorem zcr {w w6 W7 : World} {b g : Nat} (h : w.grownBy w6 (some b)) (k : w6.grownBy W7 (some g)) (hg : w.heap.size ≤ g) : w.grownBy W7 (some b) :=
 ⟨k.os.trans h.os, k.tape.trans h.tape, k.output.trans h.output, Nat.le_trans h.size k.size, fun i hi hr => (k.block i (Nat.lt_of_lt_of_le hi h.size) (by intro e; cases e; omega)).trans (h.block i hi hr)⟩
def RngPost (b k : Nat) (n : Int) (w : World) (e : Ending) (w' : World) : Prop :=
 ∃ u l, e = .returned (setV n u) /\ Itvs w' u l /\ V.okR n l = true /\ 1 ≤ l.length /\ (∀ c, u.ownBlock = some c -> w.heap.size ≤ c) /\ Tape w' b (k + 3) /\ w.grownBy w' (some b)
def rngL (s t : ByteArray) : List ByteArray := [⟨#[42]⟩, (⟨#[62, 61]⟩ : ByteArray) ++ s, (⟨#[60]⟩ : ByteArray) ++ s, (⟨#[61]⟩ : ByteArray) ++ s, (⟨#[62]⟩ : ByteArray) ++ s ++ ⟨#[32, 60, 61]⟩ ++ t, (⟨#[60]⟩ : ByteArray) ++ s ++ ⟨#[32, 124, 124, 32, 62, 61]⟩ ++ t, (⟨#[60, 61]⟩ : ByteArray) ++ s]
theorem rngL_len {s t : ByteArray} (hs : s.size ≤ 64) (ht : t.size ≤ 64) : ∀ x ∈ (rngL s t).map (·.data.toList), x.length ≤ 200 := by
 intro x hx
 obtain ⟨y, hy, rfl⟩ := List.mem_map.1 hx
 have hz : y.size ≤ 200 := by
  simp only [rngL, List.mem_cons, List.not_mem_nil, or_false] at hy
  rcases hy with rfl | rfl | rfl | rfl | rfl | rfl | rfl
  ·decide
  ·rw [ByteArray.size_append]; show 2 + s.size ≤ 200; omega
  ·rw [ByteArray.size_append]; show 1 + s.size ≤ 200; omega
  ·rw [ByteArray.size_append]; show 1 + s.size ≤ 200; omega
  ·rw [ByteArray.size_append, ByteArray.size_append, ByteArray.size_append]; show 1 + s.size + 3 + t.size ≤ 200; omega
  ·rw [ByteArray.size_append, ByteArray.size_append, ByteArray.size_append]; show 1 + s.size + 6 + t.size ≤ 200; omega
  ·rw [ByteArray.size_append]; show 2 + s.size ≤ 200; omega
 exact hz
theorem rng_star {n : Int} (h : V.scheme n = true) : V.parP n [42] = (n, [⟨[], 0, [], 0⟩], 0) := by
 have hs : n = 1 ∨ n = 2 ∨ n = 3 := by unfold V.scheme at h; simpa [or_assoc] using h
 rcases hs with e | e | e <;> subst e
 ·exact (show V.parP 1 [42] = (1, [⟨[], 0, [], 0⟩], 0) by kernel_rfl)
 ·exact (show V.parP 2 [42] = (2, [⟨[], 0, [], 0⟩], 0) by kernel_rfl)
 ·exact (show V.parP 3 [42] = (3, [⟨[], 0, [], 0⟩], 0) by kernel_rfl)
theorem rng_full {n : Int} (h : V.scheme n = true) : V.okR n [⟨[], 0, [], 0⟩] = true := by
 have hs : n = 1 ∨ n = 2 ∨ n = 3 := by unfold V.scheme at h; simpa [or_assoc] using h
 rcases hs with e | e | e <;> subst e
 ·exact (show V.okR 1 [⟨[], 0, [], 0⟩] = true by kernel_rfl)
 ·exact (show V.okR 2 [⟨[], 0, [], 0⟩] = true by kernel_rfl)
 ·exact (show V.okR 3 [⟨[], 0, [], 0⟩] = true by kernel_rfl)
theorem zpt (n : Int) (s : V.Bs) : V.ug n s ≠ (none, 0) := by
 unfold V.ug
 repeat' split
 all_goals (intro h; simp at h)
theorem parP_okR {n : Int} {s : V.Bs} {rs : Int} {l : List V.Itv} (h : V.parP n s = (rs, l, 0)) : rs = n /\ V.okR n l = true := by
 unfold V.parP at h
 split at h
 ·rename_i l' c hq
  cases h
  exact ⟨rfl, V.of_ok (V.zqu (by rw [hq])).1⟩
 ·rename_i c hq
  cases h
  exact absurd hq (zpt _ _)
theorem zji (b k : Nat) (n : Int) (w : World) (hm : zj w) (h : Tape w b k) (hk : k ≤ 900000) (hn : V.scheme n = true) :
  Calls Tryz.prog 62 #[.pointer (some ⟨b, 0, none⟩), .int .i64 n] w (RngPost b k n w) := by
 have g7 : Below w.heap.size w (w.alloc (.cells #[.int .i64 0, .slice none 0 0] 68)) := (zvb _ w).alloc (zva _) _
 have j3 := zu8 (hm.below g7)
 have h1 := zu8 (h.below g7)
 have v2 : Hid ((w.alloc (.cells #[.int .i64 0, .slice none 0 0] 68)).heap[w.heap.size]? = some (.cells #[.int .i64 0, .slice none 0 0] 68 (0, 0))) := zu8 (heap_alloc_new w _)
 have j4 := zu8 (zm g7 (some b))
 have g1 := zu8 h.lt
 have HN := zu8 hn
 have j5 : (w.alloc (.cells #[.int .i64 0, .slice none 0 0] 68)).heap.size = w.heap.size + 1 := by simp
 have HZ0 := zu8 j5
 clear g7 hm h hn j5
 go_enter Tryz.func62, Tryz.ntmps62
 go_wp2_with fail
 generalize w.alloc (.cells #[.int .i64 0, .slice none 0 0] 68) = w0 at *
 refine (za4 b k n w0 h1.out (by omega) HN.out).mono ?_
 rintro e w1 ⟨xa, ha, rfl, ht1, hg1⟩
 have j6 := zu8 (j3.out.tape h1.out hg1)
 have HT1 := zu8 ht1
 have HG1 := zu8 hg1
 clear ht1 hg1
 go_wp2_with fail
 refine (za4 b (k + 1) n w1 HT1.out (by omega) HN.out).mono ?_
 rintro e w2 ⟨xb, hb, rfl, j7, h2⟩
 have j8 := zu8 (j6.out.tape HT1.out h2)
 have h3 := zu8 j7
 have h4 := zu8 (HG1.out.trans h2)
 have j9 : (⟨xa.toArray⟩ : ByteArray).size ≤ 64 := by simpa [ByteArray.size] using (V.valid_len ha).2
 have k0 : (⟨xb.toArray⟩ : ByteArray).size ≤ 64 := by simpa [ByteArray.size] using (V.valid_len hb).2
 clear j7 h2 ha hb j3 h1 j6 HT1 HG1
 generalize (⟨xa.toArray⟩ : ByteArray) = s at *
 generalize (⟨xb.toArray⟩ : ByteArray) = t at *
 have q1 : ¬ (9223372036854775807 < 2 + s.size) := by omega
 have q2 : ¬ (9223372036854775807 < 1 + s.size) := by omega
 have q3 : ¬ (9223372036854775807 < 1 + s.size + 3) := by omega
 have q4 : ¬ (9223372036854775807 < 1 + s.size + 3 + t.size) := by omega
 have q5 : ¬ (9223372036854775807 < 1 + s.size + 6) := by omega
 have q6 : ¬ (9223372036854775807 < 1 + s.size + 6 + t.size) := by omega
 have HL := zu8 (rngL_len j9 k0)
 have v3 : w.heap.size + 1 ≤ w2.heap.size := by have := h4.out.size; have := HZ0.out; omega
 go_wp2_with fail
 clear q1 q2 q3 q4 q5 q6 j9 k0
 have hb3 : Below w2.heap.size w2 (w2.alloc (.cells #[.string (⟨#[42]⟩), .string ((⟨#[62, 61]⟩ : ByteArray) ++ s), .string ((⟨#[60]⟩ : ByteArray) ++ s), .string ((⟨#[61]⟩ : ByteArray) ++ s), .string ((⟨#[62]⟩ : ByteArray) ++ s ++ ⟨#[32, 60, 61]⟩ ++ t), .string ((⟨#[60]⟩ : ByteArray) ++ s ++ ⟨#[32, 124, 124, 32, 62, 61]⟩ ++ t), .string ((⟨#[60, 61]⟩ : ByteArray) ++ s)] 9)) := (zvb _ w2).alloc (zva _) _
 have k1 := zu8 (j8.out.below hb3)
 have h5 := zu8 (h3.out.below hb3)
 have k2 := zu8 (h4.out.trans (zm hb3 (some b)))
 refine (zao b (k + 2) (w2.alloc (.cells #[.string (⟨#[42]⟩), .string ((⟨#[62, 61]⟩ : ByteArray) ++ s), .string ((⟨#[60]⟩ : ByteArray) ++ s), .string ((⟨#[61]⟩ : ByteArray) ++ s), .string ((⟨#[62]⟩ : ByteArray) ++ s ++ ⟨#[32, 60, 61]⟩ ++ t), .string ((⟨#[60]⟩ : ByteArray) ++ s ++ ⟨#[32, 124, 124, 32, 62, 61]⟩ ++ t), .string ((⟨#[60, 61]⟩ : ByteArray) ++ s)] 9)) ⟨w2.heap.size, 0, none⟩ 7 ((rngL s t).map (·.data.toList)) h5.out (by omega) (by simp [rngL]) (by simp [rngL]) (by have := h3.out.lt; simp; omega) rfl (fun j hj => by
   rw [World.cell?_alloc_new, Nat.zero_add]
   have h7 : j = 0 ∨ j = 1 ∨ j = 2 ∨ j = 3 ∨ j = 4 ∨ j = 5 ∨ j = 6 := by simp [rngL] at hj; omega
   rcases h7 with rfl | rfl | rfl | rfl | rfl | rfl | rfl <;> rfl)).mono ?_
 rintro e w4 ⟨x, hx, rfl, k3, hg4⟩
 have HX := zu8 (HL.out x hx)
 have h6 := zu8 (k1.out.tape h5.out hg4)
 have k4 := zu8 k3
 have k5 := zu8 (k2.out.trans hg4)
 have hz4 : w.heap.size + 1 ≤ w4.heap.size := by have := hg4.size; have := hb3.size; omega
 clear hb3 hx k3 hg4 j8 h3 h4 k1 h5 k2 HL v3
 go_wp2_with fail
 refine (zg5 n x w4 h6.out (by have := HX.out; unfold maxLen; omega)).mono ?_
 rintro e w5 ⟨u5, rfl, hu5, how5, hb5⟩
 obtain ⟨⟨rs, its, ec⟩, h8⟩ : ∃ p, V.parP n x = p := ⟨_, rfl⟩
 rw [h8] at hu5 ⊢
 simp only at hu5 ⊢
 have v4 := zu8 h8
 obtain ⟨p5, c5, rfl⟩ := hu5.slice
 have g8 : Below w4.heap.size w4 (w5.alloc (.cells #[.int .i64 rs, .slice p5 its.length c5] 68)) := hb5.alloc hb5.size _
 have v5 := zu8 (h6.out.below g8)
 have k6 := zu8 (k4.out.below g8)
 have g6 := zu8 (k5.out.trans (zm g8 (some b)))
 have HI6 := zu8 (hu5.below ((zvb _ w5).alloc (zva _) (.cells #[.int .i64 rs, .slice p5 its.length c5] 68)))
 have k7 : Hid (∀ c, (Value.slice p5 its.length c5).ownBlock = some c -> w4.heap.size ≤ c) := zu8 how5
 have k8 : Hid ((w5.alloc (.cells #[.int .i64 rs, .slice p5 its.length c5] 68)).heap[w5.heap.size]? = some (.cells #[.int .i64 rs, .slice p5 its.length c5] 68 (0, 0))) := zu8 (heap_alloc_new w5 _)
 have k9 : w4.heap.size ≤ w5.heap.size := hb5.size
 have q0 : (w5.alloc (.cells #[.int .i64 rs, .slice p5 its.length c5] 68)).heap.size = w5.heap.size + 1 := by simp
 clear h8 hu5 how5 hb5 g8 h6 k4 k5
 obtain ⟨s0, s1⟩ := zb0 k8.out
 unfold setV
 have q7 := zu8 ((g6.out.block _ (by have := HZ0.out; omega) (by intro e; cases e; have := g1.out; omega)).trans v2.out)
 have g0 : Hid (w4.heap.size ≤ w5.heap.size /\ w.heap.size + 1 ≤ w4.heap.size /\ (w5.alloc (.cells #[.int .i64 rs, .slice p5 its.length c5] 68)).heap.size = w5.heap.size + 1) := zu8 ⟨k9, hz4, q0⟩
 clear hz4 k9 q0
 by_cases hgood : ec = 0 /\ its.length ≠ 0
 ·obtain ⟨rfl, h0⟩ := hgood
  have v0 := zu8 (parP_okR v4.out)
  obtain ⟨v6, hok⟩ := v0.out
  subst v6
  generalize q8 : its.length = m at *
  have v7 := zu8 q8
  have H0 := zu8 h0
  have q1 : ((m : Int) == 0) = false := by rw [zvc]; omega
  have q2 : ¬ (m : Int) = 0 := by omega
  have q3 : ¬ m = 0 := h0
  have v1 := zu8 hok
  clear q8 h0 hok
  go_wp2_with (first | (refine zv rfl 68 _ _ rfl w.heap.size #[.int .i64 0, .slice none 0 0] _ q7.out rfl #[.int .i64 rs, .slice p5 m c5] rfl rfl (by kernel_rfl) (qu _ _ _ _) ?_
                        intro W7 g2
                        have g3 := zu8 g2
                        obtain ⟨z0, z1⟩ := zb0 g2.here
                        clear g2) | fail)
  refine bodyPost_ret (v := .agg #[.int .i64 rs, .slice p5 m c5]) (by simp [results, Tryz.results62, go_sem, z0, z1]) rfl ?_
  exact ⟨_, its, rfl, g3.out.itvs HI6.out (fun c hc => by have := k7.out c hc; have := g0.out; omega), v1.out, by have := v7.out; have := H0.out; omega, fun c hc => by have := k7.out c hc; have := g0.out; omega, k6.out.grown g3.out.grown (by intro e; cases e; have := g1.out; omega) (by intro c e; cases e; exact g1.out), zcr (j4.out.trans g6.out) g3.out.grown (zva _)⟩
 ·have y2 := zu8 hgood
  have j2 : (ec != 0) = true ∨ (ec = 0 /\ its = []) := by
   by_cases he : ec = 0
   ·refine .inr ⟨he, ?_⟩
    by_cases hl : its.length = 0
    ·exact List.eq_nil_of_length_eq_zero hl
    ·exact absurd ⟨he, hl⟩ hgood
   ·exact .inl (by simpa using he)
  clear hgood
  rcases j2 with y3 | ⟨rfl, rfl⟩
  all_goals
   go_wp2_with fail
   generalize w5.alloc (.cells #[.int .i64 rs, .slice p5 _ c5] 68) = w6 at *
   generalize w5.heap.size = X at *
   refine (zg5 n [42] w6 v5.out (by decide)).mono ?_
   rintro e w8 ⟨u8, rfl, g4, h9, g5⟩
   rw [rng_star HN.out] at g4 ⊢
   simp only at g4 ⊢
   obtain ⟨p8, c8, rfl⟩ := g4.slice
   have HT8 := zu8 (k6.out.below g5)
   have v8 := zu8 ((g5.block X (by have := g0.out; omega)).trans k8.out)
   have q9 := zu8 ((g5.block w.heap.size (by have := g0.out; omega)).trans q7.out)
   have v9 := zu8 (g6.out.trans (zm g5 (some b)))
   have y0 := zu8 g4
   have j0 : Hid (∀ c, (Value.slice p8 1 c8).ownBlock = some c -> w6.heap.size ≤ c) := zu8 h9
   clear g4 h9 g5 s0 s1
   unfold setV
   go_wp2_with (first | (refine zv rfl 68 _ _ rfl X _ _ v8.out rfl #[.int .i64 n, .slice p8 1 c8] rfl rfl (by kernel_rfl) (qu _ _ _ _) ?_
                         intro W9 g9
                         obtain ⟨s0, s1⟩ := zb0 g9.here
                         have j1 := zu8 g9
                         have y1 := zu8 ((g9.grown.block w.heap.size (Array.getElem?_eq_some_iff.1 q9.out).1 (by intro e; cases e; have := g0.out; omega)).trans q9.out)
                         clear g9)
                      | (refine zv rfl 68 _ _ rfl w.heap.size #[.int .i64 0, .slice none 0 0] _ y1.out rfl #[.int .i64 n, .slice p8 1 c8] rfl rfl (by kernel_rfl) (qu _ _ _ _) ?_
                         intro W7 g2
                         have g3 := zu8 g2
                         obtain ⟨z0, z1⟩ := zb0 g2.here
                         clear g2) | fail)
   refine bodyPost_ret (v := .agg #[.int .i64 n, .slice p8 1 c8]) (by simp [results, Tryz.results62, go_sem, z0, z1]) rfl ?_
   refine ⟨_, [⟨[], 0, [], 0⟩], rfl, g3.out.itvs (j1.out.itvs y0.out (fun c hc => by have := j0.out c hc; have := g0.out; omega)) (fun c hc => by have := j0.out c hc; have := g0.out; omega), rng_full HN.out, by decide, fun c hc => by have := j0.out c hc; have := g0.out; omega, ?_, zcr (zcr (j4.out.trans v9.out) j1.out.grown (by have := g0.out; omega)) g3.out.grown (zva _)⟩
   exact (HT8.out.grown j1.out.grown (by intro e; cases e; have := g1.out; have := g0.out; omega) (by intro c e; cases e; have := g1.out; have := g0.out; omega)).grown g3.out.grown (by intro e; cases e; have := g1.out; omega) (by intro c e; cases e; exact g1.out)
def pE (p : Int × V.Bs) : List Value := [.int .i64 p.1, .string ⟨p.2.toArray⟩]
theorem ze0 (p : Int × V.Bs) : (pE p).length = 2 := rfl
theorem zij (p : Int × V.Bs) : ∀ u ∈ pE p, u.oneCell' = true := by
 intro u hu
 simp [pE] at hu
 rcases hu with rfl | rfl <;> rfl
theorem zqe : jh 100 2 24 := by
 have h : (match Tryz.prog.info? 100 with | some i => i.size == 2 && (i.bytes == 24 && (match i.zero with | some z => z.cells.size == 2 | none => false)) | none => false) = true := by kernel_rfl
 unfold jh
 cases hq : Tryz.prog.info? 100 with
 | none => rw [hq] at h; cases h
 | some i =>
  exact zvk
open Go.RowKit
theorem zga : Tryz.prog.eqGuardType Tryz.prog.depth 100 = false := by kernel_rfl
theorem eq_pkg (x y : Int × V.Bs) (w : World) : (Op.equalIn 10000 100 (.agg #[.int .i64 x.1, .string ⟨x.2.toArray⟩]) (.agg #[.int .i64 y.1, .string ⟨y.2.toArray⟩])).run Tryz.prog w = .ok (decide (x = y)) w := by
 rw [run_equalIn_agg w 9999 100 _ _ (by kernel_rfl) (by kernel_rfl)]
 unfold Program.fieldsOf
 rw [Tryz.underlying100]
 simp only [Op.eqFields]
 simp [go_sem]
 obtain ⟨a, b⟩ := x
 obtain ⟨c, d⟩ := y
 by_cases h1 : a = c
 ·by_cases h2 : b = d
  ·simp [h1, h2]
  ·simp [h1, h2]
 ·simp [h1]
theorem zmz (x y : Int × V.Bs) (w : World) : (binOp .eql 100 (.agg #[.int .i64 x.1, .string ⟨x.2.toArray⟩]) (.agg #[.int .i64 y.1, .string ⟨y.2.toArray⟩])).run Tryz.prog w = .ok (.bool (decide (x = y))) w := by
 rw [run_eql_struct, eq_pkg]
 rfl
theorem zfw (n m : Int) (s t : V.Bs) (w : World) :
  Calls Tryz.prog 95 #[.agg #[.int .i64 n, .string ⟨s.toArray⟩], .agg #[.int .i64 m, .string ⟨t.toArray⟩]] w fun e w' => e = .returned (.bool (decide (V.pkC (n, s) (m, t) < 0))) /\ Below w.heap.size w w' := zoo n m s t w
theorem GSl.pk {w : World} {a : Option Addr} {n cap : Nat} {l : List (Int × V.Bs)} (h : GSl 2 pE w (.slice a n cap) l) (j : Nat) (hj : j < l.length) : ∃ g off, a = some ⟨g, off, none⟩ /\ g < w.heap.size /\ w.cell? ⟨g, off + j * 2, none⟩ = some (.int .i64 l[j].1) /\ w.cell? ⟨g, off + j * 2 + 1, none⟩ = some (.string ⟨l[j].2.toArray⟩) := by
 obtain ⟨g, off, e, hg, hc⟩ := h.at j hj
 exact ⟨g, off, e, hg, hc 0 _ rfl, hc 1 _ rfl⟩
theorem zfq {w W : World} {B : Nat} {a : Int × V.Bs} {t : TypeId} (h : W = w.alloc (.cells #[.int .i64 a.1, .string ⟨a.2.toArray⟩] t)) (hB : B = w.heap.size) : ∀ j u, (pE a)[j]? = some u -> W.cell? ⟨B, j, none⟩ = some u := by
 intro j u hj
 rw [h, hB, zg, if_pos rfl]
 simpa [pE] using hj
theorem zxr {P : Prop} (h : P := by
 (try dsimp only); exact ⟨hHeld.1.trans (hb7.mono hHeld.1.size), zf hb7 hHeld.2.1, zf hb7 hHeld.2.2.1, zf hb7 hHeld.2.2.2.1, zf hb7 hHeld.2.2.2.2⟩) : P := h
theorem zqw (v : Value) (l : List (Int × V.Bs)) (p : Int × V.Bs) (w : World) (hv : GSl 2 pE w v l) (hl : l.length ≤ 1000) :
  Calls Tryz.prog 61 #[v, .agg #[.int .i64 p.1, .string ⟨p.2.toArray⟩]] w fun e w' => ∃ u, e = .returned u /\ GRow 100 2 pE w' w.heap.size u (V.addP p l) /\ Below w.heap.size w w' := by
 obtain ⟨va, vc, rfl⟩ := hv.slice
 have j9 : Below w.heap.size w (w.alloc (.cells #[.int .i64 p.1, .string ⟨p.2.toArray⟩] 100)) := (zvb _ w).alloc (zva _) _
 have HB0 := zu8 j9
 have HV := zu8 (hv.below j9)
 have p0 : (w.alloc (.cells #[.int .i64 p.1, .string ⟨p.2.toArray⟩] 100)).cell? ⟨w.heap.size, 0, none⟩ = some (.int .i64 p.1) := by rw [World.cell?_alloc_new]; rfl
 have p1 : (w.alloc (.cells #[.int .i64 p.1, .string ⟨p.2.toArray⟩] 100)).cell? ⟨w.heap.size, 1, none⟩ = some (.string ⟨p.2.toArray⟩) := by rw [World.cell?_alloc_new]; rfl
 have Z0 := zu8 p0
 have Z1 := zu8 p1
 clear j9 hv p0 p1
 go_enter Tryz.func61, Tryz.ntmps61
 go_wp2_with fail
 generalize w.alloc (.cells #[.int .i64 p.1, .string ⟨p.2.toArray⟩] 100) = w0 at *
 go_loopw [5, 6, 7] (fun ov dv iv wx => ∃ (k : Nat) (q : List (Int × V.Bs) × Bool), k ≤ l.length /\ iv = .int .i64 k /\ (q = V.kd p l k /\ dv = .bool q.2) /\ GRow 100 2 pE wx w0.heap.size ov q.1 /\ Below w0.heap.size w0 wx) (fun _ _ iv _ => l.length - (intOf iv).toNat)
 case atStart => exact ⟨0, _, Nat.zero_le _, rfl, ⟨rfl, rfl⟩, GRow.nil _ _, zvb _ _⟩
 case round =>
  obtain ⟨k, ⟨o, d⟩, hk, rfl, ⟨hq, k3⟩, h9, j7⟩ := hrel
  simp only at k3 h9
  subst k3
  obtain ⟨oa, oc, k4⟩ := h9.slice
  subst k4
  have h3 := zu8 h9
  have g7 := zu8 j7
  have HQ := zu8 hq
  have P0 := zu8 (zf j7 Z0.out)
  have P1 := zu8 (zf j7 Z1.out)
  have HLO : Hid (o.length ≤ 1001) := zu8 (by have := (V.zd8 (p := p) (l := l) k hk).2.1; rw [← hq] at this; simp only at this; omega)
  clear h9 j7 hq
  by_cases hlt : k < l.length
  ·obtain ⟨g, off, rfl, hg, k0, k1⟩ := HV.out.pk k hlt
   have X0 := zu8 k0
   have X1 := zu8 k1
   have x0 := zf g7.out k0
   have x1 := zf g7.out k1
   have HST := zu8 (V.zb8 (p := p) hlt)
   rw [← HQ.out] at HST
   simp only at HST
   have i1 : (0 : Int) ≤ (k : Int) := by omega
   have i2 : (k : Int) < (l.length : Int) := by omega
   have wr1 : IntKind.i64.wrap ((k : Int) + 1) = (k : Int) + 1 := IntWalk.i64_in _ (by omega)
   generalize l[k] = x at *
   clear k0 k1 HV
   rcases d with _ | _
   ·by_cases hls : V.pkC p x < 0
    ·have HN : Hid (V.kd p l (k + 1) = (o ++ [p] ++ [x], true)) := zu8 (by rw [HST.out]; simp [hls])
     have j1 : decide (V.pkC p x < 0) = true := decide_eq_true hls
     clear HST hls
     go_wp2_with fail
     refine wp_region_held_drew (S := (fun W' => Below wr.heap.size wr W' /\ W'.cell? ⟨w.heap.size, 0, none⟩ = some (.int .i64 p.1) /\ W'.cell? ⟨w.heap.size, 1, none⟩ = some (.string ⟨p.2.toArray⟩) /\ W'.cell? ⟨g, off + k * 2, none⟩ = some (.int .i64 x.1) /\ W'.cell? ⟨g, off + k * 2 + 1, none⟩ = some (.string ⟨x.2.toArray⟩))) (by kernel_rfl) (⟨(zvb _ _).drew, zf (zvb _ _).drew P0.out, zf (zvb _ _).drew P1.out, zf (zvb _ _).drew x0, zf (zvb _ _).drew x1⟩) (fun hHeld => ?_)
     refine tk 0 ?_
     refine tk 1 ?_
     refine tk 2 ?_
     refine tk 3 ?_
     refine tk 4 ?_
     refine tk 5 ?_
     refine tk 6 ?_
     refine tk 7 ?_
     refine rd 8 fun K hK => ?_
     go_simp
     refine (zfw p.1 x.1 p.2 x.2 _).mono ?_
     rintro e w7 ⟨rfl, hb7⟩
     try dsimp only
     refine hK.out _ _ ?_ (fun hHeld => nx ?_)
     ·exact zxr
     clear hK K
     refine tk 9 ?_
     refine wpAnyH_done (by kernel_rfl) ?_ _
     rw [show V.pkC (p.1, p.2) (x.1, x.2) = V.pkC p x from rfl, j1]
     have h4 := zu8 (g7.out.trans (hHeld.1.mono g7.out.size))
     have g8 := zu8 (GRow.below h3.out hHeld.1)
     have q0 := hHeld.2.1
     have q1 := hHeld.2.2.1
     clear hb7 hHeld x0 x1 j1
     have g5 : Below w7.heap.size w7 (w7.alloc (.cells #[.int .i64 p.1, .string ⟨p.2.toArray⟩] 100)) := (zvb _ _).alloc (zva _) _
     have h5 := zu8 (GRow.below g8.out g5)
     have g6 := zu9 h4 g5
     have j5 : Hid (∀ j u, (pE p)[j]? = some u -> (w7.alloc (.cells #[.int .i64 p.1, .string ⟨p.2.toArray⟩] 100)).cell? ⟨w7.heap.size, j, none⟩ = some u) := zu8 (zfq (w := w7) (t := 100) rfl rfl)
     clear g5
     go_wp2_with (first | (refine yr ze0 (by decide) zij zqe (by decide) rfl _ _ 97 rfl Tryz.underlying97 w0.heap.size _ o rfl h5.out w7.heap.size p rfl j5.out (by have := HLO.out; (try simp only [List.length_append, List.length_cons, List.length_nil]); omega) g6.out.size ?_
                           intro vf wf j2 j3
                           have j6 := zu8 (g6.out.trans (zy j3 (GRow.block h5.out) (zva _) g6.out.size))
                           have j0 := zu8 j2
                           clear j3 j2) | fail)
     clear q0 q1
     have HX : Hid (Below w0.heap.size w0 wf) := j6
     have y0 := zf HX.out X0.out
     have y1 := zf HX.out X1.out
     have z0 := zf HX.out Z0.out
     have z1 := zf HX.out Z1.out
     have j4 := zga
     have g3 := zmz x p
     by_cases hxp : x = p
     all_goals
      first | (rw [decide_eq_true hxp] at g3) | (rw [decide_eq_false hxp] at g3)
      have j8 := zu8 hxp
      clear hxp
      go_wp2_with fail
      go_quiet (fail)
      rename_i nq
      have g0 : Below wf.heap.size wf (wf.drewN nq) := below_drewN (zvb _ _) nq
      have g9 := zu8 (GRow.below j0.out g0)
      have h6 := zu9 HX g0
      replace y0 := zf g0 y0
      replace y1 := zf g0 y1
      generalize wf.drewN nq = wq at *
      clear g0 z0 z1 g3 j4
      have g1 : Below wq.heap.size wq (wq.alloc (.cells #[.int .i64 x.1, .string ⟨x.2.toArray⟩] 100)) := (zvb _ _).alloc (zva _) _
      have g4 := zu8 (GRow.below g9.out g1)
      have g2 := zu9 h6 g1
      have h7 : Hid (∀ j u, (pE x)[j]? = some u -> (wq.alloc (.cells #[.int .i64 x.1, .string ⟨x.2.toArray⟩] 100)).cell? ⟨wq.heap.size, j, none⟩ = some u) := zu8 (zfq (w := wq) (t := 100) rfl rfl)
      clear g1
      go_wp2_with (first | (refine yr ze0 (by decide) zij zqe (by decide) rfl _ _ 97 rfl Tryz.underlying97 w0.heap.size _ (o ++ [p]) rfl g4.out wq.heap.size x rfl h7.out (by have := HLO.out; (try simp only [List.length_append, List.length_cons, List.length_nil]); omega) g2.out.size ?_
                            intro ve we h1 h2
                            have h8 := zu8 (g2.out.trans (zy h2 (GRow.block g4.out) (zva _) g2.out.size))
                            have h0 := zu8 h1
                            clear h2 h1) | fail)
      go_roundw
      case rel => exact ⟨k + 1, _, by omega, by go_num, ⟨HN.out.symm, rfl⟩, h0.out, h8.out⟩
      case measure => simp [intOf]; omega
    ·have j1 : decide (V.pkC p x < 0) = false := decide_eq_false hls
     have HN : Hid (V.kd p l (k + 1) = (o ++ [x], decide (x = p))) := zu8 (by rw [HST.out]; simp [hls])
     clear HST hls
     go_wp2_with fail
     refine wp_region_held_drew (S := (fun W' => Below wr.heap.size wr W' /\ W'.cell? ⟨w.heap.size, 0, none⟩ = some (.int .i64 p.1) /\ W'.cell? ⟨w.heap.size, 1, none⟩ = some (.string ⟨p.2.toArray⟩) /\ W'.cell? ⟨g, off + k * 2, none⟩ = some (.int .i64 x.1) /\ W'.cell? ⟨g, off + k * 2 + 1, none⟩ = some (.string ⟨x.2.toArray⟩))) (by kernel_rfl) (⟨(zvb _ _).drew, zf (zvb _ _).drew P0.out, zf (zvb _ _).drew P1.out, zf (zvb _ _).drew x0, zf (zvb _ _).drew x1⟩) (fun hHeld => ?_)
     refine tk 0 ?_
     refine tk 1 ?_
     refine tk 2 ?_
     refine tk 3 ?_
     refine tk 4 ?_
     refine tk 5 ?_
     refine tk 6 ?_
     refine tk 7 ?_
     refine rd 8 fun K hK => ?_
     go_simp
     refine (zfw p.1 x.1 p.2 x.2 _).mono ?_
     rintro e w7 ⟨rfl, hb7⟩
     try dsimp only
     refine hK.out _ _ ?_ (fun hHeld => nx ?_)
     ·exact zxr
     clear hK K
     refine tk 9 ?_
     refine wpAnyH_done (by kernel_rfl) ?_ _
     rw [show V.pkC (p.1, p.2) (x.1, x.2) = V.pkC p x from rfl, j1]
     have h4 := zu8 (g7.out.trans (hHeld.1.mono g7.out.size))
     have g8 := zu8 (GRow.below h3.out hHeld.1)
     clear hb7 hHeld x0 x1 j1
     have HX : Hid (Below w0.heap.size w0 w7) := h4
     have y0 := zf HX.out X0.out
     have y1 := zf HX.out X1.out
     have z0 := zf HX.out Z0.out
     have z1 := zf HX.out Z1.out
     have j4 := zga
     have g3 := zmz x p
     by_cases hxp : x = p
     all_goals
      first | (rw [decide_eq_true hxp] at g3) | (rw [decide_eq_false hxp] at g3)
      have j8 := zu8 hxp
      clear hxp
      go_wp2_with fail
      go_quiet (fail)
      rename_i nq
      have g0 : Below w7.heap.size w7 (w7.drewN nq) := below_drewN (zvb _ _) nq
      have g9 := zu8 (GRow.below g8.out g0)
      have h6 := zu9 HX g0
      replace y0 := zf g0 y0
      replace y1 := zf g0 y1
      generalize w7.drewN nq = wq at *
      clear g0 z0 z1 g3 j4
      have g1 : Below wq.heap.size wq (wq.alloc (.cells #[.int .i64 x.1, .string ⟨x.2.toArray⟩] 100)) := (zvb _ _).alloc (zva _) _
      have g4 := zu8 (GRow.below g9.out g1)
      have g2 := zu9 h6 g1
      have h7 : Hid (∀ j u, (pE x)[j]? = some u -> (wq.alloc (.cells #[.int .i64 x.1, .string ⟨x.2.toArray⟩] 100)).cell? ⟨wq.heap.size, j, none⟩ = some u) := zu8 (zfq (w := wq) (t := 100) rfl rfl)
      clear g1
      go_wp2_with (first | (refine yr ze0 (by decide) zij zqe (by decide) rfl _ _ 97 rfl Tryz.underlying97 w0.heap.size _ o rfl g4.out wq.heap.size x rfl h7.out (by have := HLO.out; (try simp only [List.length_append, List.length_cons, List.length_nil]); omega) g2.out.size ?_
                            intro ve we h1 h2
                            have h8 := zu8 (g2.out.trans (zy h2 (GRow.block g4.out) (zva _) g2.out.size))
                            have h0 := zu8 h1
                            clear h2 h1) | fail)
      go_roundw
      case rel => exact ⟨k + 1, _, by omega, by go_num, ⟨HN.out.symm, by first | (rw [decide_eq_true j8.out]) | (rw [decide_eq_false j8.out])⟩, h0.out, h8.out⟩
      case measure => simp [intOf]; omega
   ·have HN : Hid (V.kd p l (k + 1) = (o ++ [x], true)) := zu8 (by rw [HST.out]; simp)
    clear HST
    go_wp2_with fail
    go_quiet (fail)
    have k2 : Below wr.heap.size wr (wr.drewN nq) := below_drewN (zvb _ _) nq
    have g8 := zu8 (GRow.below h3.out k2)
    have h4 := zu9 g7 k2
    generalize wr.drewN nq = w7 at *
    clear nq
    clear k2 x0 x1
    have HX : Hid (Below w0.heap.size w0 w7) := h4
    have y0 := zf HX.out X0.out
    have y1 := zf HX.out X1.out
    have z0 := zf HX.out Z0.out
    have z1 := zf HX.out Z1.out
    have j4 := zga
    have g3 := zmz x p
    by_cases hxp : x = p
    all_goals
     first | (rw [decide_eq_true hxp] at g3) | (rw [decide_eq_false hxp] at g3)
     have j8 := zu8 hxp
     clear hxp
     go_wp2_with fail
     go_quiet (fail)
     rename_i nq
     have g0 : Below w7.heap.size w7 (w7.drewN nq) := below_drewN (zvb _ _) nq
     have g9 := zu8 (GRow.below g8.out g0)
     have h6 := zu9 HX g0
     replace y0 := zf g0 y0
     replace y1 := zf g0 y1
     generalize w7.drewN nq = wq at *
     clear g0 z0 z1 g3 j4
     have g1 : Below wq.heap.size wq (wq.alloc (.cells #[.int .i64 x.1, .string ⟨x.2.toArray⟩] 100)) := (zvb _ _).alloc (zva _) _
     have g4 := zu8 (GRow.below g9.out g1)
     have g2 := zu9 h6 g1
     have h7 : Hid (∀ j u, (pE x)[j]? = some u -> (wq.alloc (.cells #[.int .i64 x.1, .string ⟨x.2.toArray⟩] 100)).cell? ⟨wq.heap.size, j, none⟩ = some u) := zu8 (zfq (w := wq) (t := 100) rfl rfl)
     clear g1
     go_wp2_with (first | (refine yr ze0 (by decide) zij zqe (by decide) rfl _ _ 97 rfl Tryz.underlying97 w0.heap.size _ o rfl g4.out wq.heap.size x rfl h7.out (by have := HLO.out; (try simp only [List.length_append, List.length_cons, List.length_nil]); omega) g2.out.size ?_
                           intro ve we h1 h2
                           have h8 := zu8 (g2.out.trans (zy h2 (GRow.block g4.out) (zva _) g2.out.size))
                           have h0 := zu8 h1
                           clear h2 h1) | fail)
     go_roundw
     case rel => exact ⟨k + 1, _, by omega, by go_num, ⟨HN.out.symm, rfl⟩, h0.out, h8.out⟩
     case measure => simp [intOf]; omega
  ·obtain rfl : k = l.length := by omega
   have HBE := zu8 (HB0.out.trans (g7.out.mono HB0.out.size))
   have q0 := P0.out
   have q1 := P1.out
   rcases d with _ | _
   ·have HR : Hid (V.addP p l = o ++ [p]) := zu8 (by unfold V.addP; rw [← HQ.out]; rfl)
    clear HQ
    have g5 : Below wr.heap.size wr (wr.alloc (.cells #[.int .i64 p.1, .string ⟨p.2.toArray⟩] 100)) := (zvb _ _).alloc (zva _) _
    have h5 := zu8 (GRow.below h3.out g5)
    have g6 := zu9 g7 g5
    have j5 : Hid (∀ j u, (pE p)[j]? = some u -> (wr.alloc (.cells #[.int .i64 p.1, .string ⟨p.2.toArray⟩] 100)).cell? ⟨wr.heap.size, j, none⟩ = some u) := zu8 (zfq (w := wr) (t := 100) rfl rfl)
    clear g5
    go_wp2_with (first | (refine yr ze0 (by decide) zij zqe (by decide) rfl _ _ 97 rfl Tryz.underlying97 w0.heap.size _ o rfl h5.out wr.heap.size p rfl j5.out (by have := HLO.out; (try simp only [List.length_append, List.length_cons, List.length_nil]); omega) g6.out.size ?_
                          intro vf wf j2 j3
                          have j6 := zu8 (g6.out.trans (zy j3 (GRow.block h5.out) (zva _) g6.out.size))
                          have j0 := zu8 j2
                          clear j3 j2) | fail)
    have HBF := zu8 (HB0.out.trans (j6.out.mono HB0.out.size))
    go_ret
    exact ⟨_, rfl, by rw [HR.out]; exact GRow.weaken j0.out HB0.out.size, HBF.out⟩
   ·have HR : Hid (V.addP p l = o) := zu8 (by unfold V.addP; rw [← HQ.out]; rfl)
    clear HQ q0 q1
    go_wp2
    go_ret
    exact ⟨_, rfl, by rw [HR.out]; exact GRow.weaken h3.out HB0.out.size, HBE.out⟩
namespace V
end V
open Go.RowKit
namespace V
end V
open Go.RowKit
namespace V
end V
open Go.RowKit
open Go.RowKit
namespace V
end V
open Go.RowKit
theorem adv_zero (w : World) : Below w.heap.size w (w.alloc (.cells #[.string ⟨#[]⟩, .int .i64 0, .int .i64 0, .slice none 0 0] 54)) /\ (w.alloc (.cells #[.string ⟨#[]⟩, .int .i64 0, .int .i64 0, .slice none 0 0] 54)).heap[w.heap.size]? = some (.cells #[.string ⟨#[]⟩, .int .i64 0, .int .i64 0, .slice none 0 0] 54 (0, 0)) /\ (w.alloc (.cells #[.string ⟨#[]⟩, .int .i64 0, .int .i64 0, .slice none 0 0] 54)).heap.size = w.heap.size + 1 :=
 ⟨(zvb _ w).alloc (zva _) _, heap_alloc_new w _, by simp⟩
open Go.RowKit
open Go.RowKit Go.Shelf
attribute [local go_sem] Oper.semAt_some
open Go.RowKit Go.Shelf
attribute [local go_sem] Oper.semAt_some
section
variable {α : Type} {enc : α -> List Value} {k : Nat} {T : TypeId}
end
open Go.RowKit
end Go.Proofs.YtbikeahmldobkaaGreatDoor
