/-
  Lemmas for the law.
-/
import Derived.Test.YtbikeahmldobkaaGreatDoorC42x45
import Derived.Test.YtbikeahmldobkaaGreatDoorC42x21
import Derived.Test.YtbikeahmldobkaaGreatDoorC42x25
import Derived.Test.YtbikeahmldobkaaGreatDoorC42x44
import Derived.Test.YtbikeahmldobkaaGreatDoorC42x22
import Derived.Test.YtbikeahmldobkaaGreatDoorC42x17
import Derived.Test.YtbikeahmldobkaaGreatDoorC42x18
import Derived.Test.YtbikeahmldobkaaGreatDoorC42x23
import Derived.Test.YtbikeahmldobkaaGreatDoorC42x38
import Derived.Test.YtbikeahmldobkaaGreatDoorC42x24
import Derived.Test.YtbikeahmldobkaaGreatDoorC42x04
import Derived.Test.YtbikeahmldobkaaGreatDoorC42x30
import Derived.Laws.StructEq
import Derived.Deep.RegionHeld3
import Derived.Lib.BufferRead
import Derived.Lib.Bytes
import Derived.RangeFuncLeaves
import Derived.Shelf.Bytes.SlCut
import Derived.WalkMore
set_option linter.all false
set_option maxRecDepth 100000
set_option maxHeartbeats 6400000
namespace Go.Proofs.YtbikeahmldobkaaGreatDoor
open Go.RowKit
theorem zk.tape {w w' : World} {b k : Nat} (hm : zk w) (ht : Tape w b k) (hg : w.grownBy w' (some b)) : zk w' := by
 obtain ⟨m, hm⟩ := hm
 obtain ⟨a, n, cap, p, c0, _⟩ := ht
 exact ⟨m, hg.cell hm (fun e => by cases e; rw [c0] at hm; cases hm)⟩
theorem zcz {w w6 W7 : World} {b g : Nat} (h : w.grownBy w6 (some b)) (k : w6.grownBy W7 (some g)) (hg : w.heap.size ≤ g) : w.grownBy W7 (some b) :=
 ⟨k.os.trans h.os, k.tape.trans h.tape, k.output.trans h.output, Nat.le_trans h.size k.size, fun i hi hr => (k.block i (Nat.lt_of_lt_of_le hi h.size) (by intro e; cases e; omega)).trans (h.block i hi hr)⟩
def RngPost (b k : Nat) (n : Int) (w : World) (e : Ending) (w' : World) : Prop :=
 ∃ u l, e = .returned (setV n u) /\ Itvs w' u l /\ V.okR n l = true /\ 1 ≤ l.length /\ (∀ c, u.ownBlock = some c -> w.heap.size ≤ c) /\ Tape w' b (k + 3) /\ w.grownBy w' (some b)
def rngL (s t : ByteArray) : List ByteArray := [⟨#[42]⟩, (⟨#[62, 61]⟩ : ByteArray) ++ s, (⟨#[60]⟩ : ByteArray) ++ s, (⟨#[61]⟩ : ByteArray) ++ s, (⟨#[62]⟩ : ByteArray) ++ s ++ ⟨#[32, 60, 61]⟩ ++ t, (⟨#[60]⟩ : ByteArray) ++ s ++ ⟨#[32, 124, 124, 32, 62, 61]⟩ ++ t, (⟨#[60, 61]⟩ : ByteArray) ++ s]
theorem rngL_len {s t : ByteArray} (hs : s.size ≤ 64) (ht : t.size ≤ 64) : ∀ x ∈ (rngL s t).map (·.data.toList), x.length ≤ 200 := by
 intro x hx
 obtain ⟨y, hy, rfl⟩ := List.mem_map.1 hx
 have hz : y.size ≤ 200 := by
  simp only [rngL, List.mem_cons, List.not_mem_nil, or_false] at hy
  rcases hy with rfl | rfl | rfl | rfl | rfl | rfl | rfl
  ·decide
  ·rw [ByteArray.size_append]; show 2 + s.size ≤ 200; omega
  ·rw [ByteArray.size_append]; show 1 + s.size ≤ 200; omega
  ·rw [ByteArray.size_append]; show 1 + s.size ≤ 200; omega
  ·rw [ByteArray.size_append, ByteArray.size_append, ByteArray.size_append]; show 1 + s.size + 3 + t.size ≤ 200; omega
  ·rw [ByteArray.size_append, ByteArray.size_append, ByteArray.size_append]; show 1 + s.size + 6 + t.size ≤ 200; omega
  ·rw [ByteArray.size_append]; show 2 + s.size ≤ 200; omega
 exact hz
theorem rng_star {n : Int} (h : V.scheme n = true) : V.parP n [42] = (n, [⟨[], 0, [], 0⟩], 0) := by
 have hs : n = 1 ∨ n = 2 ∨ n = 3 := by unfold V.scheme at h; simpa [or_assoc] using h
 rcases hs with e | e | e <;> subst e
 ·exact (show V.parP 1 [42] = (1, [⟨[], 0, [], 0⟩], 0) by kernel_rfl)
 ·exact (show V.parP 2 [42] = (2, [⟨[], 0, [], 0⟩], 0) by kernel_rfl)
 ·exact (show V.parP 3 [42] = (3, [⟨[], 0, [], 0⟩], 0) by kernel_rfl)
theorem rng_full {n : Int} (h : V.scheme n = true) : V.okR n [⟨[], 0, [], 0⟩] = true := by
 have hs : n = 1 ∨ n = 2 ∨ n = 3 := by unfold V.scheme at h; simpa [or_assoc] using h
 rcases hs with e | e | e <;> subst e
 ·exact (show V.okR 1 [⟨[], 0, [], 0⟩] = true by kernel_rfl)
 ·exact (show V.okR 2 [⟨[], 0, [], 0⟩] = true by kernel_rfl)
 ·exact (show V.okR 3 [⟨[], 0, [], 0⟩] = true by kernel_rfl)
theorem zql (n : Int) (s : V.Bs) : V.uo n s ≠ (none, 0) := by
 unfold V.uo
 repeat' split
 all_goals (intro h; simp at h)
theorem parP_okR {n : Int} {s : V.Bs} {rs : Int} {l : List V.Itv} (h : V.parP n s = (rs, l, 0)) : rs = n /\ V.okR n l = true := by
 unfold V.parP at h
 split at h
 ·rename_i l' c hq
  cases h
  exact ⟨rfl, V.of_ok (V.zrk (by rw [hq])).1⟩
 ·rename_i c hq
  cases h
  exact absurd hq (zql _ _)
theorem zjs (b k : Nat) (n : Int) (w : World) (hm : zk w) (h : Tape w b k) (hk : k ≤ 900000) (hn : V.scheme n = true) :
  Calls Tryz.prog 62 #[.pointer (some ⟨b, 0, none⟩), .int .i64 n] w (RngPost b k n w) := by
 have g6 : Below w.heap.size w (w.alloc (.cells #[.int .i64 0, .slice none 0 0] 68)) := (zv5 _ w).alloc (zv4 _) _
 have j1 := zv2 (hm.below g6)
 have g9 := zv2 (h.below g6)
 have q9 : Hid ((w.alloc (.cells #[.int .i64 0, .slice none 0 0] 68)).heap[w.heap.size]? = some (.cells #[.int .i64 0, .slice none 0 0] 68 (0, 0))) := zv2 (heap_alloc_new w _)
 have j2 := zv2 (zq g6 (some b))
 have HBW := zv2 h.lt
 have HN := zv2 hn
 have j3 : (w.alloc (.cells #[.int .i64 0, .slice none 0 0] 68)).heap.size = w.heap.size + 1 := by simp
 have HZ0 := zv2 j3
 clear g6 hm h hn j3
 go_enter Tryz.func62, Tryz.ntmps62
 go_wp2_with fail
 generalize w.alloc (.cells #[.int .i64 0, .slice none 0 0] 68) = w0 at *
 refine (zdi b k n w0 g9.out (by omega) HN.out).mono ?_
 rintro e w1 ⟨xa, ha, rfl, ht1, hg1⟩
 have j4 := zv2 (j1.out.tape g9.out hg1)
 have HT1 := zv2 ht1
 have HG1 := zv2 hg1
 clear ht1 hg1
 go_wp2_with fail
 refine (zdi b (k + 1) n w1 HT1.out (by omega) HN.out).mono ?_
 rintro e w2 ⟨xb, hb, rfl, j5, h1⟩
 have j6 := zv2 (j4.out.tape HT1.out h1)
 have h2 := zv2 j5
 have h3 := zv2 (HG1.out.trans h1)
 have j7 : (⟨xa.toArray⟩ : ByteArray).size ≤ 64 := by simpa [ByteArray.size] using (V.valid_len ha).2
 have j8 : (⟨xb.toArray⟩ : ByteArray).size ≤ 64 := by simpa [ByteArray.size] using (V.valid_len hb).2
 clear j5 h1 ha hb j1 g9 j4 HT1 HG1
 generalize (⟨xa.toArray⟩ : ByteArray) = s at *
 generalize (⟨xb.toArray⟩ : ByteArray) = t at *
 have q1 : ¬ (9223372036854775807 < 2 + s.size) := by omega
 have q2 : ¬ (9223372036854775807 < 1 + s.size) := by omega
 have q3 : ¬ (9223372036854775807 < 1 + s.size + 3) := by omega
 have q4 : ¬ (9223372036854775807 < 1 + s.size + 3 + t.size) := by omega
 have q5 : ¬ (9223372036854775807 < 1 + s.size + 6) := by omega
 have q6 : ¬ (9223372036854775807 < 1 + s.size + 6 + t.size) := by omega
 have HL := zv2 (rngL_len j7 j8)
 have v0 : w.heap.size + 1 ≤ w2.heap.size := by have := h3.out.size; have := HZ0.out; omega
 go_wp2_with fail
 clear q1 q2 q3 q4 q5 q6 j7 j8
 have hb3 : Below w2.heap.size w2 (w2.alloc (.cells #[.string (⟨#[42]⟩), .string ((⟨#[62, 61]⟩ : ByteArray) ++ s), .string ((⟨#[60]⟩ : ByteArray) ++ s), .string ((⟨#[61]⟩ : ByteArray) ++ s), .string ((⟨#[62]⟩ : ByteArray) ++ s ++ ⟨#[32, 60, 61]⟩ ++ t), .string ((⟨#[60]⟩ : ByteArray) ++ s ++ ⟨#[32, 124, 124, 32, 62, 61]⟩ ++ t), .string ((⟨#[60, 61]⟩ : ByteArray) ++ s)] 9)) := (zv5 _ w2).alloc (zv4 _) _
 have j9 := zv2 (j6.out.below hb3)
 have h4 := zv2 (h2.out.below hb3)
 have k0 := zv2 (h3.out.trans (zq hb3 (some b)))
 refine (zay b (k + 2) (w2.alloc (.cells #[.string (⟨#[42]⟩), .string ((⟨#[62, 61]⟩ : ByteArray) ++ s), .string ((⟨#[60]⟩ : ByteArray) ++ s), .string ((⟨#[61]⟩ : ByteArray) ++ s), .string ((⟨#[62]⟩ : ByteArray) ++ s ++ ⟨#[32, 60, 61]⟩ ++ t), .string ((⟨#[60]⟩ : ByteArray) ++ s ++ ⟨#[32, 124, 124, 32, 62, 61]⟩ ++ t), .string ((⟨#[60, 61]⟩ : ByteArray) ++ s)] 9)) ⟨w2.heap.size, 0, none⟩ 7 ((rngL s t).map (·.data.toList)) h4.out (by omega) (by simp [rngL]) (by simp [rngL]) (by have := h2.out.lt; simp; omega) rfl (fun j hj => by
   rw [World.cell?_alloc_new, Nat.zero_add]
   have h7 : j = 0 ∨ j = 1 ∨ j = 2 ∨ j = 3 ∨ j = 4 ∨ j = 5 ∨ j = 6 := by simp [rngL] at hj; omega
   rcases h7 with rfl | rfl | rfl | rfl | rfl | rfl | rfl <;> rfl)).mono ?_
 rintro e w4 ⟨x, hx, rfl, k1, hg4⟩
 have HX := zv2 (HL.out x hx)
 have h5 := zv2 (j9.out.tape h4.out hg4)
 have k2 := zv2 k1
 have HG4 := zv2 (k0.out.trans hg4)
 have hz4 : w.heap.size + 1 ≤ w4.heap.size := by have := hg4.size; have := hb3.size; omega
 clear hb3 hx k1 hg4 j6 h2 h3 j9 h4 k0 HL v0
 go_wp2_with fail
 refine (zg9 n x w4 h5.out (by have := HX.out; unfold maxLen; omega)).mono ?_
 rintro e w5 ⟨u5, rfl, hu5, how5, hb5⟩
 obtain ⟨⟨rs, its, ec⟩, h6⟩ : ∃ p, V.parP n x = p := ⟨_, rfl⟩
 rw [h6] at hu5 ⊢
 simp only at hu5 ⊢
 have v1 := zv2 h6
 obtain ⟨p5, c5, rfl⟩ := hu5.slice
 have g7 : Below w4.heap.size w4 (w5.alloc (.cells #[.int .i64 rs, .slice p5 its.length c5] 68)) := hb5.alloc hb5.size _
 have v2 := zv2 (h5.out.below g7)
 have k3 := zv2 (k2.out.below g7)
 have g5 := zv2 (HG4.out.trans (zq g7 (some b)))
 have HI6 := zv2 (hu5.below ((zv5 _ w5).alloc (zv4 _) (.cells #[.int .i64 rs, .slice p5 its.length c5] 68)))
 have k4 : Hid (∀ c, (Value.slice p5 its.length c5).ownBlock = some c -> w4.heap.size ≤ c) := zv2 how5
 have k5 : Hid ((w5.alloc (.cells #[.int .i64 rs, .slice p5 its.length c5] 68)).heap[w5.heap.size]? = some (.cells #[.int .i64 rs, .slice p5 its.length c5] 68 (0, 0))) := zv2 (heap_alloc_new w5 _)
 have k6 : w4.heap.size ≤ w5.heap.size := hb5.size
 have k7 : (w5.alloc (.cells #[.int .i64 rs, .slice p5 its.length c5] 68)).heap.size = w5.heap.size + 1 := by simp
 clear h6 hu5 how5 hb5 g7 h5 k2 HG4
 obtain ⟨s0, s1⟩ := zcb k5.out
 unfold setV
 have k8 := zv2 ((g5.out.block _ (by have := HZ0.out; omega) (by intro e; cases e; have := HBW.out; omega)).trans q9.out)
 have g0 : Hid (w4.heap.size ≤ w5.heap.size /\ w.heap.size + 1 ≤ w4.heap.size /\ (w5.alloc (.cells #[.int .i64 rs, .slice p5 its.length c5] 68)).heap.size = w5.heap.size + 1) := zv2 ⟨k6, hz4, k7⟩
 clear hz4 k6 k7
 by_cases hgood : ec = 0 /\ its.length ≠ 0
 ·obtain ⟨rfl, h0⟩ := hgood
  have q7 := zv2 (parP_okR v1.out)
  obtain ⟨v3, hok⟩ := q7.out
  subst v3
  generalize k9 : its.length = m at *
  have v4 := zv2 k9
  have H0 := zv2 h0
  have q1 : ((m : Int) == 0) = false := by rw [zv6]; omega
  have q2 : ¬ (m : Int) = 0 := by omega
  have q3 : ¬ m = 0 := h0
  have q8 := zv2 hok
  clear k9 h0 hok
  go_wp2_with (first | (refine zx rfl 68 _ _ rfl w.heap.size #[.int .i64 0, .slice none 0 0] _ k8.out rfl #[.int .i64 rs, .slice p5 m c5] rfl rfl (by kernel_rfl) (qz _ _ _ _) ?_
                        intro W7 g1
                        have g2 := zv2 g1
                        obtain ⟨z0, z1⟩ := zcb g1.here
                        clear g1) | fail)
  refine bodyPost_ret (v := .agg #[.int .i64 rs, .slice p5 m c5]) (by simp [results, Tryz.results62, go_sem, z0, z1]) rfl ?_
  exact ⟨_, its, rfl, g2.out.itvs HI6.out (fun c hc => by have := k4.out c hc; have := g0.out; omega), q8.out, by have := v4.out; have := H0.out; omega, fun c hc => by have := k4.out c hc; have := g0.out; omega, k3.out.grown g2.out.grown (by intro e; cases e; have := HBW.out; omega) (by intro c e; cases e; exact HBW.out), zcz (j2.out.trans g5.out) g2.out.grown (zv4 _)⟩
 ·have v9 := zv2 hgood
  have hcase : (ec != 0) = true ∨ (ec = 0 /\ its = []) := by
   by_cases he : ec = 0
   ·refine .inr ⟨he, ?_⟩
    by_cases hl : its.length = 0
    ·exact List.eq_nil_of_length_eq_zero hl
    ·exact absurd ⟨he, hl⟩ hgood
   ·exact .inl (by simpa using he)
  clear hgood
  rcases hcase with y0 | ⟨rfl, rfl⟩
  all_goals
   go_wp2_with fail
   generalize w5.alloc (.cells #[.int .i64 rs, .slice p5 _ c5] 68) = w6 at *
   generalize w5.heap.size = X at *
   refine (zg9 n [42] w6 v2.out (by decide)).mono ?_
   rintro e w8 ⟨u8, rfl, g3, h8, g4⟩
   rw [rng_star HN.out] at g3 ⊢
   simp only at g3 ⊢
   obtain ⟨p8, c8, rfl⟩ := g3.slice
   have HT8 := zv2 (k3.out.below g4)
   have v5 := zv2 ((g4.block X (by have := g0.out; omega)).trans k5.out)
   have q0 := zv2 ((g4.block w.heap.size (by have := g0.out; omega)).trans k8.out)
   have v6 := zv2 (g5.out.trans (zq g4 (some b)))
   have v7 := zv2 g3
   have h9 : Hid (∀ c, (Value.slice p8 1 c8).ownBlock = some c -> w6.heap.size ≤ c) := zv2 h8
   clear g3 h8 g4 s0 s1
   unfold setV
   go_wp2_with (first | (refine zx rfl 68 _ _ rfl X _ _ v5.out rfl #[.int .i64 n, .slice p8 1 c8] rfl rfl (by kernel_rfl) (qz _ _ _ _) ?_
                         intro W9 g8
                         obtain ⟨s0, s1⟩ := zcb g8.here
                         have j0 := zv2 g8
                         have v8 := zv2 ((g8.grown.block w.heap.size (Array.getElem?_eq_some_iff.1 q0.out).1 (by intro e; cases e; have := g0.out; omega)).trans q0.out)
                         clear g8)
                      | (refine zx rfl 68 _ _ rfl w.heap.size #[.int .i64 0, .slice none 0 0] _ v8.out rfl #[.int .i64 n, .slice p8 1 c8] rfl rfl (by kernel_rfl) (qz _ _ _ _) ?_
                         intro W7 g1
                         have g2 := zv2 g1
                         obtain ⟨z0, z1⟩ := zcb g1.here
                         clear g1) | fail)
   refine bodyPost_ret (v := .agg #[.int .i64 n, .slice p8 1 c8]) (by simp [results, Tryz.results62, go_sem, z0, z1]) rfl ?_
   refine ⟨_, [⟨[], 0, [], 0⟩], rfl, g2.out.itvs (j0.out.itvs v7.out (fun c hc => by have := h9.out c hc; have := g0.out; omega)) (fun c hc => by have := h9.out c hc; have := g0.out; omega), rng_full HN.out, by decide, fun c hc => by have := h9.out c hc; have := g0.out; omega, ?_, zcz (zcz (j2.out.trans v6.out) j0.out.grown (by have := g0.out; omega)) g2.out.grown (zv4 _)⟩
   exact (HT8.out.grown j0.out.grown (by intro e; cases e; have := HBW.out; have := g0.out; omega) (by intro c e; cases e; have := HBW.out; have := g0.out; omega)).grown g2.out.grown (by intro e; cases e; have := HBW.out; omega) (by intro c e; cases e; exact HBW.out)
def pE (p : Int × V.Bs) : List Value := [.int .i64 p.1, .string ⟨p.2.toArray⟩]
theorem ze3 (p : Int × V.Bs) : (pE p).length = 2 := rfl
theorem zit (p : Int × V.Bs) : ∀ u ∈ pE p, u.oneCell' = true := by
 intro u hu
 simp [pE] at hu
 rcases hu with rfl | rfl <;> rfl
theorem zq3 : jo 100 2 24 := by
 have h : (match Tryz.prog.info? 100 with | some i => i.size == 2 && (i.bytes == 24 && (match i.zero with | some z => z.cells.size == 2 | none => false)) | none => false) = true := by kernel_rfl
 unfold jo
 cases hq : Tryz.prog.info? 100 with
 | none => rw [hq] at h; cases h
 | some i =>
  exact zwh
open Go.RowKit
theorem zgf : Tryz.prog.eqGuardType Tryz.prog.depth 100 = false := by kernel_rfl
theorem eq_pkg (x y : Int × V.Bs) (w : World) : (Op.equalIn 10000 100 (.agg #[.int .i64 x.1, .string ⟨x.2.toArray⟩]) (.agg #[.int .i64 y.1, .string ⟨y.2.toArray⟩])).run Tryz.prog w = .ok (decide (x = y)) w := by
 rw [run_equalIn_agg w 9999 100 _ _ (by kernel_rfl) (by kernel_rfl)]
 unfold Program.fieldsOf
 rw [Tryz.underlying100]
 simp only [Op.eqFields]
 simp [go_sem]
 obtain ⟨a, b⟩ := x
 obtain ⟨c, d⟩ := y
 by_cases h1 : a = c
 ·by_cases h2 : b = d
  ·simp [h1, h2]
  ·simp [h1, h2]
 ·simp [h1]
theorem zng (x y : Int × V.Bs) (w : World) : (binOp .eql 100 (.agg #[.int .i64 x.1, .string ⟨x.2.toArray⟩]) (.agg #[.int .i64 y.1, .string ⟨y.2.toArray⟩])).run Tryz.prog w = .ok (.bool (decide (x = y))) w := by
 rw [run_eql_struct, eq_pkg]
 rfl
theorem zfx (n m : Int) (s t : V.Bs) (w : World) :
  Calls Tryz.prog 95 #[.agg #[.int .i64 n, .string ⟨s.toArray⟩], .agg #[.int .i64 m, .string ⟨t.toArray⟩]] w fun e w' => e = .returned (.bool (decide (V.pkC (n, s) (m, t) < 0))) /\ Below w.heap.size w w' := zg1 n m s t w
theorem GSl.pk {w : World} {a : Option Addr} {n cap : Nat} {l : List (Int × V.Bs)} (h : GSl 2 pE w (.slice a n cap) l) (j : Nat) (hj : j < l.length) : ∃ g off, a = some ⟨g, off, none⟩ /\ g < w.heap.size /\ w.cell? ⟨g, off + j * 2, none⟩ = some (.int .i64 l[j].1) /\ w.cell? ⟨g, off + j * 2 + 1, none⟩ = some (.string ⟨l[j].2.toArray⟩) := by
 obtain ⟨g, off, e, hg, hc⟩ := h.at j hj
 exact ⟨g, off, e, hg, hc 0 _ rfl, hc 1 _ rfl⟩
theorem zfp {w W : World} {B : Nat} {a : Int × V.Bs} {t : TypeId} (h : W = w.alloc (.cells #[.int .i64 a.1, .string ⟨a.2.toArray⟩] t)) (hB : B = w.heap.size) : ∀ j u, (pE a)[j]? = some u -> W.cell? ⟨B, j, none⟩ = some u := by
 intro j u hj
 rw [h, hB, zh, if_pos rfl]
 simpa [pE] using hj
theorem zyw {P : Prop} (h : P := by
 (try dsimp only); exact ⟨hHeld.1.trans (hb7.mono hHeld.1.size), zg hb7 hHeld.2.1, zg hb7 hHeld.2.2.1, zg hb7 hHeld.2.2.2.1, zg hb7 hHeld.2.2.2.2⟩) : P := h
theorem zrm (v : Value) (l : List (Int × V.Bs)) (p : Int × V.Bs) (w : World) (hv : GSl 2 pE w v l) (hl : l.length ≤ 1000) :
  Calls Tryz.prog 61 #[v, .agg #[.int .i64 p.1, .string ⟨p.2.toArray⟩]] w fun e w' => ∃ u, e = .returned u /\ GRow 100 2 pE w' w.heap.size u (V.addP p l) /\ Below w.heap.size w w' := by
 obtain ⟨va, vc, rfl⟩ := hv.slice
 have j9 : Below w.heap.size w (w.alloc (.cells #[.int .i64 p.1, .string ⟨p.2.toArray⟩] 100)) := (zv5 _ w).alloc (zv4 _) _
 have HB0 := zv2 j9
 have HV := zv2 (hv.below j9)
 have p0 : (w.alloc (.cells #[.int .i64 p.1, .string ⟨p.2.toArray⟩] 100)).cell? ⟨w.heap.size, 0, none⟩ = some (.int .i64 p.1) := by rw [World.cell?_alloc_new]; rfl
 have p1 : (w.alloc (.cells #[.int .i64 p.1, .string ⟨p.2.toArray⟩] 100)).cell? ⟨w.heap.size, 1, none⟩ = some (.string ⟨p.2.toArray⟩) := by rw [World.cell?_alloc_new]; rfl
 have Z0 := zv2 p0
 have Z1 := zv2 p1
 clear j9 hv p0 p1
 go_enter Tryz.func61, Tryz.ntmps61
 go_wp2_with fail
 generalize w.alloc (.cells #[.int .i64 p.1, .string ⟨p.2.toArray⟩] 100) = w0 at *
 go_loopw [5, 6, 7] (fun ov dv iv wx => ∃ (k : Nat) (q : List (Int × V.Bs) × Bool), k ≤ l.length /\ iv = .int .i64 k /\ (q = V.ki p l k /\ dv = .bool q.2) /\ GRow 100 2 pE wx w0.heap.size ov q.1 /\ Below w0.heap.size w0 wx) (fun _ _ iv _ => l.length - (intOf iv).toNat)
 case atStart => exact ⟨0, _, Nat.zero_le _, rfl, ⟨rfl, rfl⟩, GRow.nil _ _, zv5 _ _⟩
 case round =>
  obtain ⟨k, ⟨o, d⟩, hk, rfl, ⟨hq, k3⟩, h9, j7⟩ := hrel
  simp only at k3 h9
  subst k3
  obtain ⟨oa, oc, k4⟩ := h9.slice
  subst k4
  have h3 := zv2 h9
  have g7 := zv2 j7
  have HQ := zv2 hq
  have P0 := zv2 (zg j7 Z0.out)
  have P1 := zv2 (zg j7 Z1.out)
  have HLO : Hid (o.length ≤ 1001) := zv2 (by have := (V.zed (p := p) (l := l) k hk).2.1; rw [← hq] at this; simp only at this; omega)
  clear h9 j7 hq
  by_cases hlt : k < l.length
  ·obtain ⟨g, off, rfl, hg, k0, k1⟩ := HV.out.pk k hlt
   have X0 := zv2 k0
   have X1 := zv2 k1
   have x0 := zg g7.out k0
   have x1 := zg g7.out k1
   have HST := zv2 (V.zch (p := p) hlt)
   rw [← HQ.out] at HST
   simp only at HST
   have i1 : (0 : Int) ≤ (k : Int) := by omega
   have i2 : (k : Int) < (l.length : Int) := by omega
   have wr1 : IntKind.i64.wrap ((k : Int) + 1) = (k : Int) + 1 := IntWalk.i64_in _ (by omega)
   generalize l[k] = x at *
   clear k0 k1 HV
   rcases d with _ | _
   ·by_cases hls : V.pkC p x < 0
    ·have HN : Hid (V.ki p l (k + 1) = (o ++ [p] ++ [x], true)) := zv2 (by rw [HST.out]; simp [hls])
     have j1 : decide (V.pkC p x < 0) = true := decide_eq_true hls
     clear HST hls
     go_wp2_with fail
     refine wp_region_held_drew (S := (fun W' => Below wr.heap.size wr W' /\ W'.cell? ⟨w.heap.size, 0, none⟩ = some (.int .i64 p.1) /\ W'.cell? ⟨w.heap.size, 1, none⟩ = some (.string ⟨p.2.toArray⟩) /\ W'.cell? ⟨g, off + k * 2, none⟩ = some (.int .i64 x.1) /\ W'.cell? ⟨g, off + k * 2 + 1, none⟩ = some (.string ⟨x.2.toArray⟩))) (by kernel_rfl) (⟨(zv5 _ _).drew, zg (zv5 _ _).drew P0.out, zg (zv5 _ _).drew P1.out, zg (zv5 _ _).drew x0, zg (zv5 _ _).drew x1⟩) (fun hHeld => ?_)
     refine tk 0 ?_
     refine tk 1 ?_
     refine tk 2 ?_
     refine tk 3 ?_
     refine tk 4 ?_
     refine tk 5 ?_
     refine tk 6 ?_
     refine tk 7 ?_
     refine rd 8 fun K hK => ?_
     go_simp
     refine (zfx p.1 x.1 p.2 x.2 _).mono ?_
     rintro e w7 ⟨rfl, hb7⟩
     try dsimp only
     refine hK.out _ _ ?_ (fun hHeld => nx ?_)
     ·exact zyw
     clear hK K
     refine tk 9 ?_
     refine wpAnyH_done (by kernel_rfl) ?_ _
     rw [show V.pkC (p.1, p.2) (x.1, x.2) = V.pkC p x from rfl, j1]
     have h4 := zv2 (g7.out.trans (hHeld.1.mono g7.out.size))
     have g8 := zv2 (GRow.below h3.out hHeld.1)
     have q0 := hHeld.2.1
     have q1 := hHeld.2.2.1
     clear hb7 hHeld x0 x1 j1
     have g5 : Below w7.heap.size w7 (w7.alloc (.cells #[.int .i64 p.1, .string ⟨p.2.toArray⟩] 100)) := (zv5 _ _).alloc (zv4 _) _
     have h5 := zv2 (GRow.below g8.out g5)
     have g6 := zv3 h4 g5
     have j5 : Hid (∀ j u, (pE p)[j]? = some u -> (w7.alloc (.cells #[.int .i64 p.1, .string ⟨p.2.toArray⟩] 100)).cell? ⟨w7.heap.size, j, none⟩ = some u) := zv2 (zfp (w := w7) (t := 100) rfl rfl)
     clear g5
     go_wp2_with (first | (refine yb ze3 (by decide) zit zq3 (by decide) rfl _ _ 97 rfl Tryz.underlying97 w0.heap.size _ o rfl h5.out w7.heap.size p rfl j5.out (by have := HLO.out; (try simp only [List.length_append, List.length_cons, List.length_nil]); omega) g6.out.size ?_
                           intro vf wf j2 j3
                           have j6 := zv2 (g6.out.trans (zw j3 (GRow.block h5.out) (zv4 _) g6.out.size))
                           have j0 := zv2 j2
                           clear j3 j2) | fail)
     clear q0 q1
     have HX : Hid (Below w0.heap.size w0 wf) := j6
     have y0 := zg HX.out X0.out
     have y1 := zg HX.out X1.out
     have z0 := zg HX.out Z0.out
     have z1 := zg HX.out Z1.out
     have j4 := zgf
     have g3 := zng x p
     by_cases hxp : x = p
     all_goals
      first | (rw [decide_eq_true hxp] at g3) | (rw [decide_eq_false hxp] at g3)
      have j8 := zv2 hxp
      clear hxp
      go_wp2_with fail
      go_quiet (fail)
      rename_i nq
      have g0 : Below wf.heap.size wf (wf.drewN nq) := below_drewN (zv5 _ _) nq
      have g9 := zv2 (GRow.below j0.out g0)
      have h6 := zv3 HX g0
      replace y0 := zg g0 y0
      replace y1 := zg g0 y1
      generalize wf.drewN nq = wq at *
      clear g0 z0 z1 g3 j4
      have g1 : Below wq.heap.size wq (wq.alloc (.cells #[.int .i64 x.1, .string ⟨x.2.toArray⟩] 100)) := (zv5 _ _).alloc (zv4 _) _
      have g4 := zv2 (GRow.below g9.out g1)
      have g2 := zv3 h6 g1
      have h7 : Hid (∀ j u, (pE x)[j]? = some u -> (wq.alloc (.cells #[.int .i64 x.1, .string ⟨x.2.toArray⟩] 100)).cell? ⟨wq.heap.size, j, none⟩ = some u) := zv2 (zfp (w := wq) (t := 100) rfl rfl)
      clear g1
      go_wp2_with (first | (refine yb ze3 (by decide) zit zq3 (by decide) rfl _ _ 97 rfl Tryz.underlying97 w0.heap.size _ (o ++ [p]) rfl g4.out wq.heap.size x rfl h7.out (by have := HLO.out; (try simp only [List.length_append, List.length_cons, List.length_nil]); omega) g2.out.size ?_
                            intro ve we h1 h2
                            have h8 := zv2 (g2.out.trans (zw h2 (GRow.block g4.out) (zv4 _) g2.out.size))
                            have h0 := zv2 h1
                            clear h2 h1) | fail)
      go_roundw
      case rel => exact ⟨k + 1, _, by omega, by go_num, ⟨HN.out.symm, rfl⟩, h0.out, h8.out⟩
      case measure => simp [intOf]; omega
    ·have j1 : decide (V.pkC p x < 0) = false := decide_eq_false hls
     have HN : Hid (V.ki p l (k + 1) = (o ++ [x], decide (x = p))) := zv2 (by rw [HST.out]; simp [hls])
     clear HST hls
     go_wp2_with fail
     refine wp_region_held_drew (S := (fun W' => Below wr.heap.size wr W' /\ W'.cell? ⟨w.heap.size, 0, none⟩ = some (.int .i64 p.1) /\ W'.cell? ⟨w.heap.size, 1, none⟩ = some (.string ⟨p.2.toArray⟩) /\ W'.cell? ⟨g, off + k * 2, none⟩ = some (.int .i64 x.1) /\ W'.cell? ⟨g, off + k * 2 + 1, none⟩ = some (.string ⟨x.2.toArray⟩))) (by kernel_rfl) (⟨(zv5 _ _).drew, zg (zv5 _ _).drew P0.out, zg (zv5 _ _).drew P1.out, zg (zv5 _ _).drew x0, zg (zv5 _ _).drew x1⟩) (fun hHeld => ?_)
     refine tk 0 ?_
     refine tk 1 ?_
     refine tk 2 ?_
     refine tk 3 ?_
     refine tk 4 ?_
     refine tk 5 ?_
     refine tk 6 ?_
     refine tk 7 ?_
     refine rd 8 fun K hK => ?_
     go_simp
     refine (zfx p.1 x.1 p.2 x.2 _).mono ?_
     rintro e w7 ⟨rfl, hb7⟩
     try dsimp only
     refine hK.out _ _ ?_ (fun hHeld => nx ?_)
     ·exact zyw
     clear hK K
     refine tk 9 ?_
     refine wpAnyH_done (by kernel_rfl) ?_ _
     rw [show V.pkC (p.1, p.2) (x.1, x.2) = V.pkC p x from rfl, j1]
     have h4 := zv2 (g7.out.trans (hHeld.1.mono g7.out.size))
     have g8 := zv2 (GRow.below h3.out hHeld.1)
     clear hb7 hHeld x0 x1 j1
     have HX : Hid (Below w0.heap.size w0 w7) := h4
     have y0 := zg HX.out X0.out
     have y1 := zg HX.out X1.out
     have z0 := zg HX.out Z0.out
     have z1 := zg HX.out Z1.out
     have j4 := zgf
     have g3 := zng x p
     by_cases hxp : x = p
     all_goals
      first | (rw [decide_eq_true hxp] at g3) | (rw [decide_eq_false hxp] at g3)
      have j8 := zv2 hxp
      clear hxp
      go_wp2_with fail
      go_quiet (fail)
      rename_i nq
      have g0 : Below w7.heap.size w7 (w7.drewN nq) := below_drewN (zv5 _ _) nq
      have g9 := zv2 (GRow.below g8.out g0)
      have h6 := zv3 HX g0
      replace y0 := zg g0 y0
      replace y1 := zg g0 y1
      generalize w7.drewN nq = wq at *
      clear g0 z0 z1 g3 j4
      have g1 : Below wq.heap.size wq (wq.alloc (.cells #[.int .i64 x.1, .string ⟨x.2.toArray⟩] 100)) := (zv5 _ _).alloc (zv4 _) _
      have g4 := zv2 (GRow.below g9.out g1)
      have g2 := zv3 h6 g1
      have h7 : Hid (∀ j u, (pE x)[j]? = some u -> (wq.alloc (.cells #[.int .i64 x.1, .string ⟨x.2.toArray⟩] 100)).cell? ⟨wq.heap.size, j, none⟩ = some u) := zv2 (zfp (w := wq) (t := 100) rfl rfl)
      clear g1
      go_wp2_with (first | (refine yb ze3 (by decide) zit zq3 (by decide) rfl _ _ 97 rfl Tryz.underlying97 w0.heap.size _ o rfl g4.out wq.heap.size x rfl h7.out (by have := HLO.out; (try simp only [List.length_append, List.length_cons, List.length_nil]); omega) g2.out.size ?_
                            intro ve we h1 h2
                            have h8 := zv2 (g2.out.trans (zw h2 (GRow.block g4.out) (zv4 _) g2.out.size))
                            have h0 := zv2 h1
                            clear h2 h1) | fail)
      go_roundw
      case rel => exact ⟨k + 1, _, by omega, by go_num, ⟨HN.out.symm, by first | (rw [decide_eq_true j8.out]) | (rw [decide_eq_false j8.out])⟩, h0.out, h8.out⟩
      case measure => simp [intOf]; omega
   ·have HN : Hid (V.ki p l (k + 1) = (o ++ [x], true)) := zv2 (by rw [HST.out]; simp)
    clear HST
    go_wp2_with fail
    go_quiet (fail)
    have k2 : Below wr.heap.size wr (wr.drewN nq) := below_drewN (zv5 _ _) nq
    have g8 := zv2 (GRow.below h3.out k2)
    have h4 := zv3 g7 k2
    generalize wr.drewN nq = w7 at *
    clear nq
    clear k2 x0 x1
    have HX : Hid (Below w0.heap.size w0 w7) := h4
    have y0 := zg HX.out X0.out
    have y1 := zg HX.out X1.out
    have z0 := zg HX.out Z0.out
    have z1 := zg HX.out Z1.out
    have j4 := zgf
    have g3 := zng x p
    by_cases hxp : x = p
    all_goals
     first | (rw [decide_eq_true hxp] at g3) | (rw [decide_eq_false hxp] at g3)
     have j8 := zv2 hxp
     clear hxp
     go_wp2_with fail
     go_quiet (fail)
     rename_i nq
     have g0 : Below w7.heap.size w7 (w7.drewN nq) := below_drewN (zv5 _ _) nq
     have g9 := zv2 (GRow.below g8.out g0)
     have h6 := zv3 HX g0
     replace y0 := zg g0 y0
     replace y1 := zg g0 y1
     generalize w7.drewN nq = wq at *
     clear g0 z0 z1 g3 j4
     have g1 : Below wq.heap.size wq (wq.alloc (.cells #[.int .i64 x.1, .string ⟨x.2.toArray⟩] 100)) := (zv5 _ _).alloc (zv4 _) _
     have g4 := zv2 (GRow.below g9.out g1)
     have g2 := zv3 h6 g1
     have h7 : Hid (∀ j u, (pE x)[j]? = some u -> (wq.alloc (.cells #[.int .i64 x.1, .string ⟨x.2.toArray⟩] 100)).cell? ⟨wq.heap.size, j, none⟩ = some u) := zv2 (zfp (w := wq) (t := 100) rfl rfl)
     clear g1
     go_wp2_with (first | (refine yb ze3 (by decide) zit zq3 (by decide) rfl _ _ 97 rfl Tryz.underlying97 w0.heap.size _ o rfl g4.out wq.heap.size x rfl h7.out (by have := HLO.out; (try simp only [List.length_append, List.length_cons, List.length_nil]); omega) g2.out.size ?_
                           intro ve we h1 h2
                           have h8 := zv2 (g2.out.trans (zw h2 (GRow.block g4.out) (zv4 _) g2.out.size))
                           have h0 := zv2 h1
                           clear h2 h1) | fail)
     go_roundw
     case rel => exact ⟨k + 1, _, by omega, by go_num, ⟨HN.out.symm, rfl⟩, h0.out, h8.out⟩
     case measure => simp [intOf]; omega
  ·obtain rfl : k = l.length := by omega
   have HBE := zv2 (HB0.out.trans (g7.out.mono HB0.out.size))
   have q0 := P0.out
   have q1 := P1.out
   rcases d with _ | _
   ·have HR : Hid (V.addP p l = o ++ [p]) := zv2 (by unfold V.addP; rw [← HQ.out]; rfl)
    clear HQ
    have g5 : Below wr.heap.size wr (wr.alloc (.cells #[.int .i64 p.1, .string ⟨p.2.toArray⟩] 100)) := (zv5 _ _).alloc (zv4 _) _
    have h5 := zv2 (GRow.below h3.out g5)
    have g6 := zv3 g7 g5
    have j5 : Hid (∀ j u, (pE p)[j]? = some u -> (wr.alloc (.cells #[.int .i64 p.1, .string ⟨p.2.toArray⟩] 100)).cell? ⟨wr.heap.size, j, none⟩ = some u) := zv2 (zfp (w := wr) (t := 100) rfl rfl)
    clear g5
    go_wp2_with (first | (refine yb ze3 (by decide) zit zq3 (by decide) rfl _ _ 97 rfl Tryz.underlying97 w0.heap.size _ o rfl h5.out wr.heap.size p rfl j5.out (by have := HLO.out; (try simp only [List.length_append, List.length_cons, List.length_nil]); omega) g6.out.size ?_
                          intro vf wf j2 j3
                          have j6 := zv2 (g6.out.trans (zw j3 (GRow.block h5.out) (zv4 _) g6.out.size))
                          have j0 := zv2 j2
                          clear j3 j2) | fail)
    have HBF := zv2 (HB0.out.trans (j6.out.mono HB0.out.size))
    go_ret
    exact ⟨_, rfl, by rw [HR.out]; exact GRow.weaken j0.out HB0.out.size, HBF.out⟩
   ·have HR : Hid (V.addP p l = o) := zv2 (by unfold V.addP; rw [← HQ.out]; rfl)
    clear HQ q0 q1
    go_wp2
    go_ret
    exact ⟨_, rfl, by rw [HR.out]; exact GRow.weaken h3.out HB0.out.size, HBE.out⟩
namespace V
end V
open Go.RowKit
namespace V
end V
open Go.RowKit
namespace V
end V
open Go.RowKit
open Go.RowKit
namespace V
end V
open Go.RowKit
theorem adv_zero (w : World) : Below w.heap.size w (w.alloc (.cells #[.string ⟨#[]⟩, .int .i64 0, .int .i64 0, .slice none 0 0] 54)) /\ (w.alloc (.cells #[.string ⟨#[]⟩, .int .i64 0, .int .i64 0, .slice none 0 0] 54)).heap[w.heap.size]? = some (.cells #[.string ⟨#[]⟩, .int .i64 0, .int .i64 0, .slice none 0 0] 54 (0, 0)) /\ (w.alloc (.cells #[.string ⟨#[]⟩, .int .i64 0, .int .i64 0, .slice none 0 0] 54)).heap.size = w.heap.size + 1 :=
 ⟨(zv5 _ w).alloc (zv4 _) _, heap_alloc_new w _, by simp⟩
open Go.RowKit
open Go.RowKit Go.Shelf
attribute [local go_sem] Oper.semAt_some
open Go.RowKit Go.Shelf
attribute [local go_sem] Oper.semAt_some
section
variable {α : Type} {enc : α -> List Value} {k : Nat} {T : TypeId}
end
open Go.RowKit
theorem zbq {α : Type} {enc : α -> List Value} {k : Nat} {T : TypeId} {ops : Array Oper} {o : Oper} {a : Act} {w : World} {K : Act -> World -> Prop} {Q : Exit -> Act -> World -> Prop} {E : Prop} (hk : ∀ x, (enc x).length = k) (g1 : 0 < k) (g2 : ∀ x, ∀ u ∈ enc x, u.oneCell' = true) {bytes : Nat} (hi : jo T k bytes) (g3 : bytes ≤ 1000) (g4 : o.guard = none) (s x : Operand) (S : TypeId)
  (ho : o.op = .call { callee := .builtin .append, args := #[s, x], argTypes := #[S, S] }) (hu : Tryz.prog.underlying S = some (.slice T))
  (N : Nat) (v : Value) (l : List α) (hs : a.eval s = v) (g0 : GRow T k enc w N v l) (b : Nat) (c : α) (hx : a.eval x = .slice (some ⟨b, 0, none⟩) 1 1) (hr : ∀ j u, (enc c)[j]? = some u -> w.cell? ⟨b, j, none⟩ = some u) (hl : l.length ≤ 900000) (hN : N ≤ w.heap.size)
  (h : ∀ v' w', GRow T k enc w' N v' (l ++ [c]) -> w.grownBy w' v.ownBlock -> (v'.ownBlock = v.ownBlock ∨ v'.ownBlock = some w.heap.size) -> K (a.put o.dst v') w') : if Region.wanted o (yielded ops a.tmps) = true then Oper.wp Tryz.prog o a w K Q else E := by
 rw [if_pos (by simp [Region.wanted, g4])]
 obtain ⟨ie, z, g5, hz, h1, h2, h3⟩ := hi
 obtain ⟨v', w', g6, ho', hg, _, g7⟩ := run_append_own_at (P := Tryz.prog) w N S o.type T ie z k bytes hu g5 hz h1 h2 h3 g1 v l.length (l.flatMap enc) g0 ⟨b, 0, none⟩ 1 1 (enc c) (by rw [hk]; omega) (fun j u hj => by
   rw [Addr.add_mid, Nat.zero_add]
   exact hr j u hj) (g2 c) (by unfold maxLen; omega) (by
     have : (l.length + 1) * bytes ≤ 1000001 * 1000 := Nat.mul_le_mul (by omega) g3
     omega) hN
 unfold Oper.wp execOp
 simp only [ho, resolve, invoke, builtin, Sem.run_bind, Sem.run_pure, Result.andThen_ok, List.map_toArray, List.map_cons, List.map_nil, hs, hx, g6]
 refine h v' w' ?_ hg g7
 unfold GRow
 rw [List.length_append, List.flatMap_append]
 simpa using ho'
open Go.RowKit
end Go.Proofs.YtbikeahmldobkaaGreatDoor
