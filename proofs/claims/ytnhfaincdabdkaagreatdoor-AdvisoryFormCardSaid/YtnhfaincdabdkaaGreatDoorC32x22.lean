/-
  Lemmas for the law.
-/
import Derived.Test.YtnhfaincdabdkaaGreatDoorC32x17
import Derived.Test.YtnhfaincdabdkaaGreatDoorC32x20
import Derived.Test.YtnhfaincdabdkaaGreatDoorC32x10
import Derived.Test.YtnhfaincdabdkaaGreatDoorC32x15
set_option linter.all false
set_option maxRecDepth 100000
set_option maxHeartbeats 3200000
namespace Go.Proofs.YtnhfaincdabdkaaGreatDoor
open Go.RowKit
def baE (s : ByteArray) : List Value := [.string s]
theorem yj (s : ByteArray) : (baE s).length = 1 := rfl
theorem yh (s : ByteArray) : ∀ u ∈ baE s, u.oneCell' = true := by
 intro u hu
 simp [baE] at hu
 subst hu
 rfl
theorem yg : xj 9 1 16 := by
 have h : (match Tryz.prog.info? 9 with | some i => i.size == 1 && (i.bytes == 16 && (match i.zero with | some z => z.cells.size == 1 | none => false)) | none => false) = true := by kernel_rfl
 unfold xj
 cases hq : Tryz.prog.info? 9 with
 | none => rw [hq] at h; cases h
 | some i =>
  exact zu6
def SRow (w : World) (N : Nat) (v : Value) (l : List ByteArray) : Prop := GRow 9 1 baE w N v l
theorem baE_flat (l : List ByteArray) : l.flatMap baE = l.map Value.string := by
 induction l with
 | nil => rfl
 | cons s l ih => rw [List.flatMap_cons, ih]; rfl
theorem SRow.head {w : World} {N : Nat} {v : Value} {l : List ByteArray} (h : SRow w N v l) (h0 : l ≠ []) : ∃ g cap, v = .slice (some ⟨g, 0, none⟩) l.length cap /\ l.length ≤ cap /\ g < w.heap.size /\ ∀ (j : Nat) (x : ByteArray), l[j]? = some x -> w.cell? ⟨g, 0 + j, none⟩ = some (.string x) := by
 obtain ⟨g0, cap0, rfl⟩ : ∃ a c, v = .slice a l.length c := GRow.slice h
 rcases h.2 with ⟨e, hn⟩ | ⟨g, cap, cur, e, hb, hg, hnc, hm, hsz, htk⟩
 ·exact absurd (List.length_eq_zero_iff.1 hn) h0
 ·cases e
  refine ⟨g, _, rfl, hnc, (Array.getElem?_eq_some_iff.1 hg).1, fun j x hx => ?_⟩
  have hj := (List.getElem?_eq_some_iff.1 hx).1
  rw [Nat.zero_add, zby hg]
  have h2 : (cur.toList.take (l.length * 1))[j]? = some (.string x) := by
   rw [htk, baE_flat, List.getElem?_map, hx]
   rfl
  rw [List.getElem?_take] at h2
  split at h2
  ·simpa using h2
  ·cases h2
theorem yi (w : World) (N : Nat) (v : Value) (l : List ByteArray) (sep : ByteArray) (h : SRow w N v l) (h0 : l ≠ []) (hl : l.length ≤ 1000000) (hlen : (Lib.join (l.map (·.data.toList)) sep.data.toList).length ≤ 1000000000) :
  Calls Tryz.prog 109 #[v, .string sep] w fun e w' => e = .returned (.string ⟨(Lib.join (l.map (·.data.toList)) sep.data.toList).toArray⟩) /\ Below w.heap.size w w' := by
 obtain ⟨g, cap, rfl, hc, hg, hcell⟩ := h.head h0
 exact Tryz.strings_Join g 0 cap l sep w hcell hg (by omega) hc (by omega)
theorem str_len (s : ByteArray) : s.data.toList.length = s.size := rfl
theorem zbl {n : Int} {v : V.Bs} {k : Int} (h : V.jh n v k = true) : (k = 0 ∨ k = 1 ∨ k = 2) /\ v.length ≤ 64 := by
 by_cases hk : k = 0
 ·exact ⟨.inl hk, by rw [V.zb2 h hk]; simp⟩
 ·exact ⟨.inr (V.kq h hk).1, (V.valid_len (V.kq h hk).2).2⟩
theorem zcl {a b : List UInt8} (h : a = b) : Ending.returned (.string ⟨a.toArray⟩) = .returned (.string ⟨b.toArray⟩) := by rw [h]
theorem zfp {A : ByteArray} (h : A.size ≤ 70) : (Lib.join ([A].map (·.data.toList)) (ByteArray.mk #[32]).data.toList).length ≤ 1000000000 := by
 rw [List.map_cons, List.map_nil, Lib.join_one, str_len]
 omega
theorem zfu {A B : ByteArray} (h : A.size ≤ 70) (h2 : B.size ≤ 70) : (Lib.join ([A, B].map (·.data.toList)) (ByteArray.mk #[32]).data.toList).length ≤ 1000000000 := by
 rw [List.map_cons, List.map_cons, List.map_nil, Lib.join_length]
 show 1 * 1 + (A.size + (B.size + 0)) ≤ 1000000000
 omega
theorem ret_ba {s : ByteArray} {b : List UInt8} (h : s.data.toList = b) : Ending.returned (.string s) = .returned (.string ⟨b.toArray⟩) := by
 subst h
 rfl
theorem zx {W W1 : World} {o : Obj} {c : Nat} (h : (W.alloc o).grownBy W1 (Value.slice none 0 c).ownBlock) : Below W.heap.size W W1 :=
 ((zut _ _).alloc (zus _) _).trans ⟨h.os, h.tape, h.output, h.size, fun k hk => h.block k (by simp; omega) (fun e => by cases e)⟩
theorem zd8 {w W1 W2 : World} {v : Value} {l : List ByteArray} {o : Obj} (h1 : Below w.heap.size w W1) (hr : SRow W1 (w.heap.size + 1) v l) (h2 : (W1.alloc o).grownBy W2 v.ownBlock) : Below w.heap.size w W2 :=
 (h1.alloc h1.size o).trans ⟨h2.os, h2.tape, h2.output, h2.size, fun k hk => h2.block k (by have := h1.size; simp; omega) (fun e => by have := GRow.block hr k e.symm; omega)⟩
theorem zvr {P : Prop} (h : P := by
 rintro e w3 ⟨rfl, hb3⟩
 have HB3 := zur HB2 hb3
 clear hb3
 go_wp2
 go_ret
 exact ⟨zcl (by rw [HR.out, ← HLS.out, ← HLT.out]; simp), HB3.out⟩) : P := h
theorem zx0 {P : Prop} (h : P := by
 rintro e w2 ⟨rfl, hb2⟩
 have HB2 := zur HB1 hb2
 clear hb2
 go_wp2
 go_ret
 exact ⟨zcl (by rw [HR.out, ← HLT.out]; simp), HB2.out⟩) : P := h
theorem zx1 {P : Prop} (h : P := by
 rintro e w2 ⟨rfl, hb2⟩
 have HB2 := zur HB1 hb2
 clear hb2
 go_wp2
 go_ret
 exact ⟨zcl (by rw [HR.out, ← HLS.out]; simp), HB2.out⟩) : P := h
theorem zrc (n : Int) (x : V.Itv) (w : World) (hb : V.zk n x = true) : Calls Tryz.prog 108 #[itvV x] w fun e w' => e = .returned (.string ⟨(V.qd x).toArray⟩) /\ Below w.heap.size w w' := by
 obtain ⟨lo, lk, hi, hk⟩ := x
 unfold V.zk at hb
 rw [Bool.and_eq_true] at hb
 obtain ⟨hlk, hll⟩ := zbl hb.1
 obtain ⟨hhk, hhl⟩ := zbl hb.2
 simp only at hlk hll hhk hhl
 unfold itvV
 simp only
 have HB0 := zuq ((zut w.heap.size w).alloc (zus _) (.cells #[.string ⟨lo.toArray⟩, .int .i64 lk, .string ⟨hi.toArray⟩, .int .i64 hk] 120))
 have c0 : (w.alloc (.cells #[.string ⟨lo.toArray⟩, .int .i64 lk, .string ⟨hi.toArray⟩, .int .i64 hk] 120)).cell? ⟨w.heap.size, 0, none⟩ = some (.string ⟨lo.toArray⟩) := by simp [zc]
 have c1 : (w.alloc (.cells #[.string ⟨lo.toArray⟩, .int .i64 lk, .string ⟨hi.toArray⟩, .int .i64 hk] 120)).cell? ⟨w.heap.size, 1, none⟩ = some (.int .i64 lk) := by simp [zc]
 have c2 : (w.alloc (.cells #[.string ⟨lo.toArray⟩, .int .i64 lk, .string ⟨hi.toArray⟩, .int .i64 hk] 120)).cell? ⟨w.heap.size, 2, none⟩ = some (.string ⟨hi.toArray⟩) := by simp [zc]
 have c3 : (w.alloc (.cells #[.string ⟨lo.toArray⟩, .int .i64 lk, .string ⟨hi.toArray⟩, .int .i64 hk] 120)).cell? ⟨w.heap.size, 3, none⟩ = some (.int .i64 hk) := by simp [zc]
 rcases hlk with rfl | rfl | rfl <;> rcases hhk with rfl | rfl | rfl
 ·clear hb
  have HR : Hid (V.qd ⟨lo, 0, hi, 0⟩ = [42]) := zuq (by simp [V.qd])
  generalize (⟨lo.toArray⟩ : ByteArray) = s at *
  generalize (⟨hi.toArray⟩ : ByteArray) = t at *
  go_enter Tryz.func108, Tryz.ntmps108
  go_wp2
  go_ret
  exact ⟨zcl HR.out.symm, HB0.out⟩
 ·clear hb
  have HR : Hid (V.qd ⟨lo, 0, hi, 1⟩ = Lib.join [[60, 61] ++ hi] [32]) := zuq (by simp [V.qd, V.lowT, V.zbf])
  have HLS : Hid ((⟨lo.toArray⟩ : ByteArray).data.toList = lo) := zuq rfl
  have HLT : Hid ((⟨hi.toArray⟩ : ByteArray).data.toList = hi) := zuq rfl
  have s1 : (⟨lo.toArray⟩ : ByteArray).size ≤ 64 := by simpa [ByteArray.size] using hll
  have t1 : (⟨hi.toArray⟩ : ByteArray).size ≤ 64 := by simpa [ByteArray.size] using hhl
  clear hll hhl
  generalize (⟨lo.toArray⟩ : ByteArray) = s at *
  generalize (⟨hi.toArray⟩ : ByteArray) = t at *
  have qh1 : ¬ (9223372036854775807 < 2 + t.size) := by omega
  go_enter Tryz.func108, Tryz.ntmps108
  go_wp2_with (first | (refine zp yj (by decide) yh yg (by decide) rfl _ _ 61 rfl Tryz.underlying61 (w.heap.size + 1) (.slice none 0 0) [] rfl (GRow.nil _ _) (w.heap.size + 1) ((⟨#[60, 61]⟩ : ByteArray) ++ t) rfl (fun j u hu => by simpa [baE, zc] using hu) (by simp) (by simp) ?_; intro v1 W1 hr1 hg1; have d2 := za (zx hg1) c2; have d3 := za (zx hg1) c3; clear c0 c1 c2 c3) | fail)
  have HR1 : Hid (SRow W1 (w.heap.size + 1) v1 [((⟨#[60, 61]⟩ : ByteArray) ++ t)]) := zuq hr1
  have HB1 := zuq (HB0.out.trans ((zx hg1).mono HB0.out.size))
  clear hr1 hg1
  refine (yi W1 (w.heap.size + 1) v1 [((⟨#[60, 61]⟩ : ByteArray) ++ t)] ⟨#[32]⟩ HR1.out (by simp) (by simp) (zfp (by rw [ByteArray.size_append]; show 2 + t.size ≤ 70; omega))).mono ?_
  exact zx0
 ·clear hb
  have HR : Hid (V.qd ⟨lo, 0, hi, 2⟩ = Lib.join [[60] ++ hi] [32]) := zuq (by simp [V.qd, V.lowT, V.zbf])
  have HLS : Hid ((⟨lo.toArray⟩ : ByteArray).data.toList = lo) := zuq rfl
  have HLT : Hid ((⟨hi.toArray⟩ : ByteArray).data.toList = hi) := zuq rfl
  have s1 : (⟨lo.toArray⟩ : ByteArray).size ≤ 64 := by simpa [ByteArray.size] using hll
  have t1 : (⟨hi.toArray⟩ : ByteArray).size ≤ 64 := by simpa [ByteArray.size] using hhl
  clear hll hhl
  generalize (⟨lo.toArray⟩ : ByteArray) = s at *
  generalize (⟨hi.toArray⟩ : ByteArray) = t at *
  have qh2 : ¬ (9223372036854775807 < 1 + t.size) := by omega
  go_enter Tryz.func108, Tryz.ntmps108
  go_wp2_with (first | (refine zp yj (by decide) yh yg (by decide) rfl _ _ 61 rfl Tryz.underlying61 (w.heap.size + 1) (.slice none 0 0) [] rfl (GRow.nil _ _) (w.heap.size + 1) ((⟨#[60]⟩ : ByteArray) ++ t) rfl (fun j u hu => by simpa [baE, zc] using hu) (by simp) (by simp) ?_; intro v1 W1 hr1 hg1; have d2 := za (zx hg1) c2; have d3 := za (zx hg1) c3; clear c0 c1 c2 c3) | fail)
  have HR1 : Hid (SRow W1 (w.heap.size + 1) v1 [((⟨#[60]⟩ : ByteArray) ++ t)]) := zuq hr1
  have HB1 := zuq (HB0.out.trans ((zx hg1).mono HB0.out.size))
  clear hr1 hg1
  refine (yi W1 (w.heap.size + 1) v1 [((⟨#[60]⟩ : ByteArray) ++ t)] ⟨#[32]⟩ HR1.out (by simp) (by simp) (zfp (by rw [ByteArray.size_append]; show 1 + t.size ≤ 70; omega))).mono ?_
  exact zx0
 ·clear hb
  have HR : Hid (V.qd ⟨lo, 1, hi, 0⟩ = Lib.join [[62, 61] ++ lo] [32]) := zuq (by simp [V.qd, V.lowT, V.zbf])
  have HLS : Hid ((⟨lo.toArray⟩ : ByteArray).data.toList = lo) := zuq rfl
  have HLT : Hid ((⟨hi.toArray⟩ : ByteArray).data.toList = hi) := zuq rfl
  have s1 : (⟨lo.toArray⟩ : ByteArray).size ≤ 64 := by simpa [ByteArray.size] using hll
  have t1 : (⟨hi.toArray⟩ : ByteArray).size ≤ 64 := by simpa [ByteArray.size] using hhl
  clear hll hhl
  generalize (⟨lo.toArray⟩ : ByteArray) = s at *
  generalize (⟨hi.toArray⟩ : ByteArray) = t at *
  have ql1 : ¬ (9223372036854775807 < 2 + s.size) := by omega
  go_enter Tryz.func108, Tryz.ntmps108
  go_wp2_with (first | (refine zp yj (by decide) yh yg (by decide) rfl _ _ 61 rfl Tryz.underlying61 (w.heap.size + 1) (.slice none 0 0) [] rfl (GRow.nil _ _) (w.heap.size + 1) ((⟨#[62, 61]⟩ : ByteArray) ++ s) rfl (fun j u hu => by simpa [baE, zc] using hu) (by simp) (by simp) ?_; intro v1 W1 hr1 hg1; have d2 := za (zx hg1) c2; have d3 := za (zx hg1) c3; clear c0 c1 c2 c3) | fail)
  have HR1 : Hid (SRow W1 (w.heap.size + 1) v1 [((⟨#[62, 61]⟩ : ByteArray) ++ s)]) := zuq hr1
  have HB1 := zuq (HB0.out.trans ((zx hg1).mono HB0.out.size))
  clear hr1 hg1
  refine (yi W1 (w.heap.size + 1) v1 [((⟨#[62, 61]⟩ : ByteArray) ++ s)] ⟨#[32]⟩ HR1.out (by simp) (by simp) (zfp (by rw [ByteArray.size_append]; show 2 + s.size ≤ 70; omega))).mono ?_
  exact zx1
 ·by_cases heq : lo = hi
  ·clear hb
   subst heq
   have HR : Hid (V.qd ⟨lo, 1, lo, 1⟩ = [61] ++ lo) := zuq (by simp [V.qd])
   have HL : Hid ((⟨lo.toArray⟩ : ByteArray).data.toList = lo) := zuq rfl
   have s1 : (⟨lo.toArray⟩ : ByteArray).size ≤ 64 := by simpa [ByteArray.size] using hll
   clear hll hhl
   generalize (⟨lo.toArray⟩ : ByteArray) = s at *
   have s2 : ¬ (9223372036854775807 < 1 + s.size) := by omega
   go_enter Tryz.func108, Tryz.ntmps108
   go_wp2
   go_ret
   exact ⟨ret_ba (by rw [HR.out, ← HL.out]; simp), HB0.out⟩
  ·clear hb
   have HR : Hid (V.qd ⟨lo, 1, hi, 1⟩ = Lib.join [[62, 61] ++ lo, [60, 61] ++ hi] [32]) := zuq (by simp [V.qd, V.lowT, V.zbf, heq])
   have HLS : Hid ((⟨lo.toArray⟩ : ByteArray).data.toList = lo) := zuq rfl
   have HLT : Hid ((⟨hi.toArray⟩ : ByteArray).data.toList = hi) := zuq rfl
   have s1 : (⟨lo.toArray⟩ : ByteArray).size ≤ 64 := by simpa [ByteArray.size] using hll
   have t1 : (⟨hi.toArray⟩ : ByteArray).size ≤ 64 := by simpa [ByteArray.size] using hhl
   have hne : ¬ lo = hi := heq
   clear heq
   clear hll hhl
   have hq : ((⟨lo.toArray⟩ : ByteArray).toList == (⟨hi.toArray⟩ : ByteArray).toList) = false := zuu.2 fun e => hne (by rw [ByteArray.toList_eq, ByteArray.toList_eq, HLS.out, HLT.out] at e; exact e)
   clear hne
   generalize (⟨lo.toArray⟩ : ByteArray) = s at *
   generalize (⟨hi.toArray⟩ : ByteArray) = t at *
   have ql1 : ¬ (9223372036854775807 < 2 + s.size) := by omega
   have qh1 : ¬ (9223372036854775807 < 2 + t.size) := by omega
   go_enter Tryz.func108, Tryz.ntmps108
   go_wp2_with (first | (refine zp yj (by decide) yh yg (by decide) rfl _ _ 61 rfl Tryz.underlying61 (w.heap.size + 1) (.slice none 0 0) [] rfl (GRow.nil _ _) (w.heap.size + 1) ((⟨#[62, 61]⟩ : ByteArray) ++ s) rfl (fun j u hu => by simpa [baE, zc] using hu) (by simp) (by simp) ?_; intro v1 W1 hr1 hg1; have HR1 := zuq hr1; have HG1 := zuq hg1; have d2 := za (zx hg1) c2; have d3 := za (zx hg1) c3; clear hr1 hg1 c0 c1 c2 c3) | (refine zp yj (by decide) yh yg (by decide) rfl _ _ 61 rfl Tryz.underlying61 (w.heap.size + 1) _ [((⟨#[62, 61]⟩ : ByteArray) ++ s)] rfl (GRow.below HR1.out ((zut _ _).alloc (zus _) _)) _ ((⟨#[60, 61]⟩ : ByteArray) ++ t) rfl (fun j u hu => by rw [World.cell?_alloc_new]; simpa [baE] using hu) (by simp) (by have := HG1.out.size; simp at this ⊢; omega) ?_; intro v2 W2 hr2 hg2; have HR2 := zuq hr2; have HG2 := zuq hg2; clear hr2 hg2) | fail)
   have HB1 := zuq (HB0.out.trans ((zx HG1.out).mono HB0.out.size))
   have HB2 := zuq (zd8 HB1.out HR1.out HG2.out)
   refine (yi W2 (w.heap.size + 1) v2 [((⟨#[62, 61]⟩ : ByteArray) ++ s), ((⟨#[60, 61]⟩ : ByteArray) ++ t)] ⟨#[32]⟩ HR2.out (by simp) (by simp) (zfu (by rw [ByteArray.size_append]; show 2 + s.size ≤ 70; omega) (by rw [ByteArray.size_append]; show 2 + t.size ≤ 70; omega))).mono ?_
   exact zvr
 ·clear hb
  have HR : Hid (V.qd ⟨lo, 1, hi, 2⟩ = Lib.join [[62, 61] ++ lo, [60] ++ hi] [32]) := zuq (by simp [V.qd, V.lowT, V.zbf])
  have HLS : Hid ((⟨lo.toArray⟩ : ByteArray).data.toList = lo) := zuq rfl
  have HLT : Hid ((⟨hi.toArray⟩ : ByteArray).data.toList = hi) := zuq rfl
  have s1 : (⟨lo.toArray⟩ : ByteArray).size ≤ 64 := by simpa [ByteArray.size] using hll
  have t1 : (⟨hi.toArray⟩ : ByteArray).size ≤ 64 := by simpa [ByteArray.size] using hhl
  clear hll hhl
  generalize (⟨lo.toArray⟩ : ByteArray) = s at *
  generalize (⟨hi.toArray⟩ : ByteArray) = t at *
  have ql1 : ¬ (9223372036854775807 < 2 + s.size) := by omega
  have qh2 : ¬ (9223372036854775807 < 1 + t.size) := by omega
  go_enter Tryz.func108, Tryz.ntmps108
  go_wp2_with (first | (refine zp yj (by decide) yh yg (by decide) rfl _ _ 61 rfl Tryz.underlying61 (w.heap.size + 1) (.slice none 0 0) [] rfl (GRow.nil _ _) (w.heap.size + 1) ((⟨#[62, 61]⟩ : ByteArray) ++ s) rfl (fun j u hu => by simpa [baE, zc] using hu) (by simp) (by simp) ?_; intro v1 W1 hr1 hg1; have HR1 := zuq hr1; have HG1 := zuq hg1; have d2 := za (zx hg1) c2; have d3 := za (zx hg1) c3; clear hr1 hg1 c0 c1 c2 c3) | (refine zp yj (by decide) yh yg (by decide) rfl _ _ 61 rfl Tryz.underlying61 (w.heap.size + 1) _ [((⟨#[62, 61]⟩ : ByteArray) ++ s)] rfl (GRow.below HR1.out ((zut _ _).alloc (zus _) _)) _ ((⟨#[60]⟩ : ByteArray) ++ t) rfl (fun j u hu => by rw [World.cell?_alloc_new]; simpa [baE] using hu) (by simp) (by have := HG1.out.size; simp at this ⊢; omega) ?_; intro v2 W2 hr2 hg2; have HR2 := zuq hr2; have HG2 := zuq hg2; clear hr2 hg2) | fail)
  have HB1 := zuq (HB0.out.trans ((zx HG1.out).mono HB0.out.size))
  have HB2 := zuq (zd8 HB1.out HR1.out HG2.out)
  refine (yi W2 (w.heap.size + 1) v2 [((⟨#[62, 61]⟩ : ByteArray) ++ s), ((⟨#[60]⟩ : ByteArray) ++ t)] ⟨#[32]⟩ HR2.out (by simp) (by simp) (zfu (by rw [ByteArray.size_append]; show 2 + s.size ≤ 70; omega) (by rw [ByteArray.size_append]; show 1 + t.size ≤ 70; omega))).mono ?_
  exact zvr
 ·clear hb
  have HR : Hid (V.qd ⟨lo, 2, hi, 0⟩ = Lib.join [[62] ++ lo] [32]) := zuq (by simp [V.qd, V.lowT, V.zbf])
  have HLS : Hid ((⟨lo.toArray⟩ : ByteArray).data.toList = lo) := zuq rfl
  have HLT : Hid ((⟨hi.toArray⟩ : ByteArray).data.toList = hi) := zuq rfl
  have s1 : (⟨lo.toArray⟩ : ByteArray).size ≤ 64 := by simpa [ByteArray.size] using hll
  have t1 : (⟨hi.toArray⟩ : ByteArray).size ≤ 64 := by simpa [ByteArray.size] using hhl
  clear hll hhl
  generalize (⟨lo.toArray⟩ : ByteArray) = s at *
  generalize (⟨hi.toArray⟩ : ByteArray) = t at *
  have ql2 : ¬ (9223372036854775807 < 1 + s.size) := by omega
  go_enter Tryz.func108, Tryz.ntmps108
  go_wp2_with (first | (refine zp yj (by decide) yh yg (by decide) rfl _ _ 61 rfl Tryz.underlying61 (w.heap.size + 1) (.slice none 0 0) [] rfl (GRow.nil _ _) (w.heap.size + 1) ((⟨#[62]⟩ : ByteArray) ++ s) rfl (fun j u hu => by simpa [baE, zc] using hu) (by simp) (by simp) ?_; intro v1 W1 hr1 hg1; have d2 := za (zx hg1) c2; have d3 := za (zx hg1) c3; clear c0 c1 c2 c3) | fail)
  have HR1 : Hid (SRow W1 (w.heap.size + 1) v1 [((⟨#[62]⟩ : ByteArray) ++ s)]) := zuq hr1
  have HB1 := zuq (HB0.out.trans ((zx hg1).mono HB0.out.size))
  clear hr1 hg1
  refine (yi W1 (w.heap.size + 1) v1 [((⟨#[62]⟩ : ByteArray) ++ s)] ⟨#[32]⟩ HR1.out (by simp) (by simp) (zfp (by rw [ByteArray.size_append]; show 1 + s.size ≤ 70; omega))).mono ?_
  exact zx1
 ·clear hb
  have HR : Hid (V.qd ⟨lo, 2, hi, 1⟩ = Lib.join [[62] ++ lo, [60, 61] ++ hi] [32]) := zuq (by simp [V.qd, V.lowT, V.zbf])
  have HLS : Hid ((⟨lo.toArray⟩ : ByteArray).data.toList = lo) := zuq rfl
  have HLT : Hid ((⟨hi.toArray⟩ : ByteArray).data.toList = hi) := zuq rfl
  have s1 : (⟨lo.toArray⟩ : ByteArray).size ≤ 64 := by simpa [ByteArray.size] using hll
  have t1 : (⟨hi.toArray⟩ : ByteArray).size ≤ 64 := by simpa [ByteArray.size] using hhl
  clear hll hhl
  generalize (⟨lo.toArray⟩ : ByteArray) = s at *
  generalize (⟨hi.toArray⟩ : ByteArray) = t at *
  have ql2 : ¬ (9223372036854775807 < 1 + s.size) := by omega
  have qh1 : ¬ (9223372036854775807 < 2 + t.size) := by omega
  go_enter Tryz.func108, Tryz.ntmps108
  go_wp2_with (first | (refine zp yj (by decide) yh yg (by decide) rfl _ _ 61 rfl Tryz.underlying61 (w.heap.size + 1) (.slice none 0 0) [] rfl (GRow.nil _ _) (w.heap.size + 1) ((⟨#[62]⟩ : ByteArray) ++ s) rfl (fun j u hu => by simpa [baE, zc] using hu) (by simp) (by simp) ?_; intro v1 W1 hr1 hg1; have HR1 := zuq hr1; have HG1 := zuq hg1; have d2 := za (zx hg1) c2; have d3 := za (zx hg1) c3; clear hr1 hg1 c0 c1 c2 c3) | (refine zp yj (by decide) yh yg (by decide) rfl _ _ 61 rfl Tryz.underlying61 (w.heap.size + 1) _ [((⟨#[62]⟩ : ByteArray) ++ s)] rfl (GRow.below HR1.out ((zut _ _).alloc (zus _) _)) _ ((⟨#[60, 61]⟩ : ByteArray) ++ t) rfl (fun j u hu => by rw [World.cell?_alloc_new]; simpa [baE] using hu) (by simp) (by have := HG1.out.size; simp at this ⊢; omega) ?_; intro v2 W2 hr2 hg2; have HR2 := zuq hr2; have HG2 := zuq hg2; clear hr2 hg2) | fail)
  have HB1 := zuq (HB0.out.trans ((zx HG1.out).mono HB0.out.size))
  have HB2 := zuq (zd8 HB1.out HR1.out HG2.out)
  refine (yi W2 (w.heap.size + 1) v2 [((⟨#[62]⟩ : ByteArray) ++ s), ((⟨#[60, 61]⟩ : ByteArray) ++ t)] ⟨#[32]⟩ HR2.out (by simp) (by simp) (zfu (by rw [ByteArray.size_append]; show 1 + s.size ≤ 70; omega) (by rw [ByteArray.size_append]; show 2 + t.size ≤ 70; omega))).mono ?_
  exact zvr
 ·clear hb
  have HR : Hid (V.qd ⟨lo, 2, hi, 2⟩ = Lib.join [[62] ++ lo, [60] ++ hi] [32]) := zuq (by simp [V.qd, V.lowT, V.zbf])
  have HLS : Hid ((⟨lo.toArray⟩ : ByteArray).data.toList = lo) := zuq rfl
  have HLT : Hid ((⟨hi.toArray⟩ : ByteArray).data.toList = hi) := zuq rfl
  have s1 : (⟨lo.toArray⟩ : ByteArray).size ≤ 64 := by simpa [ByteArray.size] using hll
  have t1 : (⟨hi.toArray⟩ : ByteArray).size ≤ 64 := by simpa [ByteArray.size] using hhl
  clear hll hhl
  generalize (⟨lo.toArray⟩ : ByteArray) = s at *
  generalize (⟨hi.toArray⟩ : ByteArray) = t at *
  have ql2 : ¬ (9223372036854775807 < 1 + s.size) := by omega
  have qh2 : ¬ (9223372036854775807 < 1 + t.size) := by omega
  go_enter Tryz.func108, Tryz.ntmps108
  go_wp2_with (first | (refine zp yj (by decide) yh yg (by decide) rfl _ _ 61 rfl Tryz.underlying61 (w.heap.size + 1) (.slice none 0 0) [] rfl (GRow.nil _ _) (w.heap.size + 1) ((⟨#[62]⟩ : ByteArray) ++ s) rfl (fun j u hu => by simpa [baE, zc] using hu) (by simp) (by simp) ?_; intro v1 W1 hr1 hg1; have HR1 := zuq hr1; have HG1 := zuq hg1; have d2 := za (zx hg1) c2; have d3 := za (zx hg1) c3; clear hr1 hg1 c0 c1 c2 c3) | (refine zp yj (by decide) yh yg (by decide) rfl _ _ 61 rfl Tryz.underlying61 (w.heap.size + 1) _ [((⟨#[62]⟩ : ByteArray) ++ s)] rfl (GRow.below HR1.out ((zut _ _).alloc (zus _) _)) _ ((⟨#[60]⟩ : ByteArray) ++ t) rfl (fun j u hu => by rw [World.cell?_alloc_new]; simpa [baE] using hu) (by simp) (by have := HG1.out.size; simp at this ⊢; omega) ?_; intro v2 W2 hr2 hg2; have HR2 := zuq hr2; have HG2 := zuq hg2; clear hr2 hg2) | fail)
  have HB1 := zuq (HB0.out.trans ((zx HG1.out).mono HB0.out.size))
  have HB2 := zuq (zd8 HB1.out HR1.out HG2.out)
  refine (yi W2 (w.heap.size + 1) v2 [((⟨#[62]⟩ : ByteArray) ++ s), ((⟨#[60]⟩ : ByteArray) ++ t)] ⟨#[32]⟩ HR2.out (by simp) (by simp) (zfu (by rw [ByteArray.size_append]; show 1 + s.size ≤ 70; omega) (by rw [ByteArray.size_append]; show 1 + t.size ≤ 70; omega))).mono ?_
  exact zvr
theorem zrt {W0 wa wq : World} (hba : Below W0.drew.heap.size W0.drew wa) (hbq : Below wa.heap.size wa wq) : Below W0.heap.size W0 wq :=
 ((zut W0.heap.size W0).drew).trans (Below.trans (show Below W0.heap.size W0.drew wa from hba) (hbq.mono hba.size))
def hasF (n : Int) (v : V.Bs) (x : V.Itv) : Bool := (decide (x.lk = 0) || decide (V.cutC n x.low (v, false) ≤ 0)) && (decide (x.hk = 0) || decide (0 ≤ V.cutC n x.high (v, true)))
theorem zpy {α : Type} {p : α -> Bool} {l : List α} {k : Nat} (h : (l.take k).any p = false) (hk : k < l.length) (hb : p l[k] = false) : (l.take (k + 1)).any p = false := by
 rw [List.take_succ_eq_append_getElem hk, List.any_append, h]
 simpa using hb
theorem zss {α : Type} {p : α -> Bool} {l : List α} {k : Nat} (hk : k < l.length) (hb : p l[k] = true) : l.any p = true :=
 List.any_eq_true.2 ⟨l[k], List.getElem_mem hk, hb⟩
theorem zve {P : Prop} (h : P := by
 have HY := zuq (HYES.out (by rw [HXF2.out, HPT.out, HQT.out]; rfl))
 go_wp2
 go_roundw
 case rel => exact ⟨k + 1, by omega, by go_num, HY.out, HB7.out⟩
 case measure => simp [intOf]; omega) : P := h
theorem zvj {P : Prop} (h : P := by
 have HR : Hid (V.kb n l s = true) := zuq (by rw [HF2.out]; exact HNO.out (by rw [HXF2.out, HPT.out, HQT.out]; rfl))
 go_wp2
 go_ret
 exact ⟨zd HR.out.symm, HB3.out.trans (HB7.out.mono HB3.out.size)⟩) : P := h
theorem zje (n : Int) (v : Value) (l : List V.Itv) (s : V.Bs) (w : World) (hm : zg w) (hv : Itvs w v l) (hs : Lens l) (hl : l.length ≤ maxLen) (hsl : s.length ≤ maxLen) :
  Calls Tryz.prog 37 #[setV n v, .string ⟨s.toArray⟩] w fun e w' => e = .returned (.bool (V.kb n l s)) /\ Below w.heap.size w w' := by
 have HV := zuq hv
 obtain ⟨va, vc, rfl⟩ := hv.slice
 have HL := zuq hl
 have HSL := zuq (show (ByteArray.mk s.toArray).size ≤ maxLen by simpa [ByteArray.size] using hsl)
 unfold maxLen at hl
 have HS := zuq hs
 have HF : Hid (V.kb n l s = (V.okR n l && (V.valid n s && l.any (hasF n s)))) := zuq rfl
 have hb0 : Below w.heap.size w (w.alloc (.cells #[.int .i64 n, .slice va l.length vc] 48)) := (zut _ w).alloc (zus _) _
 have HB0 := zuq hb0
 have HM := zuq (hm.below hb0)
 have c0 : (w.alloc (.cells #[.int .i64 n, .slice va l.length vc] 48)).cell? ⟨w.heap.size, 0, none⟩ = some (.int .i64 n) := by simp [zc]
 have c1 : (w.alloc (.cells #[.int .i64 n, .slice va l.length vc] 48)).cell? ⟨w.heap.size, 1, none⟩ = some (.slice va l.length vc) := by simp [zc]
 have hz0 : w.heap.size < (w.alloc (.cells #[.int .i64 n, .slice va l.length vc] 48)).heap.size := by simp
 clear hv hs hb0 hm hsl
 unfold setV
 go_enter Tryz.func37, Tryz.ntmps37
 go_wp2_with fail
 generalize w.alloc (.cells #[.int .i64 n, .slice va l.length vc] 48) = w0 at *
 refine (wv n (.slice va l.length vc) l w0 HM.out (HV.out.below HB0.out) HS.out HL.out).mono ?_
 rintro e w1 ⟨rfl, hb1⟩
 have HB1 := zur HB0 hb1
 have HM1 := zuq (HM.out.below hb1)
 have d0 := za hb1 c0
 have d1 := za hb1 c1
 have hz1 : w.heap.size < w1.heap.size := Nat.lt_of_lt_of_le hz0 hb1.size
 clear hb1 c0 c1 hz0 HM
 rcases hok : V.okR n l with _ | _
 ·have HR : Hid (V.kb n l s = false) := zuq (by rw [HF.out, hok]; rfl)
  clear hok
  go_wp2
  go_ret
  exact ⟨zd HR.out.symm, HB1.out⟩
 ·have HOK := zuq hok
  clear hok
  go_wp2_with fail
  refine (uf n ⟨s.toArray⟩ w1 HM1.out HSL.out).mono ?_
  rintro e w2 ⟨rfl, hb2⟩
  rw [zah]
  have HB2 := zur HB1 hb2
  have HM2 := zuq (HM1.out.below hb2)
  have e0 := za hb2 d0
  have e1 := za hb2 d1
  have hz2 : w.heap.size < w2.heap.size := Nat.lt_of_lt_of_le hz1 hb2.size
  clear hb2 d0 d1 hz1 HM1
  rcases hva : V.valid n s with _ | _
  ·have HR : Hid (V.kb n l s = false) := zuq (by rw [HF.out, HOK.out, hva]; rfl)
   clear hva
   go_wp2
   go_ret
   exact ⟨zd HR.out.symm, HB2.out⟩
  ·have HVA := zuq hva
   have HF2 : Hid (V.kb n l s = l.any (hasF n s)) := zuq (by rw [HF.out, HOK.out, hva]; rfl)
   clear hva
   have HOKS := zuq (V.vl HOK.out)
   obtain ⟨hbA, hcA, _, hzA⟩ := zei w2 #[.string ⟨s.toArray⟩, .bool false] #[.string ⟨s.toArray⟩, .bool true] 118 118
   have p0 : ((w2.alloc (.cells #[.string ⟨s.toArray⟩, .bool false] 118)).alloc (.cells #[.string ⟨s.toArray⟩, .bool true] 118)).cell? ⟨w2.heap.size, 0, none⟩ = some (.string ⟨s.toArray⟩) := by simp [zc]
   have p1 : ((w2.alloc (.cells #[.string ⟨s.toArray⟩, .bool false] 118)).alloc (.cells #[.string ⟨s.toArray⟩, .bool true] 118)).cell? ⟨w2.heap.size, 1, none⟩ = some (.bool false) := by simp [zc]
   have q0 : ((w2.alloc (.cells #[.string ⟨s.toArray⟩, .bool false] 118)).alloc (.cells #[.string ⟨s.toArray⟩, .bool true] 118)).cell? ⟨w2.heap.size + 1, 0, none⟩ = some (.string ⟨s.toArray⟩) := by rw [hcA 0]; rfl
   have q1 : ((w2.alloc (.cells #[.string ⟨s.toArray⟩, .bool false] 118)).alloc (.cells #[.string ⟨s.toArray⟩, .bool true] 118)).cell? ⟨w2.heap.size + 1, 1, none⟩ = some (.bool true) := by rw [hcA 1]; rfl
   have f0 := za hbA e0
   have f1 := za hbA e1
   have HB3 := zur HB2 hbA
   have HM3 := zuq (HM2.out.below hbA)
   have HPQ := zuq (And.intro f0 (And.intro p0 (And.intro p1 (And.intro q0 q1))))
   clear hcA p0 p1 q0 q1 f0 e0 hzA hbA HM2
   go_wp2
   clear f1 e1
   generalize (w2.alloc (.cells #[.string ⟨s.toArray⟩, .bool false] 118)).alloc (.cells #[.string ⟨s.toArray⟩, .bool true] 118) = W at *
   go_loopw [28] (fun iv wx => ∃ k : Nat, k ≤ l.length /\ iv = .int .i64 k /\ (l.take k).any (hasF n s) = false /\ Below W.heap.size W wx) (fun iv _ => l.length - (intOf iv).toNat)
   case atStart => exact ⟨0, Nat.zero_le _, rfl, rfl, zut _ _⟩
   case round =>
    obtain ⟨k, hk, rfl, hz, hbx⟩ := hrel
    have HZ := zuq hz
    have HBX := zuq hbx
    have HBF := zur HB3 hbx
    clear hz hbx
    by_cases hlt : k < l.length
    ·obtain ⟨b, off, rfl, hb0, hx⟩ := HV.out.at k hlt
     obtain ⟨h0, h1, h2, h3⟩ := hx.below hb0 HBF.out
     have hi1 : (0 : Int) ≤ (k : Int) := by omega
     have hi2 : (k : Int) < (l.length : Int) := by omega
     have HBK : Hid (V.zk n l[k] = true) := zuq (HOKS.out.bnd _ (List.getElem_mem hlt))
     have HYES := zuq (fun hb => zpy (p := hasF n s) HZ.out hlt hb)
     have HNO := zuq (fun hb => zss (p := hasF n s) hlt hb)
     clear hx
     generalize l[k] = x at *
     have HXF : Hid (hasF n s x = ((decide (x.lk = 0) || decide (V.cutC n x.low (s, false) ≤ 0)) && (decide (x.hk = 0) || decide (0 ≤ V.cutC n x.high (s, true))))) := zuq rfl
     have hbA : Below wr.heap.size wr (wr.alloc (.cells #[.string ⟨x.lo.toArray⟩, .int .i64 x.lk, .string ⟨x.hi.toArray⟩, .int .i64 x.hk] 120)) := (zut _ wr).alloc (zus _) _
     have HM1 := zuq ((HM3.out.below HBX.out).below hbA)
     have HBA := zur HBX hbA
     have m0 := za HBA.out HPQ.out.1
     have m1 := za HBA.out HPQ.out.2.1
     have m2 := za HBA.out HPQ.out.2.2.1
     have m3 := za HBA.out HPQ.out.2.2.2.1
     have m4 := za HBA.out HPQ.out.2.2.2.2
     have hx4 : zbe (wr.alloc (.cells #[.string ⟨x.lo.toArray⟩, .int .i64 x.lk, .string ⟨x.hi.toArray⟩, .int .i64 x.hk] 120)) wr.heap.size 0 x := by
      exact zyv
     have HX4 := zuq hx4
     clear hbA hx4
     go_wp2_with fail
     generalize wr.alloc (.cells #[.string ⟨x.lo.toArray⟩, .int .i64 x.lk, .string ⟨x.hi.toArray⟩, .int .i64 x.hk] 120) = W1 at *
     obtain ⟨d0, d1, d2, d3⟩ := HX4.out
     rw [Nat.zero_add] at d1 d2 d3
     clear h0 h1 h2 h3
     obtain ⟨P, hP⟩ : ∃ P, P = (decide (x.lk = 0) || decide (V.cutC n x.low (s, false) ≤ 0)) := ⟨_, rfl⟩
     obtain ⟨Q, hQ⟩ : ∃ Q, Q = (decide (x.hk = 0) || decide (0 ≤ V.cutC n x.high (s, true))) := ⟨_, rfl⟩
     have HP := zuq hP
     have HQ := zuq hQ
     have HXF2 : Hid (hasF n s x = (P && Q)) := zuq (by rw [HXF.out, hP, hQ])
     clear hP hQ
     rcases hlk : (x.lk == 0) with _ | _
     ·have i1 : x.lk ≠ 0 := by simpa using hlk
      have hlow := V.xn HBK.out i1
      have HPT0 : Hid (P = decide (V.cutC n x.low (s, false) ≤ 0)) := zuq (by rw [HP.out, decide_eq_false i1]; rfl)
      clear i1
      go_region_held3 (fun W' => zg W' /\ W'.cell? ⟨wr.heap.size, 0, none⟩ = some (.string ⟨x.lo.toArray⟩) /\ W'.cell? ⟨wr.heap.size, 1, none⟩ = some (.int .i64 x.lk) /\ W'.cell? ⟨wr.heap.size, 2, none⟩ = some (.string ⟨x.hi.toArray⟩) /\ W'.cell? ⟨wr.heap.size, 3, none⟩ = some (.int .i64 x.hk) /\
        W'.cell? ⟨w.heap.size, 0, none⟩ = some (.int .i64 n) /\ W'.cell? ⟨w2.heap.size, 0, none⟩ = some (.string ⟨s.toArray⟩) /\ W'.cell? ⟨w2.heap.size, 1, none⟩ = some (.bool false))
       (first
         | (go_split_ands; exact ⟨zg.below (by assumption) hbq, zuw hbq, zuw hbq, zuw hbq, zuw hbq, zuw hbq, zuw hbq, zuw hbq⟩)
         | (exact ⟨HM1.out, d0, d1, d2, d3, m0, m1, m2⟩)
         | go_keep)
       (first
         | (go_at_call 86; refine (zaz x _).mono ?_; rintro e wq ⟨rfl, hbq⟩)
         | (go_at_call 85; refine (ko n x.low (s, false) _ (by first | assumption | exact And.left (by assumption)) HOKS.out.sch hlow HVA.out).mono ?_; rintro e wq ⟨rfl, hbq⟩))
      rename_i wa hba hS
      have HB5 := zuq (zrt hba hbq)
      rw [← HPT0.out]
      clear hba hbq hS HPT0
      generalize wq = W2 at *
      have k0 := za HB5.out d0
      have k1 := za HB5.out d1
      have k2 := za HB5.out d2
      have k3 := za HB5.out d3
      have n0 := za HB5.out m0
      have n3 := za HB5.out m3
      have n4 := za HB5.out m4
      have HM5 := zuq (HM1.out.below HB5.out)
      have HB6 := zuq (HBA.out.trans (HB5.out.mono HBA.out.size))
      clear d0 d1 d2 d3 m0 m1 m2 m3 m4 HB5 HM1
      go_wp2_with fail
      rcases hhk : (x.hk == 0) with _ | _
      ·have i1 : x.hk ≠ 0 := by simpa using hhk
       have hhigh := V.je HBK.out i1
       have HQT0 : Hid (Q = decide (0 ≤ V.cutC n x.high (s, true))) := zuq (by rw [HQ.out, decide_eq_false i1]; rfl)
       clear i1
       go_region_held3 (fun W' => zg W' /\ W'.cell? ⟨wr.heap.size, 0, none⟩ = some (.string ⟨x.lo.toArray⟩) /\ W'.cell? ⟨wr.heap.size, 1, none⟩ = some (.int .i64 x.lk) /\ W'.cell? ⟨wr.heap.size, 2, none⟩ = some (.string ⟨x.hi.toArray⟩) /\ W'.cell? ⟨wr.heap.size, 3, none⟩ = some (.int .i64 x.hk) /\
         W'.cell? ⟨w.heap.size, 0, none⟩ = some (.int .i64 n) /\ W'.cell? ⟨w2.heap.size + 1, 0, none⟩ = some (.string ⟨s.toArray⟩) /\ W'.cell? ⟨w2.heap.size + 1, 1, none⟩ = some (.bool true))
        (first
          | (go_split_ands; exact ⟨zg.below (by assumption) hbq, zuw hbq, zuw hbq, zuw hbq, zuw hbq, zuw hbq, zuw hbq, zuw hbq⟩)
          | (exact ⟨HM5.out, k0, k1, k2, k3, n0, n3, n4⟩)
          | go_keep)
        (first
          | (go_at_call 87; refine (yz x _).mono ?_; rintro e wq ⟨rfl, hbq⟩)
          | (go_at_call 85; refine (ko n x.high (s, true) _ (by first | assumption | exact And.left (by assumption)) HOKS.out.sch hhigh HVA.out).mono ?_; rintro e wq ⟨rfl, hbq⟩))
       rename_i wa hba hS
       have hb7 := zrt hba hbq
       have HB7 := zur HB6 hb7
       rw [← HQT0.out]
       clear hb7 hba hbq hS k0 k1 k2 k3 n0 n3 n4 HQT0
       generalize wq = W3 at *
       rcases hpv : P with _ | _
       ·have HPT := zuq hpv
        clear hpv
        rcases hqv : Q with _ | _
        ·have HQT := zuq hqv
         clear hqv
         exact zve
        ·have HQT := zuq hqv
         clear hqv
         exact zve
       ·have HPT := zuq hpv
        clear hpv
        rcases hqv : Q with _ | _
        ·have HQT := zuq hqv
         clear hqv
         exact zve
        ·have HQT := zuq hqv
         clear hqv
         exact zvj
      ·have HQT : Hid (Q = true) := zuq (by rw [HQ.out, decide_eq_true (eq_of_beq hhk)]; rfl)
       go_quiet (fail)
       have HB7 := zuq (below_drewN HB6.out nq)
       generalize W2.drewN nq = W3 at *
       clear k0 k1 k2 k3 n0 n3 n4
       rcases hpv : P with _ | _
       ·have HPT := zuq hpv
        clear hpv
        exact zve
       ·have HPT := zuq hpv
        clear hpv
        exact zvj
     ·have HPT : Hid (P = true) := zuq (by rw [HP.out, decide_eq_true (eq_of_beq hlk)]; rfl)
      go_quiet (fail)
      have HB5 := zuq (below_drewN (zut W1.heap.size W1) nq)
      generalize W1.drewN nq = W2 at *
      have k0 := za HB5.out d0
      have k1 := za HB5.out d1
      have k2 := za HB5.out d2
      have k3 := za HB5.out d3
      have n0 := za HB5.out m0
      have n3 := za HB5.out m3
      have n4 := za HB5.out m4
      have HM5 := zuq (HM1.out.below HB5.out)
      have HB6 := zuq (HBA.out.trans (HB5.out.mono HBA.out.size))
      clear d0 d1 d2 d3 m0 m1 m2 m3 m4 HB5 HM1
      go_wp2_with fail
      rcases hhk : (x.hk == 0) with _ | _
      ·have i1 : x.hk ≠ 0 := by simpa using hhk
       have hhigh := V.je HBK.out i1
       have HQT0 : Hid (Q = decide (0 ≤ V.cutC n x.high (s, true))) := zuq (by rw [HQ.out, decide_eq_false i1]; rfl)
       clear i1
       go_region_held3 (fun W' => zg W' /\ W'.cell? ⟨wr.heap.size, 0, none⟩ = some (.string ⟨x.lo.toArray⟩) /\ W'.cell? ⟨wr.heap.size, 1, none⟩ = some (.int .i64 x.lk) /\ W'.cell? ⟨wr.heap.size, 2, none⟩ = some (.string ⟨x.hi.toArray⟩) /\ W'.cell? ⟨wr.heap.size, 3, none⟩ = some (.int .i64 x.hk) /\
         W'.cell? ⟨w.heap.size, 0, none⟩ = some (.int .i64 n) /\ W'.cell? ⟨w2.heap.size + 1, 0, none⟩ = some (.string ⟨s.toArray⟩) /\ W'.cell? ⟨w2.heap.size + 1, 1, none⟩ = some (.bool true))
        (first
          | (go_split_ands; exact ⟨zg.below (by assumption) hbq, zuw hbq, zuw hbq, zuw hbq, zuw hbq, zuw hbq, zuw hbq, zuw hbq⟩)
          | (exact ⟨HM5.out, k0, k1, k2, k3, n0, n3, n4⟩)
          | go_keep)
        (first
          | (go_at_call 87; refine (yz x _).mono ?_; rintro e wq ⟨rfl, hbq⟩)
          | (go_at_call 85; refine (ko n x.high (s, true) _ (by first | assumption | exact And.left (by assumption)) HOKS.out.sch hhigh HVA.out).mono ?_; rintro e wq ⟨rfl, hbq⟩))
       rename_i wa hba hS
       have hb7 := zrt hba hbq
       have HB7 := zur HB6 hb7
       rw [← HQT0.out]
       clear hb7 hba hbq hS k0 k1 k2 k3 n0 n3 n4 HQT0
       generalize wq = W3 at *
       rcases hqv : Q with _ | _
       ·have HQT := zuq hqv
        clear hqv
        exact zve
       ·have HQT := zuq hqv
        clear hqv
        exact zvj
      ·have HQT : Hid (Q = true) := zuq (by rw [HQ.out, decide_eq_true (eq_of_beq hhk)]; rfl)
       go_quiet (fail)
       have HB7 := zuq (below_drewN HB6.out nq)
       generalize W2.drewN nq = W3 at *
       clear k0 k1 k2 k3 n0 n3 n4
       exact zvj
    ·obtain rfl : k = l.length := by omega
     have HR : Hid (V.kb n l s = false) := zuq (by have := HZ.out; rw [List.take_length] at this; rw [HF2.out, this])
     go_wp2
     go_ret
     exact ⟨zd HR.out.symm, HBF.out⟩
end Go.Proofs.YtnhfaincdabdkaaGreatDoor
