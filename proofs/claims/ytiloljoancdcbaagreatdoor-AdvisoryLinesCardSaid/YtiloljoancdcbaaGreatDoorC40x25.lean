/-
  Lemmas for the law.
-/
import Derived.Test.YtiloljoancdcbaaGreatDoorC40x20
import Derived.Test.YtiloljoancdcbaaGreatDoorC40x22
import Derived.Test.YtiloljoancdcbaaGreatDoorC40x10
import Derived.Test.YtiloljoancdcbaaGreatDoorC40x15
set_option linter.all false
set_option maxRecDepth 100000
set_option maxHeartbeats 3200000
namespace Go.Proofs.YtiloljoancdcbaaGreatDoor
open Go.RowKit
def baE (s : ByteArray) : List Value := [.string s]
theorem qz (s : ByteArray) : (baE s).length = 1 := rfl
theorem qy (s : ByteArray) : ∀ u ∈ baE s, u.oneCell' = true := by
 intro u hu
 simp [baE] at hu
 subst hu
 rfl
theorem qw : ye 9 1 16 := by
 have h : (match Tryz.prog.info? 9 with | some i => i.size == 1 && (i.bytes == 16 && (match i.zero with | some z => z.cells.size == 1 | none => false)) | none => false) = true := by kernel_rfl
 unfold ye
 cases hq : Tryz.prog.info? 9 with
 | none => rw [hq] at h; cases h
 | some i =>
  exact zwg
def SRow (w : World) (N : Nat) (v : Value) (l : List ByteArray) : Prop := GRow 9 1 baE w N v l
theorem baE_flat (l : List ByteArray) : l.flatMap baE = l.map Value.string := by
 induction l with
 | nil => rfl
 | cons s l ih => rw [List.flatMap_cons, ih]; rfl
theorem SRow.head {w : World} {N : Nat} {v : Value} {l : List ByteArray} (h : SRow w N v l) (h0 : l ≠ []) : ∃ g cap, v = .slice (some ⟨g, 0, none⟩) l.length cap /\ l.length ≤ cap /\ g < w.heap.size /\ ∀ (j : Nat) (x : ByteArray), l[j]? = some x -> w.cell? ⟨g, 0 + j, none⟩ = some (.string x) := by
 obtain ⟨g0, cap0, rfl⟩ : ∃ a c, v = .slice a l.length c := GRow.slice h
 rcases h.2 with ⟨e, hn⟩ | ⟨g, cap, cur, e, hb, hg, hnc, hm, hsz, htk⟩
 ·exact absurd (List.length_eq_zero_iff.1 hn) h0
 ·cases e
  refine ⟨g, _, rfl, hnc, (Array.getElem?_eq_some_iff.1 hg).1, fun j x hx => ?_⟩
  have hj := (List.getElem?_eq_some_iff.1 hx).1
  rw [Nat.zero_add, zcl hg]
  have h2 : (cur.toList.take (l.length * 1))[j]? = some (.string x) := by
   rw [htk, baE_flat, List.getElem?_map, hx]
   rfl
  rw [List.getElem?_take] at h2
  split at h2
  ·simpa using h2
  ·cases h2
theorem jb (w : World) (N : Nat) (v : Value) (l : List ByteArray) (sep : ByteArray) (h : SRow w N v l) (h0 : l ≠ []) (hl : l.length ≤ 1000000) (hlen : (Lib.join (l.map (·.data.toList)) sep.data.toList).length ≤ 1000000000) :
  Calls Tryz.prog 53 #[v, .string sep] w fun e w' => e = .returned (.string ⟨(Lib.join (l.map (·.data.toList)) sep.data.toList).toArray⟩) /\ Below w.heap.size w w' := by
 obtain ⟨g, cap, rfl, hc, hg, hcell⟩ := h.head h0
 exact Tryz.strings_Join g 0 cap l sep w hcell hg (by omega) hc (by omega)
theorem str_len (s : ByteArray) : s.data.toList.length = s.size := rfl
theorem vi {n : Int} {v : V.Bs} {k : Int} (h : V.jx n v k = true) : (k = 0 ∨ k = 1 ∨ k = 2) /\ v.length ≤ 64 := by
 by_cases hk : k = 0
 ·exact ⟨.inl hk, by rw [V.zcp h hk]; simp⟩
 ·exact ⟨.inr (V.xe h hk).1, (V.valid_len (V.xe h hk).2).2⟩
theorem ya {a b : List UInt8} (h : a = b) : Ending.returned (.string ⟨a.toArray⟩) = .returned (.string ⟨b.toArray⟩) := by rw [h]
theorem zak {A : ByteArray} (h : A.size ≤ 70) : (Lib.join ([A].map (·.data.toList)) (ByteArray.mk #[32]).data.toList).length ≤ 1000000000 := by
 rw [List.map_cons, List.map_nil, Lib.join_one, str_len]
 omega
theorem zam {A B : ByteArray} (h : A.size ≤ 70) (h2 : B.size ≤ 70) : (Lib.join ([A, B].map (·.data.toList)) (ByteArray.mk #[32]).data.toList).length ≤ 1000000000 := by
 rw [List.map_cons, List.map_cons, List.map_nil, Lib.join_length]
 show 1 * 1 + (A.size + (B.size + 0)) ≤ 1000000000
 omega
theorem ret_ba {s : ByteArray} {b : List UInt8} (h : s.data.toList = b) : Ending.returned (.string s) = .returned (.string ⟨b.toArray⟩) := by
 subst h
 rfl
theorem zl {W W1 : World} {o : Obj} {c : Nat} (h : (W.alloc o).grownBy W1 (Value.slice none 0 c).ownBlock) : Below W.heap.size W W1 :=
 ((zvt _ _).alloc (zvs _) _).trans ⟨h.os, h.tape, h.output, h.size, fun k hk => h.block k (by simp; omega) (fun e => by cases e)⟩
theorem uz {w W1 W2 : World} {v : Value} {l : List ByteArray} {o : Obj} (h1 : Below w.heap.size w W1) (hr : SRow W1 (w.heap.size + 1) v l) (h2 : (W1.alloc o).grownBy W2 v.ownBlock) : Below w.heap.size w W2 :=
 (h1.alloc h1.size o).trans ⟨h2.os, h2.tape, h2.output, h2.size, fun k hk => h2.block k (by have := h1.size; simp; omega) (fun e => by have := GRow.block hr k e.symm; omega)⟩
theorem zwc {P : Prop} (h : P := by
 go_wp2_with (first | (refine zm qz (by decide) qy qw (by decide) rfl _ _ 47 rfl Tryz.underlying47 (w.heap.size + 1) (.slice none 0 0) [] rfl (GRow.nil _ _) (w.heap.size + 1) ((⟨#[62, 61]⟩ : ByteArray) ++ s) rfl (fun j u hu => by simpa [baE, ze] using hu) (by simp) (by simp) ?_; intro v1 W1 hr1 hg1; have HR1 := zvq hr1; have HG1 := zvq hg1; have d2 := za (zl hg1) c2; have d3 := za (zl hg1) c3; clear hr1 hg1 c0 c1 c2 c3) | (refine zm qz (by decide) qy qw (by decide) rfl _ _ 47 rfl Tryz.underlying47 (w.heap.size + 1) _ [((⟨#[62, 61]⟩ : ByteArray) ++ s)] rfl (GRow.below HR1.out ((zvt _ _).alloc (zvs _) _)) _ ((⟨#[60, 61]⟩ : ByteArray) ++ t) rfl (fun j u hu => by rw [World.cell?_alloc_new]; simpa [baE] using hu) (by simp) (by have := HG1.out.size; simp at this ⊢; omega) ?_; intro v2 W2 hr2 hg2; have HR2 := zvq hr2; have HG2 := zvq hg2; clear hr2 hg2) | fail)
 have HB1 := zvq (HB0.out.trans ((zl HG1.out).mono HB0.out.size))
 have HB2 := zvq (uz HB1.out HR1.out HG2.out)
 refine (jb W2 (w.heap.size + 1) v2 [((⟨#[62, 61]⟩ : ByteArray) ++ s), ((⟨#[60, 61]⟩ : ByteArray) ++ t)] ⟨#[32]⟩ HR2.out (by simp) (by simp) (zam (by rw [ByteArray.size_append]; show 2 + s.size ≤ 70; omega) (by rw [ByteArray.size_append]; show 2 + t.size ≤ 70; omega))).mono ?_
 rintro e w3 ⟨rfl, hb3⟩
 have HB3 := zvr HB2 hb3
 clear hb3
 go_wp2
 go_ret
 exact ⟨ya (by rw [HR.out, ← HLS.out, ← HLT.out]; simp), HB3.out⟩) : P := h
theorem zwd {P : Prop} (h : P := by
 go_wp2_with (first | (refine zm qz (by decide) qy qw (by decide) rfl _ _ 47 rfl Tryz.underlying47 (w.heap.size + 1) (.slice none 0 0) [] rfl (GRow.nil _ _) (w.heap.size + 1) ((⟨#[62, 61]⟩ : ByteArray) ++ s) rfl (fun j u hu => by simpa [baE, ze] using hu) (by simp) (by simp) ?_; intro v1 W1 hr1 hg1; have HR1 := zvq hr1; have HG1 := zvq hg1; have d2 := za (zl hg1) c2; have d3 := za (zl hg1) c3; clear hr1 hg1 c0 c1 c2 c3) | (refine zm qz (by decide) qy qw (by decide) rfl _ _ 47 rfl Tryz.underlying47 (w.heap.size + 1) _ [((⟨#[62, 61]⟩ : ByteArray) ++ s)] rfl (GRow.below HR1.out ((zvt _ _).alloc (zvs _) _)) _ ((⟨#[60]⟩ : ByteArray) ++ t) rfl (fun j u hu => by rw [World.cell?_alloc_new]; simpa [baE] using hu) (by simp) (by have := HG1.out.size; simp at this ⊢; omega) ?_; intro v2 W2 hr2 hg2; have HR2 := zvq hr2; have HG2 := zvq hg2; clear hr2 hg2) | fail)
 have HB1 := zvq (HB0.out.trans ((zl HG1.out).mono HB0.out.size))
 have HB2 := zvq (uz HB1.out HR1.out HG2.out)
 refine (jb W2 (w.heap.size + 1) v2 [((⟨#[62, 61]⟩ : ByteArray) ++ s), ((⟨#[60]⟩ : ByteArray) ++ t)] ⟨#[32]⟩ HR2.out (by simp) (by simp) (zam (by rw [ByteArray.size_append]; show 2 + s.size ≤ 70; omega) (by rw [ByteArray.size_append]; show 1 + t.size ≤ 70; omega))).mono ?_
 rintro e w3 ⟨rfl, hb3⟩
 have HB3 := zvr HB2 hb3
 clear hb3
 go_wp2
 go_ret
 exact ⟨ya (by rw [HR.out, ← HLS.out, ← HLT.out]; simp), HB3.out⟩) : P := h
theorem zwe {P : Prop} (h : P := by
 go_wp2_with (first | (refine zm qz (by decide) qy qw (by decide) rfl _ _ 47 rfl Tryz.underlying47 (w.heap.size + 1) (.slice none 0 0) [] rfl (GRow.nil _ _) (w.heap.size + 1) ((⟨#[62]⟩ : ByteArray) ++ s) rfl (fun j u hu => by simpa [baE, ze] using hu) (by simp) (by simp) ?_; intro v1 W1 hr1 hg1; have HR1 := zvq hr1; have HG1 := zvq hg1; have d2 := za (zl hg1) c2; have d3 := za (zl hg1) c3; clear hr1 hg1 c0 c1 c2 c3) | (refine zm qz (by decide) qy qw (by decide) rfl _ _ 47 rfl Tryz.underlying47 (w.heap.size + 1) _ [((⟨#[62]⟩ : ByteArray) ++ s)] rfl (GRow.below HR1.out ((zvt _ _).alloc (zvs _) _)) _ ((⟨#[60, 61]⟩ : ByteArray) ++ t) rfl (fun j u hu => by rw [World.cell?_alloc_new]; simpa [baE] using hu) (by simp) (by have := HG1.out.size; simp at this ⊢; omega) ?_; intro v2 W2 hr2 hg2; have HR2 := zvq hr2; have HG2 := zvq hg2; clear hr2 hg2) | fail)
 have HB1 := zvq (HB0.out.trans ((zl HG1.out).mono HB0.out.size))
 have HB2 := zvq (uz HB1.out HR1.out HG2.out)
 refine (jb W2 (w.heap.size + 1) v2 [((⟨#[62]⟩ : ByteArray) ++ s), ((⟨#[60, 61]⟩ : ByteArray) ++ t)] ⟨#[32]⟩ HR2.out (by simp) (by simp) (zam (by rw [ByteArray.size_append]; show 1 + s.size ≤ 70; omega) (by rw [ByteArray.size_append]; show 2 + t.size ≤ 70; omega))).mono ?_
 rintro e w3 ⟨rfl, hb3⟩
 have HB3 := zvr HB2 hb3
 clear hb3
 go_wp2
 go_ret
 exact ⟨ya (by rw [HR.out, ← HLS.out, ← HLT.out]; simp), HB3.out⟩) : P := h
theorem zwf {P : Prop} (h : P := by
 go_wp2_with (first | (refine zm qz (by decide) qy qw (by decide) rfl _ _ 47 rfl Tryz.underlying47 (w.heap.size + 1) (.slice none 0 0) [] rfl (GRow.nil _ _) (w.heap.size + 1) ((⟨#[62]⟩ : ByteArray) ++ s) rfl (fun j u hu => by simpa [baE, ze] using hu) (by simp) (by simp) ?_; intro v1 W1 hr1 hg1; have HR1 := zvq hr1; have HG1 := zvq hg1; have d2 := za (zl hg1) c2; have d3 := za (zl hg1) c3; clear hr1 hg1 c0 c1 c2 c3) | (refine zm qz (by decide) qy qw (by decide) rfl _ _ 47 rfl Tryz.underlying47 (w.heap.size + 1) _ [((⟨#[62]⟩ : ByteArray) ++ s)] rfl (GRow.below HR1.out ((zvt _ _).alloc (zvs _) _)) _ ((⟨#[60]⟩ : ByteArray) ++ t) rfl (fun j u hu => by rw [World.cell?_alloc_new]; simpa [baE] using hu) (by simp) (by have := HG1.out.size; simp at this ⊢; omega) ?_; intro v2 W2 hr2 hg2; have HR2 := zvq hr2; have HG2 := zvq hg2; clear hr2 hg2) | fail)
 have HB1 := zvq (HB0.out.trans ((zl HG1.out).mono HB0.out.size))
 have HB2 := zvq (uz HB1.out HR1.out HG2.out)
 refine (jb W2 (w.heap.size + 1) v2 [((⟨#[62]⟩ : ByteArray) ++ s), ((⟨#[60]⟩ : ByteArray) ++ t)] ⟨#[32]⟩ HR2.out (by simp) (by simp) (zam (by rw [ByteArray.size_append]; show 1 + s.size ≤ 70; omega) (by rw [ByteArray.size_append]; show 1 + t.size ≤ 70; omega))).mono ?_
 rintro e w3 ⟨rfl, hb3⟩
 have HB3 := zvr HB2 hb3
 clear hb3
 go_wp2
 go_ret
 exact ⟨ya (by rw [HR.out, ← HLS.out, ← HLT.out]; simp), HB3.out⟩) : P := h
theorem zwx {P : Prop} (h : P := by
 go_wp2_with (first | (refine zm qz (by decide) qy qw (by decide) rfl _ _ 47 rfl Tryz.underlying47 (w.heap.size + 1) (.slice none 0 0) [] rfl (GRow.nil _ _) (w.heap.size + 1) ((⟨#[62, 61]⟩ : ByteArray) ++ s) rfl (fun j u hu => by simpa [baE, ze] using hu) (by simp) (by simp) ?_; intro v1 W1 hr1 hg1; have d2 := za (zl hg1) c2; have d3 := za (zl hg1) c3; clear c0 c1 c2 c3) | fail)
 have HR1 : Hid (SRow W1 (w.heap.size + 1) v1 [((⟨#[62, 61]⟩ : ByteArray) ++ s)]) := zvq hr1
 have HB1 := zvq (HB0.out.trans ((zl hg1).mono HB0.out.size))
 clear hr1 hg1
 refine (jb W1 (w.heap.size + 1) v1 [((⟨#[62, 61]⟩ : ByteArray) ++ s)] ⟨#[32]⟩ HR1.out (by simp) (by simp) (zak (by rw [ByteArray.size_append]; show 2 + s.size ≤ 70; omega))).mono ?_
 rintro e w2 ⟨rfl, hb2⟩
 have HB2 := zvr HB1 hb2
 clear hb2
 go_wp2
 go_ret
 exact ⟨ya (by rw [HR.out, ← HLS.out]; simp), HB2.out⟩) : P := h
theorem zwy {P : Prop} (h : P := by
 go_wp2_with (first | (refine zm qz (by decide) qy qw (by decide) rfl _ _ 47 rfl Tryz.underlying47 (w.heap.size + 1) (.slice none 0 0) [] rfl (GRow.nil _ _) (w.heap.size + 1) ((⟨#[60, 61]⟩ : ByteArray) ++ t) rfl (fun j u hu => by simpa [baE, ze] using hu) (by simp) (by simp) ?_; intro v1 W1 hr1 hg1; have d2 := za (zl hg1) c2; have d3 := za (zl hg1) c3; clear c0 c1 c2 c3) | fail)
 have HR1 : Hid (SRow W1 (w.heap.size + 1) v1 [((⟨#[60, 61]⟩ : ByteArray) ++ t)]) := zvq hr1
 have HB1 := zvq (HB0.out.trans ((zl hg1).mono HB0.out.size))
 clear hr1 hg1
 refine (jb W1 (w.heap.size + 1) v1 [((⟨#[60, 61]⟩ : ByteArray) ++ t)] ⟨#[32]⟩ HR1.out (by simp) (by simp) (zak (by rw [ByteArray.size_append]; show 2 + t.size ≤ 70; omega))).mono ?_
 rintro e w2 ⟨rfl, hb2⟩
 have HB2 := zvr HB1 hb2
 clear hb2
 go_wp2
 go_ret
 exact ⟨ya (by rw [HR.out, ← HLT.out]; simp), HB2.out⟩) : P := h
theorem zw0 {P : Prop} (h : P := by
 go_wp2_with (first | (refine zm qz (by decide) qy qw (by decide) rfl _ _ 47 rfl Tryz.underlying47 (w.heap.size + 1) (.slice none 0 0) [] rfl (GRow.nil _ _) (w.heap.size + 1) ((⟨#[62]⟩ : ByteArray) ++ s) rfl (fun j u hu => by simpa [baE, ze] using hu) (by simp) (by simp) ?_; intro v1 W1 hr1 hg1; have d2 := za (zl hg1) c2; have d3 := za (zl hg1) c3; clear c0 c1 c2 c3) | fail)
 have HR1 : Hid (SRow W1 (w.heap.size + 1) v1 [((⟨#[62]⟩ : ByteArray) ++ s)]) := zvq hr1
 have HB1 := zvq (HB0.out.trans ((zl hg1).mono HB0.out.size))
 clear hr1 hg1
 refine (jb W1 (w.heap.size + 1) v1 [((⟨#[62]⟩ : ByteArray) ++ s)] ⟨#[32]⟩ HR1.out (by simp) (by simp) (zak (by rw [ByteArray.size_append]; show 1 + s.size ≤ 70; omega))).mono ?_
 rintro e w2 ⟨rfl, hb2⟩
 have HB2 := zvr HB1 hb2
 clear hb2
 go_wp2
 go_ret
 exact ⟨ya (by rw [HR.out, ← HLS.out]; simp), HB2.out⟩) : P := h
theorem zw1 {P : Prop} (h : P := by
 go_wp2_with (first | (refine zm qz (by decide) qy qw (by decide) rfl _ _ 47 rfl Tryz.underlying47 (w.heap.size + 1) (.slice none 0 0) [] rfl (GRow.nil _ _) (w.heap.size + 1) ((⟨#[60]⟩ : ByteArray) ++ t) rfl (fun j u hu => by simpa [baE, ze] using hu) (by simp) (by simp) ?_; intro v1 W1 hr1 hg1; have d2 := za (zl hg1) c2; have d3 := za (zl hg1) c3; clear c0 c1 c2 c3) | fail)
 have HR1 : Hid (SRow W1 (w.heap.size + 1) v1 [((⟨#[60]⟩ : ByteArray) ++ t)]) := zvq hr1
 have HB1 := zvq (HB0.out.trans ((zl hg1).mono HB0.out.size))
 clear hr1 hg1
 refine (jb W1 (w.heap.size + 1) v1 [((⟨#[60]⟩ : ByteArray) ++ t)] ⟨#[32]⟩ HR1.out (by simp) (by simp) (zak (by rw [ByteArray.size_append]; show 1 + t.size ≤ 70; omega))).mono ?_
 rintro e w2 ⟨rfl, hb2⟩
 have HB2 := zvr HB1 hb2
 clear hb2
 go_wp2
 go_ret
 exact ⟨ya (by rw [HR.out, ← HLT.out]; simp), HB2.out⟩) : P := h
theorem zsc (n : Int) (x : V.Itv) (w : World) (hb : V.zj n x = true) : Calls Tryz.prog 52 #[itvV x] w fun e w' => e = .returned (.string ⟨(V.zv x).toArray⟩) /\ Below w.heap.size w w' := by
 obtain ⟨lo, lk, hi, hk⟩ := x
 unfold V.zj at hb
 rw [Bool.and_eq_true] at hb
 obtain ⟨hlk, hll⟩ := vi hb.1
 obtain ⟨hhk, hhl⟩ := vi hb.2
 simp only at hlk hll hhk hhl
 unfold itvV
 simp only
 have HB0 := zvq ((zvt w.heap.size w).alloc (zvs _) (.cells #[.string ⟨lo.toArray⟩, .int .i64 lk, .string ⟨hi.toArray⟩, .int .i64 hk] 87))
 have c0 : (w.alloc (.cells #[.string ⟨lo.toArray⟩, .int .i64 lk, .string ⟨hi.toArray⟩, .int .i64 hk] 87)).cell? ⟨w.heap.size, 0, none⟩ = some (.string ⟨lo.toArray⟩) := by simp [ze]
 have c1 : (w.alloc (.cells #[.string ⟨lo.toArray⟩, .int .i64 lk, .string ⟨hi.toArray⟩, .int .i64 hk] 87)).cell? ⟨w.heap.size, 1, none⟩ = some (.int .i64 lk) := by simp [ze]
 have c2 : (w.alloc (.cells #[.string ⟨lo.toArray⟩, .int .i64 lk, .string ⟨hi.toArray⟩, .int .i64 hk] 87)).cell? ⟨w.heap.size, 2, none⟩ = some (.string ⟨hi.toArray⟩) := by simp [ze]
 have c3 : (w.alloc (.cells #[.string ⟨lo.toArray⟩, .int .i64 lk, .string ⟨hi.toArray⟩, .int .i64 hk] 87)).cell? ⟨w.heap.size, 3, none⟩ = some (.int .i64 hk) := by simp [ze]
 rcases hlk with rfl | rfl | rfl <;> rcases hhk with rfl | rfl | rfl
 ·clear hb
  have HR : Hid (V.zv ⟨lo, 0, hi, 0⟩ = [42]) := zvq (by simp [V.zv])
  generalize (⟨lo.toArray⟩ : ByteArray) = s at *
  generalize (⟨hi.toArray⟩ : ByteArray) = t at *
  go_enter Tryz.func52, Tryz.ntmps52
  go_wp2
  go_ret
  exact ⟨ya HR.out.symm, HB0.out⟩
 ·clear hb
  have HR : Hid (V.zv ⟨lo, 0, hi, 1⟩ = Lib.join [[60, 61] ++ hi] [32]) := zvq (by simp [V.zv, V.lowT, V.ub])
  have HLS : Hid ((⟨lo.toArray⟩ : ByteArray).data.toList = lo) := zvq rfl
  have HLT : Hid ((⟨hi.toArray⟩ : ByteArray).data.toList = hi) := zvq rfl
  have s1 : (⟨lo.toArray⟩ : ByteArray).size ≤ 64 := by simpa [ByteArray.size] using hll
  have t1 : (⟨hi.toArray⟩ : ByteArray).size ≤ 64 := by simpa [ByteArray.size] using hhl
  clear hll hhl
  generalize (⟨lo.toArray⟩ : ByteArray) = s at *
  generalize (⟨hi.toArray⟩ : ByteArray) = t at *
  have qh1 : ¬ (9223372036854775807 < 2 + t.size) := by omega
  go_enter Tryz.func52, Tryz.ntmps52
  exact zwy
 ·clear hb
  have HR : Hid (V.zv ⟨lo, 0, hi, 2⟩ = Lib.join [[60] ++ hi] [32]) := zvq (by simp [V.zv, V.lowT, V.ub])
  have HLS : Hid ((⟨lo.toArray⟩ : ByteArray).data.toList = lo) := zvq rfl
  have HLT : Hid ((⟨hi.toArray⟩ : ByteArray).data.toList = hi) := zvq rfl
  have s1 : (⟨lo.toArray⟩ : ByteArray).size ≤ 64 := by simpa [ByteArray.size] using hll
  have t1 : (⟨hi.toArray⟩ : ByteArray).size ≤ 64 := by simpa [ByteArray.size] using hhl
  clear hll hhl
  generalize (⟨lo.toArray⟩ : ByteArray) = s at *
  generalize (⟨hi.toArray⟩ : ByteArray) = t at *
  have qh2 : ¬ (9223372036854775807 < 1 + t.size) := by omega
  go_enter Tryz.func52, Tryz.ntmps52
  exact zw1
 ·clear hb
  have HR : Hid (V.zv ⟨lo, 1, hi, 0⟩ = Lib.join [[62, 61] ++ lo] [32]) := zvq (by simp [V.zv, V.lowT, V.ub])
  have HLS : Hid ((⟨lo.toArray⟩ : ByteArray).data.toList = lo) := zvq rfl
  have HLT : Hid ((⟨hi.toArray⟩ : ByteArray).data.toList = hi) := zvq rfl
  have s1 : (⟨lo.toArray⟩ : ByteArray).size ≤ 64 := by simpa [ByteArray.size] using hll
  have t1 : (⟨hi.toArray⟩ : ByteArray).size ≤ 64 := by simpa [ByteArray.size] using hhl
  clear hll hhl
  generalize (⟨lo.toArray⟩ : ByteArray) = s at *
  generalize (⟨hi.toArray⟩ : ByteArray) = t at *
  have ql1 : ¬ (9223372036854775807 < 2 + s.size) := by omega
  go_enter Tryz.func52, Tryz.ntmps52
  exact zwx
 ·by_cases heq : lo = hi
  ·clear hb
   subst heq
   have HR : Hid (V.zv ⟨lo, 1, lo, 1⟩ = [61] ++ lo) := zvq (by simp [V.zv])
   have HL : Hid ((⟨lo.toArray⟩ : ByteArray).data.toList = lo) := zvq rfl
   have s1 : (⟨lo.toArray⟩ : ByteArray).size ≤ 64 := by simpa [ByteArray.size] using hll
   clear hll hhl
   generalize (⟨lo.toArray⟩ : ByteArray) = s at *
   have s2 : ¬ (9223372036854775807 < 1 + s.size) := by omega
   go_enter Tryz.func52, Tryz.ntmps52
   go_wp2
   go_ret
   exact ⟨ret_ba (by rw [HR.out, ← HL.out]; simp), HB0.out⟩
  ·clear hb
   have HR : Hid (V.zv ⟨lo, 1, hi, 1⟩ = Lib.join [[62, 61] ++ lo, [60, 61] ++ hi] [32]) := zvq (by simp [V.zv, V.lowT, V.ub, heq])
   have HLS : Hid ((⟨lo.toArray⟩ : ByteArray).data.toList = lo) := zvq rfl
   have HLT : Hid ((⟨hi.toArray⟩ : ByteArray).data.toList = hi) := zvq rfl
   have s1 : (⟨lo.toArray⟩ : ByteArray).size ≤ 64 := by simpa [ByteArray.size] using hll
   have t1 : (⟨hi.toArray⟩ : ByteArray).size ≤ 64 := by simpa [ByteArray.size] using hhl
   have hne : ¬ lo = hi := heq
   clear heq
   clear hll hhl
   have hq : ((⟨lo.toArray⟩ : ByteArray).toList == (⟨hi.toArray⟩ : ByteArray).toList) = false := zvu.2 fun e => hne (by rw [ByteArray.toList_eq, ByteArray.toList_eq, HLS.out, HLT.out] at e; exact e)
   clear hne
   generalize (⟨lo.toArray⟩ : ByteArray) = s at *
   generalize (⟨hi.toArray⟩ : ByteArray) = t at *
   have ql1 : ¬ (9223372036854775807 < 2 + s.size) := by omega
   have qh1 : ¬ (9223372036854775807 < 2 + t.size) := by omega
   go_enter Tryz.func52, Tryz.ntmps52
   exact zwc
 ·clear hb
  have HR : Hid (V.zv ⟨lo, 1, hi, 2⟩ = Lib.join [[62, 61] ++ lo, [60] ++ hi] [32]) := zvq (by simp [V.zv, V.lowT, V.ub])
  have HLS : Hid ((⟨lo.toArray⟩ : ByteArray).data.toList = lo) := zvq rfl
  have HLT : Hid ((⟨hi.toArray⟩ : ByteArray).data.toList = hi) := zvq rfl
  have s1 : (⟨lo.toArray⟩ : ByteArray).size ≤ 64 := by simpa [ByteArray.size] using hll
  have t1 : (⟨hi.toArray⟩ : ByteArray).size ≤ 64 := by simpa [ByteArray.size] using hhl
  clear hll hhl
  generalize (⟨lo.toArray⟩ : ByteArray) = s at *
  generalize (⟨hi.toArray⟩ : ByteArray) = t at *
  have ql1 : ¬ (9223372036854775807 < 2 + s.size) := by omega
  have qh2 : ¬ (9223372036854775807 < 1 + t.size) := by omega
  go_enter Tryz.func52, Tryz.ntmps52
  exact zwd
 ·clear hb
  have HR : Hid (V.zv ⟨lo, 2, hi, 0⟩ = Lib.join [[62] ++ lo] [32]) := zvq (by simp [V.zv, V.lowT, V.ub])
  have HLS : Hid ((⟨lo.toArray⟩ : ByteArray).data.toList = lo) := zvq rfl
  have HLT : Hid ((⟨hi.toArray⟩ : ByteArray).data.toList = hi) := zvq rfl
  have s1 : (⟨lo.toArray⟩ : ByteArray).size ≤ 64 := by simpa [ByteArray.size] using hll
  have t1 : (⟨hi.toArray⟩ : ByteArray).size ≤ 64 := by simpa [ByteArray.size] using hhl
  clear hll hhl
  generalize (⟨lo.toArray⟩ : ByteArray) = s at *
  generalize (⟨hi.toArray⟩ : ByteArray) = t at *
  have ql2 : ¬ (9223372036854775807 < 1 + s.size) := by omega
  go_enter Tryz.func52, Tryz.ntmps52
  exact zw0
 ·clear hb
  have HR : Hid (V.zv ⟨lo, 2, hi, 1⟩ = Lib.join [[62] ++ lo, [60, 61] ++ hi] [32]) := zvq (by simp [V.zv, V.lowT, V.ub])
  have HLS : Hid ((⟨lo.toArray⟩ : ByteArray).data.toList = lo) := zvq rfl
  have HLT : Hid ((⟨hi.toArray⟩ : ByteArray).data.toList = hi) := zvq rfl
  have s1 : (⟨lo.toArray⟩ : ByteArray).size ≤ 64 := by simpa [ByteArray.size] using hll
  have t1 : (⟨hi.toArray⟩ : ByteArray).size ≤ 64 := by simpa [ByteArray.size] using hhl
  clear hll hhl
  generalize (⟨lo.toArray⟩ : ByteArray) = s at *
  generalize (⟨hi.toArray⟩ : ByteArray) = t at *
  have ql2 : ¬ (9223372036854775807 < 1 + s.size) := by omega
  have qh1 : ¬ (9223372036854775807 < 2 + t.size) := by omega
  go_enter Tryz.func52, Tryz.ntmps52
  exact zwe
 ·clear hb
  have HR : Hid (V.zv ⟨lo, 2, hi, 2⟩ = Lib.join [[62] ++ lo, [60] ++ hi] [32]) := zvq (by simp [V.zv, V.lowT, V.ub])
  have HLS : Hid ((⟨lo.toArray⟩ : ByteArray).data.toList = lo) := zvq rfl
  have HLT : Hid ((⟨hi.toArray⟩ : ByteArray).data.toList = hi) := zvq rfl
  have s1 : (⟨lo.toArray⟩ : ByteArray).size ≤ 64 := by simpa [ByteArray.size] using hll
  have t1 : (⟨hi.toArray⟩ : ByteArray).size ≤ 64 := by simpa [ByteArray.size] using hhl
  clear hll hhl
  generalize (⟨lo.toArray⟩ : ByteArray) = s at *
  generalize (⟨hi.toArray⟩ : ByteArray) = t at *
  have ql2 : ¬ (9223372036854775807 < 1 + s.size) := by omega
  have qh2 : ¬ (9223372036854775807 < 1 + t.size) := by omega
  go_enter Tryz.func52, Tryz.ntmps52
  exact zwf
theorem zsw (n : Int) (x : V.Itv) (w : World) (hb : V.zj n x = true) : Calls Tryz.prog 58 #[itvV x] w fun e w' => e = .returned (.string ⟨(V.zv x).toArray⟩) /\ Below w.heap.size w w' := by
 obtain ⟨lo, lk, hi, hk⟩ := x
 unfold V.zj at hb
 rw [Bool.and_eq_true] at hb
 obtain ⟨hlk, hll⟩ := vi hb.1
 obtain ⟨hhk, hhl⟩ := vi hb.2
 simp only at hlk hll hhk hhl
 unfold itvV
 simp only
 have HB0 := zvq ((zvt w.heap.size w).alloc (zvs _) (.cells #[.string ⟨lo.toArray⟩, .int .i64 lk, .string ⟨hi.toArray⟩, .int .i64 hk] 87))
 have c0 : (w.alloc (.cells #[.string ⟨lo.toArray⟩, .int .i64 lk, .string ⟨hi.toArray⟩, .int .i64 hk] 87)).cell? ⟨w.heap.size, 0, none⟩ = some (.string ⟨lo.toArray⟩) := by simp [ze]
 have c1 : (w.alloc (.cells #[.string ⟨lo.toArray⟩, .int .i64 lk, .string ⟨hi.toArray⟩, .int .i64 hk] 87)).cell? ⟨w.heap.size, 1, none⟩ = some (.int .i64 lk) := by simp [ze]
 have c2 : (w.alloc (.cells #[.string ⟨lo.toArray⟩, .int .i64 lk, .string ⟨hi.toArray⟩, .int .i64 hk] 87)).cell? ⟨w.heap.size, 2, none⟩ = some (.string ⟨hi.toArray⟩) := by simp [ze]
 have c3 : (w.alloc (.cells #[.string ⟨lo.toArray⟩, .int .i64 lk, .string ⟨hi.toArray⟩, .int .i64 hk] 87)).cell? ⟨w.heap.size, 3, none⟩ = some (.int .i64 hk) := by simp [ze]
 rcases hlk with rfl | rfl | rfl <;> rcases hhk with rfl | rfl | rfl
 ·clear hb
  have HR : Hid (V.zv ⟨lo, 0, hi, 0⟩ = [42]) := zvq (by simp [V.zv])
  generalize (⟨lo.toArray⟩ : ByteArray) = s at *
  generalize (⟨hi.toArray⟩ : ByteArray) = t at *
  go_enter Tryz.func58, Tryz.ntmps58
  go_wp2
  go_ret
  exact ⟨ya HR.out.symm, HB0.out⟩
 ·clear hb
  have HR : Hid (V.zv ⟨lo, 0, hi, 1⟩ = Lib.join [[60, 61] ++ hi] [32]) := zvq (by simp [V.zv, V.lowT, V.ub])
  have HLS : Hid ((⟨lo.toArray⟩ : ByteArray).data.toList = lo) := zvq rfl
  have HLT : Hid ((⟨hi.toArray⟩ : ByteArray).data.toList = hi) := zvq rfl
  have s1 : (⟨lo.toArray⟩ : ByteArray).size ≤ 64 := by simpa [ByteArray.size] using hll
  have t1 : (⟨hi.toArray⟩ : ByteArray).size ≤ 64 := by simpa [ByteArray.size] using hhl
  clear hll hhl
  generalize (⟨lo.toArray⟩ : ByteArray) = s at *
  generalize (⟨hi.toArray⟩ : ByteArray) = t at *
  have qh1 : ¬ (9223372036854775807 < 2 + t.size) := by omega
  go_enter Tryz.func58, Tryz.ntmps58
  exact zwy
 ·clear hb
  have HR : Hid (V.zv ⟨lo, 0, hi, 2⟩ = Lib.join [[60] ++ hi] [32]) := zvq (by simp [V.zv, V.lowT, V.ub])
  have HLS : Hid ((⟨lo.toArray⟩ : ByteArray).data.toList = lo) := zvq rfl
  have HLT : Hid ((⟨hi.toArray⟩ : ByteArray).data.toList = hi) := zvq rfl
  have s1 : (⟨lo.toArray⟩ : ByteArray).size ≤ 64 := by simpa [ByteArray.size] using hll
  have t1 : (⟨hi.toArray⟩ : ByteArray).size ≤ 64 := by simpa [ByteArray.size] using hhl
  clear hll hhl
  generalize (⟨lo.toArray⟩ : ByteArray) = s at *
  generalize (⟨hi.toArray⟩ : ByteArray) = t at *
  have qh2 : ¬ (9223372036854775807 < 1 + t.size) := by omega
  go_enter Tryz.func58, Tryz.ntmps58
  exact zw1
 ·clear hb
  have HR : Hid (V.zv ⟨lo, 1, hi, 0⟩ = Lib.join [[62, 61] ++ lo] [32]) := zvq (by simp [V.zv, V.lowT, V.ub])
  have HLS : Hid ((⟨lo.toArray⟩ : ByteArray).data.toList = lo) := zvq rfl
  have HLT : Hid ((⟨hi.toArray⟩ : ByteArray).data.toList = hi) := zvq rfl
  have s1 : (⟨lo.toArray⟩ : ByteArray).size ≤ 64 := by simpa [ByteArray.size] using hll
  have t1 : (⟨hi.toArray⟩ : ByteArray).size ≤ 64 := by simpa [ByteArray.size] using hhl
  clear hll hhl
  generalize (⟨lo.toArray⟩ : ByteArray) = s at *
  generalize (⟨hi.toArray⟩ : ByteArray) = t at *
  have ql1 : ¬ (9223372036854775807 < 2 + s.size) := by omega
  go_enter Tryz.func58, Tryz.ntmps58
  exact zwx
 ·by_cases heq : lo = hi
  ·clear hb
   subst heq
   have HR : Hid (V.zv ⟨lo, 1, lo, 1⟩ = [61] ++ lo) := zvq (by simp [V.zv])
   have HL : Hid ((⟨lo.toArray⟩ : ByteArray).data.toList = lo) := zvq rfl
   have s1 : (⟨lo.toArray⟩ : ByteArray).size ≤ 64 := by simpa [ByteArray.size] using hll
   clear hll hhl
   generalize (⟨lo.toArray⟩ : ByteArray) = s at *
   have s2 : ¬ (9223372036854775807 < 1 + s.size) := by omega
   go_enter Tryz.func58, Tryz.ntmps58
   go_wp2
   go_ret
   exact ⟨ret_ba (by rw [HR.out, ← HL.out]; simp), HB0.out⟩
  ·clear hb
   have HR : Hid (V.zv ⟨lo, 1, hi, 1⟩ = Lib.join [[62, 61] ++ lo, [60, 61] ++ hi] [32]) := zvq (by simp [V.zv, V.lowT, V.ub, heq])
   have HLS : Hid ((⟨lo.toArray⟩ : ByteArray).data.toList = lo) := zvq rfl
   have HLT : Hid ((⟨hi.toArray⟩ : ByteArray).data.toList = hi) := zvq rfl
   have s1 : (⟨lo.toArray⟩ : ByteArray).size ≤ 64 := by simpa [ByteArray.size] using hll
   have t1 : (⟨hi.toArray⟩ : ByteArray).size ≤ 64 := by simpa [ByteArray.size] using hhl
   have hne : ¬ lo = hi := heq
   clear heq
   clear hll hhl
   have hq : ((⟨lo.toArray⟩ : ByteArray).toList == (⟨hi.toArray⟩ : ByteArray).toList) = false := zvu.2 fun e => hne (by rw [ByteArray.toList_eq, ByteArray.toList_eq, HLS.out, HLT.out] at e; exact e)
   clear hne
   generalize (⟨lo.toArray⟩ : ByteArray) = s at *
   generalize (⟨hi.toArray⟩ : ByteArray) = t at *
   have ql1 : ¬ (9223372036854775807 < 2 + s.size) := by omega
   have qh1 : ¬ (9223372036854775807 < 2 + t.size) := by omega
   go_enter Tryz.func58, Tryz.ntmps58
   exact zwc
 ·clear hb
  have HR : Hid (V.zv ⟨lo, 1, hi, 2⟩ = Lib.join [[62, 61] ++ lo, [60] ++ hi] [32]) := zvq (by simp [V.zv, V.lowT, V.ub])
  have HLS : Hid ((⟨lo.toArray⟩ : ByteArray).data.toList = lo) := zvq rfl
  have HLT : Hid ((⟨hi.toArray⟩ : ByteArray).data.toList = hi) := zvq rfl
  have s1 : (⟨lo.toArray⟩ : ByteArray).size ≤ 64 := by simpa [ByteArray.size] using hll
  have t1 : (⟨hi.toArray⟩ : ByteArray).size ≤ 64 := by simpa [ByteArray.size] using hhl
  clear hll hhl
  generalize (⟨lo.toArray⟩ : ByteArray) = s at *
  generalize (⟨hi.toArray⟩ : ByteArray) = t at *
  have ql1 : ¬ (9223372036854775807 < 2 + s.size) := by omega
  have qh2 : ¬ (9223372036854775807 < 1 + t.size) := by omega
  go_enter Tryz.func58, Tryz.ntmps58
  exact zwd
 ·clear hb
  have HR : Hid (V.zv ⟨lo, 2, hi, 0⟩ = Lib.join [[62] ++ lo] [32]) := zvq (by simp [V.zv, V.lowT, V.ub])
  have HLS : Hid ((⟨lo.toArray⟩ : ByteArray).data.toList = lo) := zvq rfl
  have HLT : Hid ((⟨hi.toArray⟩ : ByteArray).data.toList = hi) := zvq rfl
  have s1 : (⟨lo.toArray⟩ : ByteArray).size ≤ 64 := by simpa [ByteArray.size] using hll
  have t1 : (⟨hi.toArray⟩ : ByteArray).size ≤ 64 := by simpa [ByteArray.size] using hhl
  clear hll hhl
  generalize (⟨lo.toArray⟩ : ByteArray) = s at *
  generalize (⟨hi.toArray⟩ : ByteArray) = t at *
  have ql2 : ¬ (9223372036854775807 < 1 + s.size) := by omega
  go_enter Tryz.func58, Tryz.ntmps58
  exact zw0
 ·clear hb
  have HR : Hid (V.zv ⟨lo, 2, hi, 1⟩ = Lib.join [[62] ++ lo, [60, 61] ++ hi] [32]) := zvq (by simp [V.zv, V.lowT, V.ub])
  have HLS : Hid ((⟨lo.toArray⟩ : ByteArray).data.toList = lo) := zvq rfl
  have HLT : Hid ((⟨hi.toArray⟩ : ByteArray).data.toList = hi) := zvq rfl
  have s1 : (⟨lo.toArray⟩ : ByteArray).size ≤ 64 := by simpa [ByteArray.size] using hll
  have t1 : (⟨hi.toArray⟩ : ByteArray).size ≤ 64 := by simpa [ByteArray.size] using hhl
  clear hll hhl
  generalize (⟨lo.toArray⟩ : ByteArray) = s at *
  generalize (⟨hi.toArray⟩ : ByteArray) = t at *
  have ql2 : ¬ (9223372036854775807 < 1 + s.size) := by omega
  have qh1 : ¬ (9223372036854775807 < 2 + t.size) := by omega
  go_enter Tryz.func58, Tryz.ntmps58
  exact zwe
 ·clear hb
  have HR : Hid (V.zv ⟨lo, 2, hi, 2⟩ = Lib.join [[62] ++ lo, [60] ++ hi] [32]) := zvq (by simp [V.zv, V.lowT, V.ub])
  have HLS : Hid ((⟨lo.toArray⟩ : ByteArray).data.toList = lo) := zvq rfl
  have HLT : Hid ((⟨hi.toArray⟩ : ByteArray).data.toList = hi) := zvq rfl
  have s1 : (⟨lo.toArray⟩ : ByteArray).size ≤ 64 := by simpa [ByteArray.size] using hll
  have t1 : (⟨hi.toArray⟩ : ByteArray).size ≤ 64 := by simpa [ByteArray.size] using hhl
  clear hll hhl
  generalize (⟨lo.toArray⟩ : ByteArray) = s at *
  generalize (⟨hi.toArray⟩ : ByteArray) = t at *
  have ql2 : ¬ (9223372036854775807 < 1 + s.size) := by omega
  have qh2 : ¬ (9223372036854775807 < 1 + t.size) := by omega
  go_enter Tryz.func58, Tryz.ntmps58
  exact zwf
end Go.Proofs.YtiloljoancdcbaaGreatDoor
