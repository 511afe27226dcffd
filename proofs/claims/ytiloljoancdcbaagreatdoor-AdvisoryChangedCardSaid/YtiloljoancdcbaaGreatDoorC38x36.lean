/-
  Lemmas for the law.
-/
import Derived.Test.YtiloljoancdcbaaGreatDoorC38x34
import Derived.Test.YtiloljoancdcbaaGreatDoorC38x35
import Derived.Test.YtiloljoancdcbaaGreatDoorC38x20
import Derived.Test.YtiloljoancdcbaaGreatDoorC38x21
import Derived.Test.YtiloljoancdcbaaGreatDoorC38x06
import Derived.Lib.AppendStr
set_option linter.all false
set_option maxRecDepth 100000
set_option maxHeartbeats 6400000
namespace Go.Proofs.YtiloljoancdcbaaGreatDoor
open Go.RowKit
def xk (l : List V.Bs) (w : World) (e : Ending) (w' : World) : Prop :=
 ∃ u, e = .returned (.tuple #[affV (V.vp l).1 u, .bool (V.vp l).2]) /\ Itvs w' u (V.vp l).1.its /\ (∀ c, u.ownBlock = some c -> w.heap.size ≤ c) /\ Below w.heap.size w w'
theorem xk.zero {l : List V.Bs} {w w' : World} (h : V.vp l = (V.zA, false)) (hb : Below w.heap.size w w') : xk l w (.returned (.tuple #[.agg #[.int .i64 0, .string ⟨#[]⟩, .int .i64 0, .slice none 0 0], .bool false])) w' :=
 ⟨.slice none 0 0, by rw [h]; rfl, by rw [h]; exact Itvs.nil _, (fun c hc => by cases hc), hb⟩
theorem zqs (s : V.Bs) : 0 ≤ V.kq s /\ V.kq s ≤ 3 := by
 unfold V.kq
 repeat' split
 all_goals decide
theorem zk6 {l : List V.Bs} (h : l.length = 4) : ∃ a s n r, l = [a, s, n, r] := by
 match l, h with
 | [a, s, n, r], _ => exact ⟨a, s, n, r, rfl⟩
theorem zqz {w : World} {v : Value} {a s n r : V.Bs} (h : Strs w v [a, s, n, r]) : ∃ b off cap, v = .slice (some ⟨b, off, none⟩) 4 cap /\ b < w.heap.size /\ w.cell? ⟨b, off, none⟩ = some (.string ⟨a.toArray⟩) /\ w.cell? ⟨b, off + 1, none⟩ = some (.string ⟨s.toArray⟩) /\ w.cell? ⟨b, off + 2, none⟩ = some (.string ⟨n.toArray⟩) /\ w.cell? ⟨b, off + 3, none⟩ = some (.string ⟨r.toArray⟩) := by
 obtain ⟨va, cap, rfl, hat⟩ := h
 obtain ⟨b, off, rfl, hlt, h0⟩ := hat 0 (by simp)
 have hk : ∀ j (hj : j < [a, s, n, r].length), w.cell? ⟨b, off + j, none⟩ = some (.string ⟨([a, s, n, r][j]).toArray⟩) := fun j hj => by
  obtain ⟨b', off', e, _, hc⟩ := hat j hj
  cases e
  exact hc
 exact ⟨b, off, cap, rfl, hlt, h0, hk 1 (by simp), hk 2 (by simp), hk 3 (by simp)⟩
theorem zwh {P : Prop} (h : P := by
 refine tk 11 ?_
 refine rd 12 fun K hK => ?_
 refine zg8 rfl ui _ _ rfl w.heap.size #[.int .i64 0, .string ⟨#[]⟩, .int .i64 0, .slice none 0 0] 34 HK.out rfl (.int .i64 sc) (.string ⟨n.toArray⟩) (.int .i64 rs) (.slice up its.length uq) ⟨rfl, rfl, rfl, rfl⟩ rfl rfl ?_
 refine hK.out _ _ ?_ (fun hHeld => nx ?_)
 ·(try dsimp only); exact ⟨(qg _ _ _).cell hHeld.1 (fun e => HNE.out.1 (Option.some.inj e)), (qg _ _ _).cell hHeld.2.1 (fun e => HNE.out.2 (Option.some.inj e)), (qg _ _ _).cell hHeld.2.2 (fun e => HNE.out.2 (Option.some.inj e))⟩
 clear hK K
 refine tk 13 ?_
 refine wpAnyH_done (by kernel_rfl) ?_ _
 go_wp2
 refine bodyPost_ret (v := .tuple #[.agg #[.int .i64 sc, .string ⟨n.toArray⟩, .int .i64 rs, .slice up its.length uq], .bool false]) (kw Tryz.results69 rfl rfl (zdw Tryz.underlying34 ui (setRow_heap _ _ _ _ _ _ HK.out))) rfl ?_
 rw [HRF.out]
 exact ⟨_, rfl, HIT.out.row (qg _ _ _) (fun c hc e => by have := HOW.out c hc; have := HZ.out.1; omega), HOW2.out, je HBF.out.drew w.heap.size _ (zvt _) HZ.out.2⟩) : P := h
theorem zwt {P : Prop} (h : P := by
 go_enter Tryz.func69, Tryz.ntmps69
 go_wp2_with (first | (refine xg rfl ui _ _ rfl w.heap.size #[.int .i64 0, .string ⟨#[]⟩, .int .i64 0, .slice none 0 0] 34 HK0.out rfl (.int .i64 0) (.string ⟨#[]⟩) (.int .i64 0) (.slice none 0 0) ⟨rfl, rfl, rfl, rfl⟩ rfl rfl ?_) | fail)
 refine bodyPost_ret (v := .tuple #[.agg #[.int .i64 0, .string ⟨#[]⟩, .int .i64 0, .slice none 0 0], .bool false]) (kw Tryz.results69 rfl rfl (zdw Tryz.underlying34 ui (setRow_heap _ _ _ _ _ _ HK0.out))) rfl ?_
 exact xk.zero HR.out (je HB0.out w.heap.size _ (zvt _) (by have := HZ0.out; omega))) : P := h
theorem zic (v : Value) (l : List V.Bs) (w : World) (hm : zg w) (hv : Strs w v l) (hw : ∀ x ∈ l, x.length ≤ maxLen) :
  Calls Tryz.prog 69 #[v] w (xk l w) := by
 have hb0 : Below w.heap.size w (w.alloc (.cells #[.int .i64 0, .string ⟨#[]⟩, .int .i64 0, .slice none 0 0] 34)) := (zvu _ w).alloc (zvt _) _
 have HB0 := zvr hb0
 have HK0 : Hid ((w.alloc (.cells #[.int .i64 0, .string ⟨#[]⟩, .int .i64 0, .slice none 0 0] 34)).heap[w.heap.size]? = some (.cells #[.int .i64 0, .string ⟨#[]⟩, .int .i64 0, .slice none 0 0] 34 (0, 0))) := zvr (heap_alloc_new w _)
 have HM0 := zvr (hm.below hb0)
 have HZ0 : Hid ((w.alloc (.cells #[.int .i64 0, .string ⟨#[]⟩, .int .i64 0, .slice none 0 0] 34)).heap.size = w.heap.size + 1) := zvr (by simp)
 by_cases h4 : l.length = 4
 case neg =>
  have HR := zvr (V.zub h4)
  obtain ⟨va, cap, rfl, hjunk⟩ := hv
  have q1 : ((l.length : Int) != 4) = true := by simp; omega
  have q2 : ¬ (l.length : Int) = 4 := by omega
  clear hjunk hw h4 hb0 hm
  generalize l.length = m at *
  exact zwt
 obtain ⟨a, s, n, r, rfl⟩ := zk6 h4
 obtain ⟨b, off, cap, rfl, hblt, c0, c1, c2, c3⟩ := zqz hv
 have x0 := zb hb0 c0
 have x1 := zb hb0 c1
 have x2 := zb hb0 c2
 have x3 := zb hb0 c3
 have hrl : r.length ≤ maxLen := hw r (by simp)
 have HRL := zvr hrl
 have HBL := zvr hblt
 clear hw hv hb0 h4 c0 c1 c2 c3 hrl hblt hm
 by_cases ha : a = V.affW
 case neg =>
  have HR := zvr (V.zr0 (s := s) (n := n) (r := r) ha)
  have hne : (a == [97, 102, 102, 101, 99, 116, 115]) = false := by rw [zvv]; exact ha
  clear ha x1 x2 x3
  exact zwt
 subst ha
 have hcw : (⟨V.affW.toArray⟩ : ByteArray) = ⟨#[97, 102, 102, 101, 99, 116, 115]⟩ := rfl
 rw [hcw] at x0
 clear hcw
 have HF := zvr (V.zla s n r)
 have hsr := zqs s
 go_enter Tryz.func69, Tryz.ntmps69
 go_wp2_with fail
 generalize w.alloc (.cells #[.int .i64 0, .string ⟨#[]⟩, .int .i64 0, .slice none 0 0] 34) = w0 at *
 refine (zp3 ⟨s.toArray⟩ w0).mono ?_
 rintro e w1 ⟨rfl, hb1⟩
 rw [vh]
 replace x2 := zb hb1 x2
 replace x3 := zb hb1 x3
 have HB1 := zvs HB0 hb1
 have HM1 := zvr (HM0.out.below hb1)
 have hz1 : w.heap.size + 1 ≤ w1.heap.size := by have := hb1.size; have := HZ0.out; omega
 have HK1 := zvr ((hb1.block _ (by have := HZ0.out; omega)).trans HK0.out)
 clear hb1 x0 x1 HB0 HM0 HK0 HZ0
 generalize V.kq s = sc at *
 go_wp2_with fail
 refine (zrm sc r w1 HM1.out HRL.out).mono ?_
 rintro e w2 ⟨u, rfl, hu, how, hb2⟩
 obtain ⟨⟨rs, its, ec⟩, hpp⟩ : ∃ p, V.parP sc r = p := ⟨_, rfl⟩
 rw [hpp] at hu HF ⊢
 simp only at hu HF ⊢
 obtain ⟨up, uq, rfl⟩ := hu.slice
 unfold setV
 have hb3 : Below w1.heap.size w1 (w2.alloc (.cells #[.int .i64 rs, .slice up its.length uq] 32)) := hb2.alloc hb2.size _
 have s0 : (w2.alloc (.cells #[.int .i64 rs, .slice up its.length uq] 32)).cell? ⟨w2.heap.size, 0, none⟩ = some (.int .i64 rs) := by rw [World.cell?_alloc_new]; rfl
 have s1 : (w2.alloc (.cells #[.int .i64 rs, .slice up its.length uq] 32)).cell? ⟨w2.heap.size, 1, none⟩ = some (.slice up its.length uq) := by rw [World.cell?_alloc_new]; rfl
 have y2 := zb hb3 x2
 have HIT := zvr (hu.below ((zvu _ w2).alloc (zvt _) (.cells #[.int .i64 rs, .slice up its.length uq] 32)))
 have HOW : Hid (∀ c, (Value.slice up its.length uq).ownBlock = some c -> w1.heap.size ≤ c) := zvr how
 have hz2 := hb2.size
 have hz3 : (w2.alloc (.cells #[.int .i64 rs, .slice up its.length uq] 32)).heap.size = w2.heap.size + 1 := by simp
 have HBF := zvs HB1 hb3
 have HK := zvr ((hb3.block _ (by omega)).trans HK1.out)
 have HOW2 : Hid (∀ c, (Value.slice up its.length uq).ownBlock = some c -> w.heap.size ≤ c) := zvr (fun c hc => by have := how c hc; omega)
 clear hb2 hb3 hu how HB1 HM1 HK1 hpp x2 x3
 go_wp2_with fail
 generalize w2.alloc (.cells #[.int .i64 rs, .slice up its.length uq] 32) = w3 at *
 have HNE : Hid (b ≠ w.heap.size /\ w2.heap.size ≠ w.heap.size) := zvr ⟨by have := HBL.out; omega, by omega⟩
 have HZ : Hid (w.heap.size < w1.heap.size /\ w.heap.size < w3.drew.heap.size) := zvr ⟨by omega, by show _ < w3.heap.size; omega⟩
 generalize w2.heap.size = Y at *
 replace HK := zvr (show w3.drew.heap[w.heap.size]? = some (.cells #[.int .i64 0, .string ⟨#[]⟩, .int .i64 0, .slice none 0 0] 34 (0, 0)) from HK.out)
 replace HIT := zvr (HIT.out.below (zvu _ w3).drew)
 clear hz1 hz2 hz3
 by_cases hp : 0 < sc
 ·have HSC := zvr hp
  by_cases he : ec = 0
  ·have HEC := zvr he
   have HRF : Hid (xk [V.affW, s, n, r] w = fun e w' => ∃ u, e = .returned (.tuple #[affV ⟨sc, n, rs, its⟩ u, .bool true]) /\ Itvs w' u its /\ (∀ c, u.ownBlock = some c -> w.heap.size ≤ c) /\ Below w.heap.size w w') := zvr (by unfold xk; rw [HF.out]; simp [hp, he])
   clear hp he HF
   refine wp_region_held_drew (S := (fun W' => W'.cell? ⟨b, off + 2, none⟩ = some (.string ⟨n.toArray⟩) /\ W'.cell? ⟨Y, 0, none⟩ = some (.int .i64 rs) /\ W'.cell? ⟨Y, 1, none⟩ = some (.slice up its.length uq))) (by kernel_rfl) (by (try dsimp only); exact ⟨zb (zvu _ _).drew y2, zb (zvu _ _).drew s0, zb (zvu _ _).drew s1⟩) (fun hHeld => ?_)
   refine tk 0 ?_
   refine tk 1 ?_
   refine tk 2 ?_
   refine tk 3 ?_
   refine tk 4 ?_
   refine tk 5 ?_
   refine tk 6 ?_
   refine wpAnyH_take (i := 7) (v := (.bool true)) rfl (by kernel_rfl) (by kernel_rfl) (by kernel_rfl) (fun _ _ _ h => h) (Or.inl ⟨by rfl, fun w' hSw => by have e := HSC.out; go_simp; try rfl⟩) (by assumption) ?_
   try simp only [zvm, zvn, zvo, Act.put, zvp, List.set_cons_succ, List.set_cons_zero]
   refine tk 8 ?_
   refine tk 9 ?_
   refine wpAnyH_take (i := 10) (v := (.bool true)) rfl (by kernel_rfl) (by kernel_rfl) (by kernel_rfl) (fun _ _ _ h => h) (Or.inl ⟨by rfl, fun w' hSw => by have e := HEC.out; go_simp; try rfl⟩) (by assumption) ?_
   try simp only [zvm, zvn, zvo, Act.put, zvp, List.set_cons_succ, List.set_cons_zero]
   refine tk 11 ?_
   refine rd 12 fun K hK => ?_
   refine zg8 rfl ui _ _ rfl w.heap.size #[.int .i64 0, .string ⟨#[]⟩, .int .i64 0, .slice none 0 0] 34 HK.out rfl (.int .i64 sc) (.string ⟨n.toArray⟩) (.int .i64 rs) (.slice up its.length uq) ⟨rfl, rfl, rfl, rfl⟩ rfl rfl ?_
   refine hK.out _ _ ?_ (fun hHeld => nx ?_)
   ·(try dsimp only); exact ⟨(qg _ _ _).cell hHeld.1 (fun e => HNE.out.1 (Option.some.inj e)), (qg _ _ _).cell hHeld.2.1 (fun e => HNE.out.2 (Option.some.inj e)), (qg _ _ _).cell hHeld.2.2 (fun e => HNE.out.2 (Option.some.inj e))⟩
   clear hK K
   refine tk 13 ?_
   refine wpAnyH_done (by kernel_rfl) ?_ _
   go_wp2
   refine bodyPost_ret (v := .tuple #[.agg #[.int .i64 sc, .string ⟨n.toArray⟩, .int .i64 rs, .slice up its.length uq], .bool true]) (kw Tryz.results69 rfl rfl (zdw Tryz.underlying34 ui (setRow_heap _ _ _ _ _ _ HK.out))) rfl ?_
   rw [HRF.out]
   exact ⟨_, rfl, HIT.out.row (qg _ _ _) (fun c hc e => by have := HOW.out c hc; have := HZ.out.1; omega), HOW2.out, je HBF.out.drew w.heap.size _ (zvt _) HZ.out.2⟩
  ·have HEC := zvr he
   have HRF : Hid (xk [V.affW, s, n, r] w = fun e w' => ∃ u, e = .returned (.tuple #[affV ⟨sc, n, rs, its⟩ u, .bool false]) /\ Itvs w' u its /\ (∀ c, u.ownBlock = some c -> w.heap.size ≤ c) /\ Below w.heap.size w w') := zvr (by unfold xk; rw [HF.out]; simp [he])
   clear hp he HF
   refine wp_region_held_drew (S := (fun W' => W'.cell? ⟨b, off + 2, none⟩ = some (.string ⟨n.toArray⟩) /\ W'.cell? ⟨Y, 0, none⟩ = some (.int .i64 rs) /\ W'.cell? ⟨Y, 1, none⟩ = some (.slice up its.length uq))) (by kernel_rfl) (by (try dsimp only); exact ⟨zb (zvu _ _).drew y2, zb (zvu _ _).drew s0, zb (zvu _ _).drew s1⟩) (fun hHeld => ?_)
   refine tk 0 ?_
   refine tk 1 ?_
   refine tk 2 ?_
   refine tk 3 ?_
   refine tk 4 ?_
   refine tk 5 ?_
   refine tk 6 ?_
   refine wpAnyH_take (i := 7) (v := (.bool true)) rfl (by kernel_rfl) (by kernel_rfl) (by kernel_rfl) (fun _ _ _ h => h) (Or.inl ⟨by rfl, fun w' hSw => by have e := HSC.out; go_simp; try rfl⟩) (by assumption) ?_
   try simp only [zvm, zvn, zvo, Act.put, zvp, List.set_cons_succ, List.set_cons_zero]
   refine tk 8 ?_
   refine tk 9 ?_
   refine wpAnyH_take (i := 10) (v := (.bool false)) rfl (by kernel_rfl) (by kernel_rfl) (by kernel_rfl) (fun _ _ _ h => h) (Or.inl ⟨by rfl, fun w' hSw => by have e := HEC.out; go_simp; try rfl⟩) (by assumption) ?_
   try simp only [zvm, zvn, zvo, Act.put, zvp, List.set_cons_succ, List.set_cons_zero]
   exact zwh
 ·have HSC := zvr hp
  have HRF : Hid (xk [V.affW, s, n, r] w = fun e w' => ∃ u, e = .returned (.tuple #[affV ⟨sc, n, rs, its⟩ u, .bool false]) /\ Itvs w' u its /\ (∀ c, u.ownBlock = some c -> w.heap.size ≤ c) /\ Below w.heap.size w w') := zvr (by unfold xk; rw [HF.out]; simp [hp])
  clear hp HF
  refine wp_region_held_drew (S := (fun W' => W'.cell? ⟨b, off + 2, none⟩ = some (.string ⟨n.toArray⟩) /\ W'.cell? ⟨Y, 0, none⟩ = some (.int .i64 rs) /\ W'.cell? ⟨Y, 1, none⟩ = some (.slice up its.length uq))) (by kernel_rfl) (by (try dsimp only); exact ⟨zb (zvu _ _).drew y2, zb (zvu _ _).drew s0, zb (zvu _ _).drew s1⟩) (fun hHeld => ?_)
  refine tk 0 ?_
  refine tk 1 ?_
  refine tk 2 ?_
  refine tk 3 ?_
  refine tk 4 ?_
  refine tk 5 ?_
  refine tk 6 ?_
  refine wpAnyH_take (i := 7) (v := (.bool false)) rfl (by kernel_rfl) (by kernel_rfl) (by kernel_rfl) (fun _ _ _ h => h) (Or.inl ⟨by rfl, fun w' hSw => by have e := HSC.out; go_simp; try rfl⟩) (by assumption) ?_
  try simp only [zvm, zvn, zvo, Act.put, zvp, List.set_cons_succ, List.set_cons_zero]
  refine tk 8 ?_
  refine tu 9 ?_
  refine tu 10 ?_
  exact zwh
theorem V.docTo_len2 {ls : List (List V.Bs)} : ∀ k, k ≤ ls.length -> (∀ j (h : j < ls.length), j < k -> 0 < ls[j].length) -> (V.zbv ls k).length = V.kb ls k
 | 0, _, _ => rfl
 | k + 1, h, hw => by
  rw [V.zc6 (by omega), V.ym (by omega), List.length_append, V.docTo_len2 k (by omega) (fun j h1 h2 => hw j h1 (by omega)), V.zf9 (hw k (by omega) (by omega))]
theorem V.docSz_max {ls : List (List V.Bs)} {M : Nat} (h : ∀ x ∈ ls, V.jt x x.length ≤ M) : ∀ k, k ≤ ls.length -> V.kb ls k ≤ k * M
 | 0, _ => by simp [V.kb]
 | k + 1, hk => by
  rw [V.ym (by omega)]
  have h1 := V.docSz_max h k (by omega)
  have h2 := h _ (List.getElem_mem (show k < ls.length by omega))
  rw [Nat.succ_mul]
  omega
theorem V.lineSz_max {x : List V.Bs} {M : Nat} (h : ∀ u ∈ x, V.ws u + 1 ≤ M) : V.jt x x.length ≤ x.length * M := by
 unfold V.jt
 exact zx5
theorem V.ok_size {ls : List (List V.Bs)} (h : ls.length ≤ 1000) (hl : ∀ l ∈ ls, 0 < l.length /\ l.length ≤ 120 /\ ∀ w ∈ l, w.length ≤ 32768) : V.kb ls ls.length ≤ 12000000000 := by
 have := V.docSz_max (ls := ls) (M := 11797000) (fun x hx => by
   have hx := hl x hx
   have a := V.lineSz_max (x := x) (M := 98306) (fun u hu => by have := V.xu u; have := hx.2.2 u hu; omega)
   have b : x.length * 98306 ≤ 120 * 98306 := Nat.mul_le_mul_right _ hx.2.1
   omega) _ (zvt _)
 have c : ls.length * 11797000 ≤ 1000 * 11797000 := Nat.mul_le_mul_right _ h
 omega
theorem zzn {P : Prop} (h : P := by
 go_enter Tryz.func54, Tryz.ntmps54
 go_wp2
 go_ret
 exact ⟨by rw [HC.out]; rfl, rfl⟩) : P := h
theorem zns (v : Value) (l : List V.Bs) (w : World) (hv : Strs w v l) (hx : ∀ x ∈ l, x.length ≤ maxLen) :
  Calls Tryz.prog 54 #[v] w fun e w' => e = .returned (.int .i64 (V.chk l)) /\ w' = w := by
 obtain ⟨va, vc, rfl, hat⟩ := hv
 have HA := zvr hat
 clear hat
 by_cases h0 : l.length = 0
 ·have HC : Hid (V.chk l = 1) := zvr (by unfold V.chk; rw [if_pos h0])
  exact zzn
 ·have hn0 : ((l.length : Int) == 0) = false := by rw [zvv]; omega
  by_cases h1 : 120 < l.length
  ·have HC : Hid (V.chk l = 3) := zvr (by unfold V.chk; rw [if_neg h0, if_pos h1])
   have hn1 : (120 : Int) < (l.length : Int) := by omega
   exact zzn
  ·have hn1 : ¬ (120 : Int) < (l.length : Int) := by omega
   have HC1 : Hid (∀ j (h : j < l.length), 32768 < l[j].length -> V.chk l = 3) := zvr (fun j h hj => by
     unfold V.chk
     rw [if_neg h0, if_neg h1, if_neg]
     intro e
     rw [List.all_eq_true] at e
     have := e _ (List.getElem_mem h)
     simp at this
     omega)
   have HC0 : Hid ((∀ j (h : j < l.length), l[j].length ≤ 32768) -> V.chk l = 0) := zvr (fun h => by
     unfold V.chk
     rw [if_neg h0, if_neg h1, if_pos]
     rw [List.all_eq_true]
     intro x hx
     obtain ⟨j, hj, rfl⟩ := List.mem_iff_getElem.1 hx
     simpa using h j hj)
   have HX := zvr hx
   clear h0 h1 hx
   go_enter Tryz.func54, Tryz.ntmps54
   go_wp2
   go_loop [15] (fun iv => ∃ k : Nat, k ≤ l.length /\ iv = .int .i64 k /\ ∀ j (h : j < l.length), j < k -> l[j].length ≤ 32768) (fun iv => l.length - (intOf iv).toNat)
   case atStart => exact ⟨0, Nat.zero_le _, rfl, fun j h hj => absurd hj (by omega)⟩
   case round =>
    obtain ⟨k, hk, rfl, hpre⟩ := hrel
    have HPRE := zvr hpre
    clear hpre
    by_cases hlt : k < l.length
    ·obtain ⟨b, off, rfl, hb, hc⟩ := HA.out k hlt
     have hxm := HX.out _ (List.getElem_mem hlt)
     have HC3 := zvr (HC1.out k hlt)
     have HNX : Hid (l[k].length ≤ 32768 -> ∀ j (h : j < l.length), j < k + 1 -> l[j].length ≤ 32768) := zvr (fun e j h hj => by
       rcases Nat.lt_or_ge j k with g | g
       · exact HPRE.out j h g
       · obtain rfl : j = k := by omega
         exact e)
     have hi1 : (0 : Int) ≤ (k : Int) := by omega
     have hi2 : (k : Int) < (l.length : Int) := by omega
     generalize l[k] = x at *
     unfold maxLen at hxm
     have hxs := ww x
     by_cases hbg : 32768 < x.length
     ·have hq := HC3.out hbg
      have hx2 : (32768 : Int) < (x.length : Int) := by omega
      have hx3 : (32768 : Int) < ((ByteArray.mk x.toArray).size : Int) := by rw [hxs]; omega
      have HQ := zvr hq
      clear hq
      go_wp2
      go_ret
      exact ⟨by rw [HQ.out]; rfl, rfl⟩
     ·have hx2 : ¬ (32768 : Int) < (x.length : Int) := by omega
      have hx3 : ¬ (32768 : Int) < ((ByteArray.mk x.toArray).size : Int) := by rw [hxs]; omega
      have HN2 := zvr (HNX.out (by omega))
      go_wp2
      go_round
      case rel => exact ⟨k + 1, by omega, by go_num, HN2.out⟩
      case measure => simp [intOf]; omega
    ·obtain rfl : k = l.length := by omega
     have HQ := zvr (HC0.out (fun j h => HPRE.out j h h))
     go_wp2
     go_ret
     exact ⟨by rw [HQ.out]; rfl, rfl⟩
def EncG (ls : List (List V.Bs)) (w : World) (e : Ending) (w' : World) : Prop :=
 (V.encE ls = 0 -> ∃ u, e = .returned (.tuple #[u, .int .i64 0]) /\ Buf w.heap.size u (V.doc ls) w w') /\ (¬ V.encE ls = 0 -> e = .returned (.tuple #[.slice none 0 0, .int .i64 (V.encE ls)])) /\ Below w.heap.size w w'
theorem V.encE_many {ls : List (List V.Bs)} (h : 1000 < ls.length) : V.encE ls = 3 := by unfold V.encE; rw [if_pos h]
theorem V.encE_bad {ls : List (List V.Bs)} (h : ¬ 1000 < ls.length) (hb : ¬ V.zx ls = 0) : V.encE ls = V.zx ls := by unfold V.encE; rw [if_neg h, if_neg hb]
theorem V.encE_big {ls : List (List V.Bs)} (h : ¬ 1000 < ls.length) (hb : V.zx ls = 0) (hs : 262144 < V.kb ls ls.length) : V.encE ls = 3 := by unfold V.encE; rw [if_neg h, if_pos hb, if_pos hs]
theorem V.encE_ok {ls : List (List V.Bs)} (h : ¬ 1000 < ls.length) (hb : V.zx ls = 0) (hs : ¬ 262144 < V.kb ls ls.length) : V.encE ls = 0 := by unfold V.encE; rw [if_neg h, if_pos hb, if_neg hs]
theorem z0m {P : Prop} (h : P := by
 go_wp2
 go_ret2
 exact ⟨fun h => (by rw [HE.out] at h; cases h), fun _ => by rw [HE.out]; rfl, zvu _ _⟩) : P := h
theorem zs5 (v : Value) (ls : List (List V.Bs)) (w : World) (hv : Lines w v ls) (hx : ∀ l ∈ ls, ∀ x ∈ l, x.length ≤ maxLen) :
  Calls Tryz.prog 27 #[v] w (EncG ls w) := by
 by_cases h1000 : 1000 < ls.length
 ·obtain ⟨va, vc, rfl, hat⟩ := hv
  have HE := zvr (V.encE_many h1000)
  have hn1 : (1000 : Int) < (ls.length : Int) := by omega
  clear hat hx
  go_enter Tryz.func27, Tryz.ntmps27
  exact z0m
 by_cases hok : V.zx ls = 0 /\ ¬ 262144 < V.kb ls ls.length
 ·have he := V.encE_ok h1000 hok.1 hok.2
  refine (zlx v ls w hv (V.zgw he)).mono ?_
  rintro e w' ⟨u, rfl, hb⟩
  exact ⟨fun _ => ⟨u, rfl, hb⟩, fun h => absurd he h, hb.2.1⟩
 have HBIG : Hid (V.zx ls = 0 -> V.encE ls = 3 /\ 262144 < V.kb ls ls.length) := zvr (fun h => by
   have : 262144 < V.kb ls ls.length := Nat.lt_of_not_le fun e => hok ⟨h, by omega⟩
   exact ⟨V.encE_big h1000 h this, this⟩)
 have HBAD := zvr (V.encE_bad h1000 (ls := ls))
 have HL := zvr hv
 have HXL := zvr hx
 obtain ⟨va, vc, rfl, hat⟩ := hv
 have HA := zvr hat
 have hn : ls.length ≤ 1000 := by omega
 have hn1 : ¬ (1000 : Int) < (ls.length : Int) := by omega
 clear hat hok h1000 hx
 go_enter Tryz.func27, Tryz.ntmps27
 go_wp2
 go_loop [22] (fun iv => ∃ k : Nat, k ≤ ls.length /\ iv = .int .i64 k /\ V.zx ls = V.zx (ls.drop k)) (fun iv => ls.length - (intOf iv).toNat)
 case atStart => exact ⟨0, Nat.zero_le _, rfl, rfl⟩
 case round =>
  obtain ⟨k, hk, rfl, hfb⟩ := hrel
  have HFB := zvr hfb
  clear hfb
  by_cases hlt : k < ls.length
  ·obtain ⟨b, off, u, rfl, hb, hc, hs⟩ := HA.out k hlt
   have HX := zvr (HXL.out _ (List.getElem_mem hlt))
   have HAT := zvr (V.zh2 hlt HFB.out)
   have HS := zvr hs
   have hi1 : (0 : Int) ≤ (k : Int) := by omega
   have hi2 : (k : Int) < (ls.length : Int) := by omega
   generalize ls[k] = l at *
   clear hs
   go_wp2_with fail
   refine (zns u l w HS.out HX.out).mono ?_
   rintro e w' ⟨rfl, rfl⟩
   by_cases hck : V.chk l = 0
   ·have HN := zvr (HAT.out.1 hck)
    clear HAT
    rw [hck]
    clear hck
    go_wp2
    go_round
    case rel => exact ⟨k + 1, by omega, by go_num, HN.out⟩
    case measure => simp [intOf]; omega
   ·have hf := HAT.out.2 hck
    have HE : Hid (V.encE ls = V.chk l) := zvr (by rw [HBAD.out (by rw [hf]; exact hck), hf])
    have hcb : (V.chk l == 0) = false := by rw [zvv]; exact hck
    have HCK := zvr hck
    clear hf HAT
    generalize V.chk l = ck at *
    go_wp2
    go_ret2
    exact ⟨fun h => (by rw [HE.out] at h; exact absurd h HCK.out), fun _ => by rw [HE.out]; rfl, zvu _ _⟩
  ·obtain rfl : k = ls.length := by omega
   have hz : V.zx ls = 0 := by rw [HFB.out, List.drop_length]; rfl
   have HE := zvr (HBIG.out hz)
   have HOK : Hid (∀ l ∈ ls, 0 < l.length /\ l.length ≤ 120 /\ ∀ w ∈ l, w.length ≤ 32768) := zvr (fun l hl => V.zct.1 (V.uh.1 hz l hl))
   have hmax := V.ok_size hn HOK.out
   clear hz
   go_wp2
   go_loop [7, 34] (fun tv iv => ∃ k : Nat, k ≤ ls.length /\ iv = .int .i64 k /\ tv = .int .i64 (V.kb ls k : Nat)) (fun _ iv => ls.length - (intOf iv).toNat)
   case atStart => exact ⟨0, Nat.zero_le _, rfl, rfl⟩
   case round =>
    obtain ⟨k, hk, rfl, rfl⟩ := hrel
    have htot := V.zcl (j := k) hk (zvt ls.length)
    by_cases hlt : k < ls.length
    ·obtain ⟨b, off, u, rfl, hb, hc, hs⟩ := HA.out k hlt
     have HX := zvr (HOK.out _ (List.getElem_mem hlt))
     exact zv9
    ·obtain rfl : k = ls.length := by omega
     have hbig : (262144 : Int) < (V.kb ls ls.length : Int) := by have := HE.out.2; omega
     obtain ⟨q, hq⟩ : ∃ q, q = V.kb ls ls.length := ⟨_, rfl⟩
     rw [← hq] at hbig ⊢
     clear hlt hk htot hq
     go_wp2
     go_ret2
     exact ⟨fun h => (by rw [HE.out.1] at h; cases h), fun _ => by rw [HE.out.1]; rfl, zvu _ _⟩
open Go.RowKit
def BufZ (N : Nat) (v : Value) (l : V.Bs) (W0 w : World) : Prop := w.ownsRow N 5 1 v l.length (bvals l) /\ Below N W0 w /\ N ≤ w.heap.size
theorem BufZ.buf {N : Nat} {v : Value} {l : V.Bs} {W0 w : World} (h : BufZ N v l W0 w) : Buf N v l W0 w := ⟨World.ownsRowF_of h.1, h.2⟩
theorem BufZ.nil {N : Nat} {W0 w : World} (h : Below N W0 w) (hN : N ≤ w.heap.size) : BufZ N (.slice none 0 0) [] W0 w := ⟨⟨by simp [bvals], .inl ⟨rfl, rfl⟩⟩, h, hN⟩
theorem BufZ.below {N : Nat} {v : Value} {l : V.Bs} {W0 w w' : World} (h : BufZ N v l W0 w) (hb : Below w.heap.size w w') : BufZ N v l W0 w' := by
 refine ⟨⟨h.1.1, ?_⟩, h.2.1.trans (hb.mono h.2.2), Nat.le_trans h.2.2 hb.size⟩
 rcases h.1.2 with e | ⟨g, cap, cur, e, h1, h2, h3⟩
 ·exact .inl e
 ·exact .inr ⟨g, cap, cur, e, h1, (hb.block g (Array.getElem?_eq_some_iff.1 h2).1).trans h2, h3⟩
theorem BufZ.slice {N : Nat} {v : Value} {l : V.Bs} {W0 w : World} (h : BufZ N v l W0 w) : ∃ a cap, v = .slice a l.length cap := h.buf.slice
theorem BufZ.grown {N : Nat} {v v' : Value} {l l' : V.Bs} {W0 w w' : World} (h : BufZ N v l W0 w) (ho : w'.ownsRow N 5 1 v' l'.length (bvals l')) (hg : w.grownBy w' v.ownBlock) : BufZ N v' l' W0 w' :=
 ⟨ho, h.2.1.grown hg h.2.2 (fun k hk => (h.buf.1.lt k hk).1), Nat.le_trans h.2.2 hg.size⟩
theorem zmk {ops : Array Oper} {rest : List Oper} {o : Oper} {a : Act} {w : World} {Q : Exit -> Act -> World -> Prop} (hgd : o.guard = none) (s x : Operand)
  (ho : o.op = .call { callee := .builtin .append, args := #[s, x], argTypes := #[36, 36] })
  (N : Nat) (v : Value) (l : V.Bs) (W0 : World) (hs : a.eval s = v) (hb : BufZ N v l W0 w) (b cap : Nat) (m : V.Bs) (hx : a.eval x = .slice (some ⟨b, 0, none⟩) m.length cap) (hc : ∀ j u, (bvals m)[j]? = some u -> w.cell? ⟨b, j, none⟩ = some u) (hl : l.length + m.length ≤ 10000000)
  (h : ∀ v' w', BufZ N v' (l ++ m) W0 w' -> wpList Tryz.prog ops Q rest (a.put o.dst v') w') : wpList Tryz.prog ops Q (o :: rest) a w := by
 obtain ⟨i, hi, hz, h1, h2⟩ := zad
 refine wpList_append_own w hgd s x 36 ho N 5 i (.int .u8 0) 1 1 Tryz.underlying36 hi hz h1 h2 rfl (by decide) v l.length (bvals l) hs hb.1 ⟨b, 0, none⟩ m.length cap (bvals m) hx (by rw [zgr]; omega) ?_ ?_ (by unfold maxLen; omega) (by omega) hb.2.2 ?_
 ·intro j u hj
  have := hc j u hj
  rw [Addr.add_mid, Nat.zero_add]
  exact this
 ·intro u hu
  unfold bvals at hu
  obtain ⟨c, _, rfl⟩ := List.mem_map.1 hu
  rfl
 ·intro v' w' ho' hg _
  rw [zfh] at ho'
  exact h v' w' (hb.grown (by rw [List.length_append]; exact ho') hg)
theorem zpu {ops : Array Oper} {rest : List Oper} {o : Oper} {a : Act} {w : World} {Q : Exit -> Act -> World -> Prop} (hgd : o.guard = none) (s x : Operand)
  (ho : o.op = .call { callee := .builtin .append, args := #[s, x], argTypes := #[36, 9] })
  (N : Nat) (v : Value) (l : V.Bs) (W0 : World) (hs : a.eval s = v) (hb : BufZ N v l W0 w) (m : V.Bs) (hx : a.eval x = .string ⟨m.toArray⟩) (hl : l.length + m.length ≤ 10000000)
  (h : ∀ v' w', BufZ N v' (l ++ m) W0 w' -> wpList Tryz.prog ops Q rest (a.put o.dst v') w') : wpList Tryz.prog ops Q (o :: rest) a w := by
 obtain ⟨i, hi, hz, h1, h2⟩ := zad
 have hsz : (ByteArray.mk m.toArray).size = m.length := by simp [ByteArray.size]
 refine Lib.wpList_append_own_string w hgd s x 36 9 ho N 5 i Tryz.underlying36 Tryz.underlying9 hi hz h1 h2 v l.length (bvals l) hs hb.1 ⟨m.toArray⟩ hx (by rw [hsz]; unfold maxLen; omega) (by rw [hsz]; omega) hb.2.2 ?_
 intro v' w' ho' hg _
 rw [zne, hsz] at ho'
 exact h v' w' (hb.grown (by rw [List.length_append]; exact ho') hg)
def EncZ (ls : List (List V.Bs)) (w : World) (e : Ending) (w' : World) : Prop :=
 (V.encE ls = 0 -> ∃ u, e = .returned (.tuple #[u, .int .i64 0]) /\ BufZ w.heap.size u (V.doc ls) w w') /\ (¬ V.encE ls = 0 -> e = .returned (.tuple #[.slice none 0 0, .int .i64 (V.encE ls)])) /\ Below w.heap.size w w'
end Go.Proofs.YtiloljoancdcbaaGreatDoor
