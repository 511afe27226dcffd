/-
  Lemmas for the law.
-/
import Derived.Test.YtnhfaincdabdkaaGreatDoorC36x35
import Derived.Test.YtnhfaincdabdkaaGreatDoorC36x36
import Derived.Test.YtnhfaincdabdkaaGreatDoorC36x18
import Derived.Test.YtnhfaincdabdkaaGreatDoorC36x21
import Derived.Test.YtnhfaincdabdkaaGreatDoorC36x16
set_option linter.all false
set_option maxRecDepth 100000
set_option maxHeartbeats 6400000
namespace Go.Proofs.YtnhfaincdabdkaaGreatDoor
open Go.RowKit
def kz (l : List V.Bs) (w : World) (e : Ending) (w' : World) : Prop :=
 ∃ u, e = .returned (.tuple #[affV (V.ug l).1 u, .bool (V.ug l).2]) /\ Itvs w' u (V.ug l).1.its /\ (∀ c, u.ownBlock = some c -> w.heap.size ≤ c) /\ Below w.heap.size w w'
theorem kz.zero {l : List V.Bs} {w w' : World} (h : V.ug l = (V.zA, false)) (hb : Below w.heap.size w w') : kz l w (.returned (.tuple #[.agg #[.int .i64 0, .string ⟨#[]⟩, .int .i64 0, .slice none 0 0], .bool false])) w' :=
 ⟨.slice none 0 0, by rw [h]; rfl, by rw [h]; exact Itvs.nil _, (fun c hc => by cases hc), hb⟩
theorem zp0 (s : V.Bs) : 0 ≤ V.kf s /\ V.kf s ≤ 3 := by
 unfold V.kf
 repeat' split
 all_goals decide
theorem zko {l : List V.Bs} (h : l.length = 4) : ∃ a s n r, l = [a, s, n, r] := by
 match l, h with
 | [a, s, n, r], _ => exact ⟨a, s, n, r, rfl⟩
theorem zp7 {w : World} {v : Value} {a s n r : V.Bs} (h : Strs w v [a, s, n, r]) : ∃ b off cap, v = .slice (some ⟨b, off, none⟩) 4 cap /\ b < w.heap.size /\ w.cell? ⟨b, off, none⟩ = some (.string ⟨a.toArray⟩) /\ w.cell? ⟨b, off + 1, none⟩ = some (.string ⟨s.toArray⟩) /\ w.cell? ⟨b, off + 2, none⟩ = some (.string ⟨n.toArray⟩) /\ w.cell? ⟨b, off + 3, none⟩ = some (.string ⟨r.toArray⟩) := by
 obtain ⟨va, cap, rfl, hat⟩ := h
 obtain ⟨b, off, rfl, hlt, h0⟩ := hat 0 (by simp)
 have hk : ∀ j (hj : j < [a, s, n, r].length), w.cell? ⟨b, off + j, none⟩ = some (.string ⟨([a, s, n, r][j]).toArray⟩) := fun j hj => by
  obtain ⟨b', off', e, _, hc⟩ := hat j hj
  cases e
  exact hc
 exact ⟨b, off, cap, rfl, hlt, h0, hk 1 (by simp), hk 2 (by simp), hk 3 (by simp)⟩
theorem zvg {P : Prop} (h : P := by
 refine tk 11 ?_
 refine rd 12 fun K hK => ?_
 refine zgp rfl yn _ _ rfl w.heap.size #[.int .i64 0, .string ⟨#[]⟩, .int .i64 0, .slice none 0 0] 50 HK.out rfl (.int .i64 sc) (.string ⟨n.toArray⟩) (.int .i64 rs) (.slice up its.length uq) ⟨rfl, rfl, rfl, rfl⟩ rfl rfl ?_
 refine hK.out _ _ ?_ (fun hHeld => nx ?_)
 ·(try dsimp only); exact ⟨(qd _ _ _).cell hHeld.1 (fun e => HNE.out.1 (Option.some.inj e)), (qd _ _ _).cell hHeld.2.1 (fun e => HNE.out.2 (Option.some.inj e)), (qd _ _ _).cell hHeld.2.2 (fun e => HNE.out.2 (Option.some.inj e))⟩
 clear hK K
 refine tk 13 ?_
 refine wpAnyH_done (by kernel_rfl) ?_ _
 go_wp2
 refine bodyPost_ret (v := .tuple #[.agg #[.int .i64 sc, .string ⟨n.toArray⟩, .int .i64 rs, .slice up its.length uq], .bool false]) (kl Tryz.results116 rfl rfl (zdb Tryz.underlying50 yn (setRow_heap _ _ _ _ _ _ HK.out))) rfl ?_
 rw [HRF.out]
 exact ⟨_, rfl, HIT.out.row (qd _ _ _) (fun c hc e => by have := HOW.out c hc; have := HZ.out.1; omega), HOW2.out, qy HBF.out.drew w.heap.size _ (zu0 _) HZ.out.2⟩) : P := h
theorem zvl {P : Prop} (h : P := by
 go_enter Tryz.func116, Tryz.ntmps116
 go_wp2_with (first | (refine ku rfl yn _ _ rfl w.heap.size #[.int .i64 0, .string ⟨#[]⟩, .int .i64 0, .slice none 0 0] 50 HK0.out rfl (.int .i64 0) (.string ⟨#[]⟩) (.int .i64 0) (.slice none 0 0) ⟨rfl, rfl, rfl, rfl⟩ rfl rfl ?_) | fail)
 refine bodyPost_ret (v := .tuple #[.agg #[.int .i64 0, .string ⟨#[]⟩, .int .i64 0, .slice none 0 0], .bool false]) (kl Tryz.results116 rfl rfl (zdb Tryz.underlying50 yn (setRow_heap _ _ _ _ _ _ HK0.out))) rfl ?_
 exact kz.zero HR.out (qy HB0.out w.heap.size _ (zu0 _) (by have := HZ0.out; omega))) : P := h
theorem zhp (v : Value) (l : List V.Bs) (w : World) (hm : zg w) (hv : Strs w v l) (hw : ∀ x ∈ l, x.length ≤ maxLen) :
  Calls Tryz.prog 116 #[v] w (kz l w) := by
 have hb0 : Below w.heap.size w (w.alloc (.cells #[.int .i64 0, .string ⟨#[]⟩, .int .i64 0, .slice none 0 0] 50)) := (zu1 _ w).alloc (zu0 _) _
 have HB0 := zuy hb0
 have HK0 : Hid ((w.alloc (.cells #[.int .i64 0, .string ⟨#[]⟩, .int .i64 0, .slice none 0 0] 50)).heap[w.heap.size]? = some (.cells #[.int .i64 0, .string ⟨#[]⟩, .int .i64 0, .slice none 0 0] 50 (0, 0))) := zuy (heap_alloc_new w _)
 have HM0 := zuy (hm.below hb0)
 have HZ0 : Hid ((w.alloc (.cells #[.int .i64 0, .string ⟨#[]⟩, .int .i64 0, .slice none 0 0] 50)).heap.size = w.heap.size + 1) := zuy (by simp)
 by_cases h4 : l.length = 4
 case neg =>
  have HR := zuy (V.ztg h4)
  obtain ⟨va, cap, rfl, hjunk⟩ := hv
  have q1 : ((l.length : Int) != 4) = true := by simp; omega
  have q2 : ¬ (l.length : Int) = 4 := by omega
  clear hjunk hw h4 hb0 hm
  generalize l.length = m at *
  exact zvl
 obtain ⟨a, s, n, r, rfl⟩ := zko h4
 obtain ⟨b, off, cap, rfl, hblt, c0, c1, c2, c3⟩ := zp7 hv
 have x0 := zb hb0 c0
 have x1 := zb hb0 c1
 have x2 := zb hb0 c2
 have x3 := zb hb0 c3
 have hrl : r.length ≤ maxLen := hw r (by simp)
 have HRL := zuy hrl
 have HBL := zuy hblt
 clear hw hv hb0 h4 c0 c1 c2 c3 hrl hblt hm
 by_cases ha : a = V.affW
 case neg =>
  have HR := zuy (V.zq9 (s := s) (n := n) (r := r) ha)
  have hne : (a == [97, 102, 102, 101, 99, 116, 115]) = false := by rw [zu2]; exact ha
  clear ha x1 x2 x3
  exact zvl
 subst ha
 have hcw : (⟨V.affW.toArray⟩ : ByteArray) = ⟨#[97, 102, 102, 101, 99, 116, 115]⟩ := rfl
 rw [hcw] at x0
 clear hcw
 have HF := zuy (V.zks s n r)
 have hsr := zp0 s
 go_enter Tryz.func116, Tryz.ntmps116
 go_wp2_with fail
 generalize w.alloc (.cells #[.int .i64 0, .string ⟨#[]⟩, .int .i64 0, .slice none 0 0] 50) = w0 at *
 refine (zpd ⟨s.toArray⟩ w0).mono ?_
 rintro e w1 ⟨rfl, hb1⟩
 rw [ww]
 replace x2 := zb hb1 x2
 replace x3 := zb hb1 x3
 have HB1 := zuz HB0 hb1
 have HM1 := zuy (HM0.out.below hb1)
 have hz1 : w.heap.size + 1 ≤ w1.heap.size := by have := hb1.size; have := HZ0.out; omega
 have HK1 := zuy ((hb1.block _ (by have := HZ0.out; omega)).trans HK0.out)
 clear hb1 x0 x1 HB0 HM0 HK0 HZ0
 generalize V.kf s = sc at *
 go_wp2_with fail
 refine (zqw sc r w1 HM1.out HRL.out).mono ?_
 rintro e w2 ⟨u, rfl, hu, how, hb2⟩
 obtain ⟨⟨rs, its, ec⟩, hpp⟩ : ∃ p, V.parP sc r = p := ⟨_, rfl⟩
 rw [hpp] at hu HF ⊢
 simp only at hu HF ⊢
 obtain ⟨up, uq, rfl⟩ := hu.slice
 unfold setV
 have hb3 : Below w1.heap.size w1 (w2.alloc (.cells #[.int .i64 rs, .slice up its.length uq] 48)) := hb2.alloc hb2.size _
 have s0 : (w2.alloc (.cells #[.int .i64 rs, .slice up its.length uq] 48)).cell? ⟨w2.heap.size, 0, none⟩ = some (.int .i64 rs) := by rw [World.cell?_alloc_new]; rfl
 have s1 : (w2.alloc (.cells #[.int .i64 rs, .slice up its.length uq] 48)).cell? ⟨w2.heap.size, 1, none⟩ = some (.slice up its.length uq) := by rw [World.cell?_alloc_new]; rfl
 have y2 := zb hb3 x2
 have HIT := zuy (hu.below ((zu1 _ w2).alloc (zu0 _) (.cells #[.int .i64 rs, .slice up its.length uq] 48)))
 have HOW : Hid (∀ c, (Value.slice up its.length uq).ownBlock = some c -> w1.heap.size ≤ c) := zuy how
 have hz2 := hb2.size
 have hz3 : (w2.alloc (.cells #[.int .i64 rs, .slice up its.length uq] 48)).heap.size = w2.heap.size + 1 := by simp
 have HBF := zuz HB1 hb3
 have HK := zuy ((hb3.block _ (by omega)).trans HK1.out)
 have HOW2 : Hid (∀ c, (Value.slice up its.length uq).ownBlock = some c -> w.heap.size ≤ c) := zuy (fun c hc => by have := how c hc; omega)
 clear hb2 hb3 hu how HB1 HM1 HK1 hpp x2 x3
 go_wp2_with fail
 generalize w2.alloc (.cells #[.int .i64 rs, .slice up its.length uq] 48) = w3 at *
 have HNE : Hid (b ≠ w.heap.size /\ w2.heap.size ≠ w.heap.size) := zuy ⟨by have := HBL.out; omega, by omega⟩
 have HZ : Hid (w.heap.size < w1.heap.size /\ w.heap.size < w3.drew.heap.size) := zuy ⟨by omega, by show _ < w3.heap.size; omega⟩
 generalize w2.heap.size = Y at *
 replace HK := zuy (show w3.drew.heap[w.heap.size]? = some (.cells #[.int .i64 0, .string ⟨#[]⟩, .int .i64 0, .slice none 0 0] 50 (0, 0)) from HK.out)
 replace HIT := zuy (HIT.out.below (zu1 _ w3).drew)
 clear hz1 hz2 hz3
 by_cases hp : 0 < sc
 ·have HSC := zuy hp
  by_cases he : ec = 0
  ·have HEC := zuy he
   have HRF : Hid (kz [V.affW, s, n, r] w = fun e w' => ∃ u, e = .returned (.tuple #[affV ⟨sc, n, rs, its⟩ u, .bool true]) /\ Itvs w' u its /\ (∀ c, u.ownBlock = some c -> w.heap.size ≤ c) /\ Below w.heap.size w w') := zuy (by unfold kz; rw [HF.out]; simp [hp, he])
   clear hp he HF
   refine wp_region_held_drew (S := (fun W' => W'.cell? ⟨b, off + 2, none⟩ = some (.string ⟨n.toArray⟩) /\ W'.cell? ⟨Y, 0, none⟩ = some (.int .i64 rs) /\ W'.cell? ⟨Y, 1, none⟩ = some (.slice up its.length uq))) (by kernel_rfl) (by (try dsimp only); exact ⟨zb (zu1 _ _).drew y2, zb (zu1 _ _).drew s0, zb (zu1 _ _).drew s1⟩) (fun hHeld => ?_)
   refine tk 0 ?_
   refine tk 1 ?_
   refine tk 2 ?_
   refine tk 3 ?_
   refine tk 4 ?_
   refine tk 5 ?_
   refine tk 6 ?_
   refine wpAnyH_take (i := 7) (v := (.bool true)) rfl (by kernel_rfl) (by kernel_rfl) (by kernel_rfl) (fun _ _ _ h => h) (Or.inl ⟨by rfl, fun w' hSw => by have e := HSC.out; go_simp; try rfl⟩) (by assumption) ?_
   try simp only [zut, zuu, zuv, Act.put, zuw, List.set_cons_succ, List.set_cons_zero]
   refine tk 8 ?_
   refine tk 9 ?_
   refine wpAnyH_take (i := 10) (v := (.bool true)) rfl (by kernel_rfl) (by kernel_rfl) (by kernel_rfl) (fun _ _ _ h => h) (Or.inl ⟨by rfl, fun w' hSw => by have e := HEC.out; go_simp; try rfl⟩) (by assumption) ?_
   try simp only [zut, zuu, zuv, Act.put, zuw, List.set_cons_succ, List.set_cons_zero]
   refine tk 11 ?_
   refine rd 12 fun K hK => ?_
   refine zgp rfl yn _ _ rfl w.heap.size #[.int .i64 0, .string ⟨#[]⟩, .int .i64 0, .slice none 0 0] 50 HK.out rfl (.int .i64 sc) (.string ⟨n.toArray⟩) (.int .i64 rs) (.slice up its.length uq) ⟨rfl, rfl, rfl, rfl⟩ rfl rfl ?_
   refine hK.out _ _ ?_ (fun hHeld => nx ?_)
   ·(try dsimp only); exact ⟨(qd _ _ _).cell hHeld.1 (fun e => HNE.out.1 (Option.some.inj e)), (qd _ _ _).cell hHeld.2.1 (fun e => HNE.out.2 (Option.some.inj e)), (qd _ _ _).cell hHeld.2.2 (fun e => HNE.out.2 (Option.some.inj e))⟩
   clear hK K
   refine tk 13 ?_
   refine wpAnyH_done (by kernel_rfl) ?_ _
   go_wp2
   refine bodyPost_ret (v := .tuple #[.agg #[.int .i64 sc, .string ⟨n.toArray⟩, .int .i64 rs, .slice up its.length uq], .bool true]) (kl Tryz.results116 rfl rfl (zdb Tryz.underlying50 yn (setRow_heap _ _ _ _ _ _ HK.out))) rfl ?_
   rw [HRF.out]
   exact ⟨_, rfl, HIT.out.row (qd _ _ _) (fun c hc e => by have := HOW.out c hc; have := HZ.out.1; omega), HOW2.out, qy HBF.out.drew w.heap.size _ (zu0 _) HZ.out.2⟩
  ·have HEC := zuy he
   have HRF : Hid (kz [V.affW, s, n, r] w = fun e w' => ∃ u, e = .returned (.tuple #[affV ⟨sc, n, rs, its⟩ u, .bool false]) /\ Itvs w' u its /\ (∀ c, u.ownBlock = some c -> w.heap.size ≤ c) /\ Below w.heap.size w w') := zuy (by unfold kz; rw [HF.out]; simp [he])
   clear hp he HF
   refine wp_region_held_drew (S := (fun W' => W'.cell? ⟨b, off + 2, none⟩ = some (.string ⟨n.toArray⟩) /\ W'.cell? ⟨Y, 0, none⟩ = some (.int .i64 rs) /\ W'.cell? ⟨Y, 1, none⟩ = some (.slice up its.length uq))) (by kernel_rfl) (by (try dsimp only); exact ⟨zb (zu1 _ _).drew y2, zb (zu1 _ _).drew s0, zb (zu1 _ _).drew s1⟩) (fun hHeld => ?_)
   refine tk 0 ?_
   refine tk 1 ?_
   refine tk 2 ?_
   refine tk 3 ?_
   refine tk 4 ?_
   refine tk 5 ?_
   refine tk 6 ?_
   refine wpAnyH_take (i := 7) (v := (.bool true)) rfl (by kernel_rfl) (by kernel_rfl) (by kernel_rfl) (fun _ _ _ h => h) (Or.inl ⟨by rfl, fun w' hSw => by have e := HSC.out; go_simp; try rfl⟩) (by assumption) ?_
   try simp only [zut, zuu, zuv, Act.put, zuw, List.set_cons_succ, List.set_cons_zero]
   refine tk 8 ?_
   refine tk 9 ?_
   refine wpAnyH_take (i := 10) (v := (.bool false)) rfl (by kernel_rfl) (by kernel_rfl) (by kernel_rfl) (fun _ _ _ h => h) (Or.inl ⟨by rfl, fun w' hSw => by have e := HEC.out; go_simp; try rfl⟩) (by assumption) ?_
   try simp only [zut, zuu, zuv, Act.put, zuw, List.set_cons_succ, List.set_cons_zero]
   exact zvg
 ·have HSC := zuy hp
  have HRF : Hid (kz [V.affW, s, n, r] w = fun e w' => ∃ u, e = .returned (.tuple #[affV ⟨sc, n, rs, its⟩ u, .bool false]) /\ Itvs w' u its /\ (∀ c, u.ownBlock = some c -> w.heap.size ≤ c) /\ Below w.heap.size w w') := zuy (by unfold kz; rw [HF.out]; simp [hp])
  clear hp HF
  refine wp_region_held_drew (S := (fun W' => W'.cell? ⟨b, off + 2, none⟩ = some (.string ⟨n.toArray⟩) /\ W'.cell? ⟨Y, 0, none⟩ = some (.int .i64 rs) /\ W'.cell? ⟨Y, 1, none⟩ = some (.slice up its.length uq))) (by kernel_rfl) (by (try dsimp only); exact ⟨zb (zu1 _ _).drew y2, zb (zu1 _ _).drew s0, zb (zu1 _ _).drew s1⟩) (fun hHeld => ?_)
  refine tk 0 ?_
  refine tk 1 ?_
  refine tk 2 ?_
  refine tk 3 ?_
  refine tk 4 ?_
  refine tk 5 ?_
  refine tk 6 ?_
  refine wpAnyH_take (i := 7) (v := (.bool false)) rfl (by kernel_rfl) (by kernel_rfl) (by kernel_rfl) (fun _ _ _ h => h) (Or.inl ⟨by rfl, fun w' hSw => by have e := HSC.out; go_simp; try rfl⟩) (by assumption) ?_
  try simp only [zut, zuu, zuv, Act.put, zuw, List.set_cons_succ, List.set_cons_zero]
  refine tk 8 ?_
  refine tu 9 ?_
  refine tu 10 ?_
  exact zvg
theorem V.docSz_max {ls : List (List V.Bs)} {M : Nat} (h : ∀ x ∈ ls, V.kc x x.length ≤ M) : ∀ k, k ≤ ls.length -> V.ks ls k ≤ k * M
 | 0, _ => by simp [V.ks]
 | k + 1, hk => by
  rw [V.za2 (by omega)]
  have h1 := V.docSz_max h k (by omega)
  have h2 := h _ (List.getElem_mem (show k < ls.length by omega))
  rw [Nat.succ_mul]
  omega
theorem V.lineSz_max {x : List V.Bs} {M : Nat} (h : ∀ u ∈ x, V.zaa u + 1 ≤ M) : V.kc x x.length ≤ x.length * M := by
 unfold V.kc
 rw [List.take_length]
 induction x with
 | nil => simp
 | cons u x ih =>
  rw [List.map_cons, List.sum_cons, List.length_cons, Nat.succ_mul]
  have h1 := h u (List.mem_cons_self ..)
  have h2 := ih fun v hv => h v (List.mem_cons_of_mem _ hv)
  omega
theorem V.ok_size {ls : List (List V.Bs)} (h : ls.length ≤ 1000) (hl : ∀ l ∈ ls, 0 < l.length /\ l.length ≤ 120 /\ ∀ w ∈ l, w.length ≤ 32768) : V.ks ls ls.length ≤ 12000000000 := by
 have := V.docSz_max (ls := ls) (M := 11797000) (fun x hx => by
   have hx := hl x hx
   have a := V.lineSz_max (x := x) (M := 98306) (fun u hu => by have := V.wi u; have := hx.2.2 u hu; omega)
   have b : x.length * 98306 ≤ 120 * 98306 := Nat.mul_le_mul_right _ hx.2.1
   omega) _ (zu0 _)
 have c : ls.length * 11797000 ≤ 1000 * 11797000 := Nat.mul_le_mul_right _ h
 omega
theorem zyb {P : Prop} (h : P := by
 go_enter Tryz.func92, Tryz.ntmps92
 go_wp2
 go_ret
 exact ⟨by rw [HC.out]; rfl, rfl⟩) : P := h
theorem zm1 (v : Value) (l : List V.Bs) (w : World) (hv : Strs w v l) (hx : ∀ x ∈ l, x.length ≤ maxLen) :
  Calls Tryz.prog 92 #[v] w fun e w' => e = .returned (.int .i64 (V.chk l)) /\ w' = w := by
 obtain ⟨va, vc, rfl, hat⟩ := hv
 have HA := zuy hat
 clear hat
 by_cases h0 : l.length = 0
 ·have HC : Hid (V.chk l = 1) := zuy (by unfold V.chk; rw [if_pos h0])
  exact zyb
 ·have hn0 : ((l.length : Int) == 0) = false := by rw [zu2]; omega
  by_cases h1 : 120 < l.length
  ·have HC : Hid (V.chk l = 3) := zuy (by unfold V.chk; rw [if_neg h0, if_pos h1])
   have hn1 : (120 : Int) < (l.length : Int) := by omega
   exact zyb
  ·have hn1 : ¬ (120 : Int) < (l.length : Int) := by omega
   have HC1 : Hid (∀ j (h : j < l.length), 32768 < l[j].length -> V.chk l = 3) := zuy (fun j h hj => by
     unfold V.chk
     rw [if_neg h0, if_neg h1, if_neg]
     intro e
     rw [List.all_eq_true] at e
     have := e _ (List.getElem_mem h)
     simp at this
     omega)
   have HC0 : Hid ((∀ j (h : j < l.length), l[j].length ≤ 32768) -> V.chk l = 0) := zuy (fun h => by
     unfold V.chk
     rw [if_neg h0, if_neg h1, if_pos]
     rw [List.all_eq_true]
     intro x hx
     obtain ⟨j, hj, rfl⟩ := List.mem_iff_getElem.1 hx
     simpa using h j hj)
   have HX := zuy hx
   clear h0 h1 hx
   go_enter Tryz.func92, Tryz.ntmps92
   go_wp2
   go_loop [15] (fun iv => ∃ k : Nat, k ≤ l.length /\ iv = .int .i64 k /\ ∀ j (h : j < l.length), j < k -> l[j].length ≤ 32768) (fun iv => l.length - (intOf iv).toNat)
   case atStart => exact ⟨0, Nat.zero_le _, rfl, fun j h hj => absurd hj (by omega)⟩
   case round =>
    obtain ⟨k, hk, rfl, hpre⟩ := hrel
    have HPRE := zuy hpre
    clear hpre
    by_cases hlt : k < l.length
    ·obtain ⟨b, off, rfl, hb, hc⟩ := HA.out k hlt
     have hxm := HX.out _ (List.getElem_mem hlt)
     have HC3 := zuy (HC1.out k hlt)
     have HNX : Hid (l[k].length ≤ 32768 -> ∀ j (h : j < l.length), j < k + 1 -> l[j].length ≤ 32768) := zuy (fun e j h hj => by
       rcases Nat.lt_or_ge j k with g | g
       · exact HPRE.out j h g
       · obtain rfl : j = k := by omega
         exact e)
     have hi1 : (0 : Int) ≤ (k : Int) := by omega
     have hi2 : (k : Int) < (l.length : Int) := by omega
     generalize l[k] = x at *
     unfold maxLen at hxm
     have hxs := zch x
     by_cases hbg : 32768 < x.length
     ·have hq := HC3.out hbg
      have hx2 : (32768 : Int) < (x.length : Int) := by omega
      have hx3 : (32768 : Int) < ((ByteArray.mk x.toArray).size : Int) := by rw [hxs]; omega
      have HQ := zuy hq
      clear hq
      go_wp2
      go_ret
      exact ⟨by rw [HQ.out]; rfl, rfl⟩
     ·have hx2 : ¬ (32768 : Int) < (x.length : Int) := by omega
      have hx3 : ¬ (32768 : Int) < ((ByteArray.mk x.toArray).size : Int) := by rw [hxs]; omega
      have HN2 := zuy (HNX.out (by omega))
      go_wp2
      go_round
      case rel => exact ⟨k + 1, by omega, by go_num, HN2.out⟩
      case measure => simp [intOf]; omega
    ·obtain rfl : k = l.length := by omega
     have HQ := zuy (HC0.out (fun j h => HPRE.out j h h))
     go_wp2
     go_ret
     exact ⟨by rw [HQ.out]; rfl, rfl⟩
def EncG (ls : List (List V.Bs)) (w : World) (e : Ending) (w' : World) : Prop :=
 (V.encE ls = 0 -> ∃ u, e = .returned (.tuple #[u, .int .i64 0]) /\ Buf w.heap.size u (V.doc ls) w w') /\ (¬ V.encE ls = 0 -> e = .returned (.tuple #[.slice none 0 0, .int .i64 (V.encE ls)])) /\ Below w.heap.size w w'
theorem V.encE_many {ls : List (List V.Bs)} (h : 1000 < ls.length) : V.encE ls = 3 := by unfold V.encE; rw [if_pos h]
theorem V.encE_bad {ls : List (List V.Bs)} (h : ¬ 1000 < ls.length) (hb : ¬ V.qa ls = 0) : V.encE ls = V.qa ls := by unfold V.encE; rw [if_neg h, if_neg hb]
theorem V.encE_big {ls : List (List V.Bs)} (h : ¬ 1000 < ls.length) (hb : V.qa ls = 0) (hs : 262144 < V.ks ls ls.length) : V.encE ls = 3 := by unfold V.encE; rw [if_neg h, if_pos hb, if_pos hs]
theorem V.encE_ok {ls : List (List V.Bs)} (h : ¬ 1000 < ls.length) (hb : V.qa ls = 0) (hs : ¬ 262144 < V.ks ls ls.length) : V.encE ls = 0 := by unfold V.encE; rw [if_neg h, if_pos hb, if_neg hs]
theorem zsd (v : Value) (ls : List (List V.Bs)) (w : World) (hv : Lines w v ls) (hx : ∀ l ∈ ls, ∀ x ∈ l, x.length ≤ maxLen) :
  Calls Tryz.prog 60 #[v] w (EncG ls w) := by
 by_cases h1000 : 1000 < ls.length
 ·obtain ⟨va, vc, rfl, hat⟩ := hv
  have HE := zuy (V.encE_many h1000)
  have hn1 : (1000 : Int) < (ls.length : Int) := by omega
  clear hat hx
  go_enter Tryz.func60, Tryz.ntmps60
  go_wp2
  go_ret2
  exact ⟨fun h => (by rw [HE.out] at h; cases h), fun _ => by rw [HE.out]; rfl, zu1 _ _⟩
 by_cases hok : V.qa ls = 0 /\ ¬ 262144 < V.ks ls ls.length
 ·have he := V.encE_ok h1000 hok.1 hok.2
  refine (zld v ls w hv (V.zgc he)).mono ?_
  rintro e w' ⟨u, rfl, hb⟩
  exact ⟨fun _ => ⟨u, rfl, hb⟩, fun h => absurd he h, hb.2.1⟩
 have HBIG : Hid (V.qa ls = 0 -> V.encE ls = 3 /\ 262144 < V.ks ls ls.length) := zuy (fun h => by
   have : 262144 < V.ks ls ls.length := Nat.lt_of_not_le fun e => hok ⟨h, by omega⟩
   exact ⟨V.encE_big h1000 h this, this⟩)
 have HBAD := zuy (V.encE_bad h1000 (ls := ls))
 have HL := zuy hv
 have HXL := zuy hx
 obtain ⟨va, vc, rfl, hat⟩ := hv
 have HA := zuy hat
 have hn : ls.length ≤ 1000 := by omega
 have hn1 : ¬ (1000 : Int) < (ls.length : Int) := by omega
 clear hat hok h1000 hx
 go_enter Tryz.func60, Tryz.ntmps60
 go_wp2
 go_loop [22] (fun iv => ∃ k : Nat, k ≤ ls.length /\ iv = .int .i64 k /\ V.qa ls = V.qa (ls.drop k)) (fun iv => ls.length - (intOf iv).toNat)
 case atStart => exact ⟨0, Nat.zero_le _, rfl, rfl⟩
 case round =>
  obtain ⟨k, hk, rfl, hfb⟩ := hrel
  have HFB := zuy hfb
  clear hfb
  by_cases hlt : k < ls.length
  ·obtain ⟨b, off, u, rfl, hb, hc, hs⟩ := HA.out k hlt
   have HX := zuy (HXL.out _ (List.getElem_mem hlt))
   have HAT := zuy (V.zp2 hlt HFB.out)
   have HS := zuy hs
   have hi1 : (0 : Int) ≤ (k : Int) := by omega
   have hi2 : (k : Int) < (ls.length : Int) := by omega
   generalize ls[k] = l at *
   clear hs
   go_wp2_with fail
   refine (zm1 u l w HS.out HX.out).mono ?_
   rintro e w' ⟨rfl, rfl⟩
   by_cases hck : V.chk l = 0
   ·have HN := zuy (HAT.out.1 hck)
    clear HAT
    rw [hck]
    clear hck
    go_wp2
    go_round
    case rel => exact ⟨k + 1, by omega, by go_num, HN.out⟩
    case measure => simp [intOf]; omega
   ·have hf := HAT.out.2 hck
    have HE : Hid (V.encE ls = V.chk l) := zuy (by rw [HBAD.out (by rw [hf]; exact hck), hf])
    have hcb : (V.chk l == 0) = false := by rw [zu2]; exact hck
    have HCK := zuy hck
    clear hf HAT
    generalize V.chk l = ck at *
    go_wp2
    go_ret2
    exact ⟨fun h => (by rw [HE.out] at h; exact absurd h HCK.out), fun _ => by rw [HE.out]; rfl, zu1 _ _⟩
  ·obtain rfl : k = ls.length := by omega
   have hz : V.qa ls = 0 := by rw [HFB.out, List.drop_length]; rfl
   have HE := zuy (HBIG.out hz)
   have HOK : Hid (∀ l ∈ ls, 0 < l.length /\ l.length ≤ 120 /\ ∀ w ∈ l, w.length ≤ 32768) := zuy (fun l hl => V.zdn.1 (V.ym.1 hz l hl))
   have hmax := V.ok_size hn HOK.out
   clear hz
   go_wp2
   go_loop [7, 34] (fun tv iv => ∃ k : Nat, k ≤ ls.length /\ iv = .int .i64 k /\ tv = .int .i64 (V.ks ls k : Nat)) (fun _ iv => ls.length - (intOf iv).toNat)
   case atStart => exact ⟨0, Nat.zero_le _, rfl, rfl⟩
   case round =>
    obtain ⟨k, hk, rfl, rfl⟩ := hrel
    have htot := V.zdd (j := k) hk (zu0 ls.length)
    by_cases hlt : k < ls.length
    ·obtain ⟨b, off, u, rfl, hb, hc, hs⟩ := HA.out k hlt
     have HX := zuy (HOK.out _ (List.getElem_mem hlt))
     exact zvd
    ·obtain rfl : k = ls.length := by omega
     have hbig : (262144 : Int) < (V.ks ls ls.length : Int) := by have := HE.out.2; omega
     obtain ⟨q, hq⟩ : ∃ q, q = V.ks ls ls.length := ⟨_, rfl⟩
     rw [← hq] at hbig ⊢
     clear hlt hk htot hq
     go_wp2
     go_ret2
     exact ⟨fun h => (by rw [HE.out.1] at h; cases h), fun _ => by rw [HE.out.1]; rfl, zu1 _ _⟩
open Go.RowKit
end Go.Proofs.YtnhfaincdabdkaaGreatDoor
