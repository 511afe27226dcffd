import Derived.Test.YtcfbkcapbbhmpaaGreatDoorC39x13
import Derived.Test.YtcfbkcapbbhmpaaGreatDoorC39x11
import Derived.Test.YtcfbkcapbbhmpaaGreatDoorC39x14
import Derived.Test.YtcfbkcapbbhmpaaGreatDoorC39x27
import Derived.Test.YtcfbkcapbbhmpaaGreatDoorC39x29
import Derived.Test.YtcfbkcapbbhmpaaGreatDoorC39x07
import Derived.Test.YtcfbkcapbbhmpaaGreatDoorC39x28
import Derived.Test.YtcfbkcapbbhmpaaGreatDoorC39x22
import Derived.Test.YtcfbkcapbbhmpaaGreatDoorC39x26
import Derived.Laws.StructEq
set_option linter.all false
set_option maxRecDepth 100000
set_option maxHeartbeats 6400000
namespace Go.Proofs.YtcfbkcapbbhmpaaGreatDoor
open Go.RowKit
theorem zpr (n : Int) (v v' : Value) (l : List V.Itv) (w : World) (hv : Itvs w v l) (hv' : Itvs w v' l) (hl : l.length ≤ maxLen) :
  Calls Tryz.prog 36 #[setV n v, setV n v'] w fun e w' => e = .returned (.bool true) /\ Below w.heap.size w w' := by
 obtain ⟨va, vc, rfl⟩ := hv.slice
 obtain ⟨va', vc', rfl⟩ := hv'.slice
 obtain ⟨hb, h0, h1⟩ := zdq (w := w) (.cells #[.int .i64 n, .slice va l.length vc] 45) (.cells #[.int .i64 n, .slice va' l.length vc'] 45)
 have HB := zwe hb
 have c0 := (h0 0).trans (World.cell?_alloc_new ..)
 have c1 := (h0 1).trans (World.cell?_alloc_new ..)
 have d0 := (h1 0).trans (World.cell?_alloc_new ..)
 have d1 := (h1 1).trans (World.cell?_alloc_new ..)
 simp only [List.getElem?_toArray, List.getElem?_cons_zero, List.getElem?_cons_succ] at c0 c1 d0 d1
 have HV := zwe (hv.below hb)
 have HV' := zwe (hv'.below hb)
 unfold maxLen at hl
 clear hb h0 h1 hv hv'
 unfold setV
 go_enter Tryz.func36, Tryz.ntmps36
 go_wp2_with fail
 generalize (w.alloc (.cells #[.int .i64 n, .slice va l.length vc] 45)).alloc (.cells #[.int .i64 n, .slice va' l.length vc'] 45) = w0 at *
 go_loopw [5] (fun iv W => ∃ k : Nat, k ≤ l.length /\ iv = .int .i64 k /\ Below w0.heap.size w0 W) (fun iv _ => l.length - (intOf iv).toNat)
 case atStart => exact ⟨0, Nat.zero_le _, rfl, zwh _ _⟩
 case round =>
  obtain ⟨k, hk, rfl, hbr⟩ := hrel
  have HBR := zwe hbr
  replace c1 := zb hbr c1
  replace d1 := zb hbr d1
  clear hbr
  by_cases hlt : k < l.length
  ·obtain ⟨b, off, rfl, hb0, hx⟩ := HV.out.at k hlt
   obtain ⟨b', off', rfl, hb0', hy⟩ := HV'.out.at k hlt
   replace hx := hx.below hb0 HBR.out
   replace hy := hy.below hb0' HBR.out
   have i1 : (0 : Int) ≤ (k : Int) := by omega
   have i2 : (k : Int) < (l.length : Int) := by omega
   have wr1 : IntKind.i64.wrap ((k : Int) + 1) = (k : Int) + 1 := IntWalk.i64_in _ (by omega)
   generalize l[k] = x at *
   unfold zca at hx hy
   clear HV HV' c0 d0
   go_wp2_with fail
   refine wp_region_held_drew (S := (fun W' => W'.cell? ⟨w.heap.size, 1, none⟩ = some (.slice (some ⟨b, off, none⟩) l.length vc) /\ W'.cell? ⟨w.heap.size + 1, 1, none⟩ = some (.slice (some ⟨b', off', none⟩) l.length vc') /\ W'.cell? ⟨b, off + k * 4, none⟩ = some (.string ⟨x.lo.toArray⟩) /\ W'.cell? ⟨b, off + k * 4 + 1, none⟩ = some (.int .i64 x.lk) /\ W'.cell? ⟨b, off + k * 4 + 2, none⟩ = some (.string ⟨x.hi.toArray⟩) /\ W'.cell? ⟨b, off + k * 4 + 3, none⟩ = some (.int .i64 x.hk) /\ W'.cell? ⟨b', off' + k * 4, none⟩ = some (.string ⟨x.lo.toArray⟩) /\ W'.cell? ⟨b', off' + k * 4 + 1, none⟩ = some (.int .i64 x.lk) /\ W'.cell? ⟨b', off' + k * 4 + 2, none⟩ = some (.string ⟨x.hi.toArray⟩) /\ W'.cell? ⟨b', off' + k * 4 + 3, none⟩ = some (.int .i64 x.hk))) (by kernel_rfl) (by (try dsimp only); (try simp only [World.cell?_drew]); exact ⟨c1, d1, hx.1, hx.2.1, hx.2.2.1, hx.2.2.2, hy.1, hy.2.1, hy.2.2.1, hy.2.2.2⟩) (fun hHeld => ?_)
   refine tk 0 ?_
   refine tk 1 ?_
   refine tk 2 ?_
   refine tk 3 ?_
   refine tk 4 ?_
   refine tk 5 ?_
   refine tk 6 ?_
   refine tk 7 ?_
   refine tk 8 ?_
   refine tk 9 ?_
   refine tk 10 ?_
   refine wpAnyH_done (by kernel_rfl) ?_ _
   go_wp2
   go_roundw
   case rel => exact ⟨k + 1, by omega, by go_num, HBR.out.drew⟩
   case measure => simp [intOf]; omega
  ·obtain rfl : k = l.length := by omega
   go_wp2
   go_ret
   exact ⟨zc rfl, HB.out.trans (HBR.out.mono HB.out.size)⟩
theorem zfr (x : V.Adv) (v v' : Value) (w : World) (hv : Affs w v x.aff) (hv' : Affs w v' x.aff) (hl : x.aff.length ≤ maxLen) :
  Calls Tryz.prog 11 #[advV x v, advV x v'] w fun e w' => e = .returned (.bool true) /\ Below w.heap.size w w' := by
 obtain ⟨pa, pc, rfl⟩ := hv.slice
 obtain ⟨pa', pc', rfl⟩ := hv'.slice
 obtain ⟨hb, h0, h1⟩ := zdq (w := w) (.cells #[.string ⟨x.id.toArray⟩, .int .i64 x.rev, .int .i64 x.sev, .slice pa x.aff.length pc] 29) (.cells #[.string ⟨x.id.toArray⟩, .int .i64 x.rev, .int .i64 x.sev, .slice pa' x.aff.length pc'] 29)
 have HB := zwe hb
 have c0 := (h0 0).trans (World.cell?_alloc_new ..)
 have c1 := (h0 1).trans (World.cell?_alloc_new ..)
 have c2 := (h0 2).trans (World.cell?_alloc_new ..)
 have c3 := (h0 3).trans (World.cell?_alloc_new ..)
 have d0 := (h1 0).trans (World.cell?_alloc_new ..)
 have d1 := (h1 1).trans (World.cell?_alloc_new ..)
 have d2 := (h1 2).trans (World.cell?_alloc_new ..)
 have d3 := (h1 3).trans (World.cell?_alloc_new ..)
 simp only [List.getElem?_toArray, List.getElem?_cons_zero, List.getElem?_cons_succ] at c0 c1 c2 c3 d0 d1 d2 d3
 have HV := zwe (hv.below hb)
 have HV' := zwe (hv'.below hb)
 unfold maxLen at hl
 clear hb h0 h1 hv hv'
 unfold advV
 go_enter Tryz.func11, Tryz.ntmps11
 go_wp2_with fail
 generalize (w.alloc (.cells #[.string ⟨x.id.toArray⟩, .int .i64 x.rev, .int .i64 x.sev, .slice pa x.aff.length pc] 29)).alloc (.cells #[.string ⟨x.id.toArray⟩, .int .i64 x.rev, .int .i64 x.sev, .slice pa' x.aff.length pc'] 29) = w0 at *
 clear c0 c1 c2 d0 d1 d2
 go_loopw [5] (fun iv W => ∃ k : Nat, k ≤ x.aff.length /\ iv = .int .i64 k /\ Below w0.heap.size w0 W) (fun iv _ => x.aff.length - (intOf iv).toNat)
 case atStart => exact ⟨0, Nat.zero_le _, rfl, zwh _ _⟩
 case round =>
  obtain ⟨k, hk, rfl, hbr⟩ := hrel
  have HBR := zwe hbr
  replace c3 := zb hbr c3
  replace d3 := zb hbr d3
  clear hbr
  by_cases hlt : k < x.aff.length
  ·obtain ⟨hwf, b, off, ua, uc, rfl, hb0, hx⟩ := HV.out.at k hlt
   obtain ⟨_, b', off', ua', uc', rfl, hb0', hy⟩ := HV'.out.at k hlt
   have HA := zwe (hx.below HBR.out)
   have HA' := zwe (hy.below HBR.out)
   have HW := zwe hwf
   have i1 : (0 : Int) ≤ (k : Int) := by omega
   have i2 : (k : Int) < (x.aff.length : Int) := by omega
   have wr1 : IntKind.i64.wrap ((k : Int) + 1) = (k : Int) + 1 := IntWalk.i64_in _ (by omega)
   clear hx hy hwf HV HV'
   generalize x.aff[k] = a at *
   go_wp2_with fail
   refine wp_region_held_drew (S := (fun W' => Below wr.heap.size wr W' /\ W'.cell? ⟨w.heap.size, 3, none⟩ = some (.slice (some ⟨b, off, none⟩) x.aff.length pc) /\ W'.cell? ⟨w.heap.size + 1, 3, none⟩ = some (.slice (some ⟨b', off', none⟩) x.aff.length pc') /\ W'.cell? ⟨b, off + k * 4, none⟩ = some (.int .i64 a.sch) /\ W'.cell? ⟨b, off + k * 4 + 1, none⟩ = some (.string ⟨a.name.toArray⟩) /\ W'.cell? ⟨b, off + k * 4 + 2, none⟩ = some (.int .i64 a.rs) /\ W'.cell? ⟨b, off + k * 4 + 3, none⟩ = some (.slice ua a.its.length uc) /\ W'.cell? ⟨b', off' + k * 4, none⟩ = some (.int .i64 a.sch) /\ W'.cell? ⟨b', off' + k * 4 + 1, none⟩ = some (.string ⟨a.name.toArray⟩) /\ W'.cell? ⟨b', off' + k * 4 + 2, none⟩ = some (.int .i64 a.rs) /\ W'.cell? ⟨b', off' + k * 4 + 3, none⟩ = some (.slice ua' a.its.length uc'))) (by kernel_rfl) (by (try dsimp only); exact ⟨(zwh _ _).drew, zb (zwh _ _).drew c3, zb (zwh _ _).drew d3, zb (zwh _ _).drew HA.out.c0, zb (zwh _ _).drew HA.out.c1, zb (zwh _ _).drew HA.out.c2, zb (zwh _ _).drew HA.out.c3, zb (zwh _ _).drew HA'.out.c0, zb (zwh _ _).drew HA'.out.c1, zb (zwh _ _).drew HA'.out.c2, zb (zwh _ _).drew HA'.out.c3⟩) (fun hHeld => ?_)
   refine tk 0 ?_
   refine tk 1 ?_
   refine tk 2 ?_
   refine tk 3 ?_
   refine tk 4 ?_
   refine tk 5 ?_
   refine tk 6 ?_
   refine tk 7 ?_
   refine tk 8 ?_
   refine tk 9 ?_
   refine tk 10 ?_
   refine tk 11 ?_
   refine tk 12 ?_
   refine tk 13 ?_
   refine tk 14 ?_
   refine tk 15 ?_
   refine tk 16 ?_
   refine tk 17 ?_
   refine tk 18 ?_
   refine tk 19 ?_
   refine tk 20 ?_
   refine tk 21 ?_
   refine tk 22 ?_
   refine tk 23 ?_
   refine tk 24 ?_
   refine tk 25 ?_
   refine tk 26 ?_
   refine tk 27 ?_
   refine tk 28 ?_
   refine tk 29 ?_
   refine tk 30 ?_
   refine tk 31 ?_
   refine tk 32 ?_
   refine tk 33 ?_
   refine tk 34 ?_
   refine tk 35 ?_
   refine tk 36 ?_
   refine tk 37 ?_
   refine tk 38 ?_
   refine tk 39 ?_
   refine tk 40 ?_
   refine rd 41 fun K hK => ?_
   go_simp
   refine (zpr a.rs (.slice ua a.its.length uc) (.slice ua' a.its.length uc') a.its _ (HA.out.its.below (show Below wr.heap.size wr _ from (by first | assumption | exact And.left (by assumption)))) (HA'.out.its.below (show Below wr.heap.size wr _ from (by first | assumption | exact And.left (by assumption)))) HW.out.len).mono ?_
   rintro e wr41 ⟨rfl, hbr41⟩
   try dsimp only
   refine hK.out _ _ ?_ (fun hHeld => nx ?_)
   ·(try dsimp only); go_split_ands; exact ⟨Below.trans (by assumption) (hbr41.mono (Below.size (by assumption))), zwk hbr41, zwk hbr41, zwk hbr41, zwk hbr41, zwk hbr41, zwk hbr41, zwk hbr41, zwk hbr41, zwk hbr41, zwk hbr41⟩
   clear hK K
   refine tk 42 ?_
   refine tk 43 ?_
   refine wpAnyH_done (by kernel_rfl) ?_ _
   have HBZ := zwe (HBR.out.trans (hHeld.1.mono HBR.out.size))
   clear hHeld
   go_wp2
   go_roundw
   case rel => exact ⟨k + 1, by omega, by go_num, HBZ.out⟩
   case measure => simp [intOf]; omega
  ·obtain rfl : k = x.aff.length := by omega
   go_wp2
   go_ret
   exact ⟨zc rfl, HB.out.trans (HBR.out.mono HB.out.size)⟩
open Go.RowKit
theorem V.decV_facts (bs : V.Bs) : (V.decV bs).1.id.length ≤ maxLen /\ (V.decV bs).1.aff.length ≤ maxLen := by
 obtain ⟨⟨ls, c⟩, h⟩ : ∃ p, V.decP bs = p := ⟨_, rfl⟩
 have h1 := V.decP_words (bs := bs)
 have h2 := V.decP_len bs
 rw [h] at h1 h2
 have hz : (V.zV).id.length ≤ maxLen /\ (V.zV).aff.length ≤ maxLen := by decide
 by_cases hc : c = 0
 ·subst hc
  cases hr : V.jm ls with
  | none => rw [V.zh2 h hr]; exact hz
  | some x =>
   rw [V.zfc h hr]
   split
   ·exact V.readV_facts h1 h2 hr
   ·exact hz
 ·rw [V.zlb h hc]; exact hz
theorem zsc (x n : Int) (w : World) (hx : (Lit.int .i64 x).wf = true) (h1 : 1 ≤ n) (h2 : n ≤ 1000000) :
  Calls Tryz.prog 7 #[.int .i64 x, .int .i64 n] w fun e w' => ∃ r : Nat, e = .returned (.int .i64 r) /\ (r : Int) < n /\ w' = w := by
 have hz : -9223372036854775808 ≤ x /\ x ≤ 9223372036854775807 := by simpa [Lit.wf, IntKind.min, IntKind.max, IntKind.signed, IntKind.bits] using hx
 obtain ⟨hz1, hz2⟩ := hz
 obtain ⟨t1, t2, t3, t4, t5⟩ := zka x n h1
 have h0 : ¬ n = 0 := by omega
 have e1 : IntKind.i64.wrap (x.tmod n) = x.tmod n := IntWalk.i64_in _ (by omega)
 have e2 : IntKind.i64.wrap (x.tmod n + n) = x.tmod n + n := IntWalk.i64_in _ (by omega)
 have e3 : (x.tmod n + n).tmod n = (x.tmod n + n) % n := Int.tmod_eq_emod_of_nonneg (by omega)
 have e4 : IntKind.i64.wrap ((x.tmod n + n) % n) = (x.tmod n + n) % n := IntWalk.i64_in _ (by omega)
 have HR : Hid (∃ r : Nat, (x.tmod n + n) % n = (r : Int) /\ (r : Int) < n) := zwe ⟨((x.tmod n + n) % n).toNat, by rw [Int.toNat_of_nonneg t4], by rw [Int.toNat_of_nonneg t4]; exact t5⟩
 clear hx
 go_enter Tryz.func7, Tryz.ntmps7
 go_wp2
 go_ret
 obtain ⟨r, h, h'⟩ := HR.out
 exact ⟨r, by rw [← h]; simp, h', rfl⟩
theorem ztk (w : World) :
  Calls Tryz.prog 19 #[] w fun e w' => e = .returned (.slice (some ⟨w.heap.size, 0, none⟩) 3 3) /\ w' = w.alloc (.cells #[.string ⟨#[119, 45, 49]⟩, .string ⟨#[119, 45, 50]⟩, .string ⟨#[119, 45, 51]⟩] 9) := by
 go_enter Tryz.func19, Tryz.ntmps19
 go_wp2
 go_ret
 exact ⟨rfl, rfl⟩
theorem zq2 (w : World) :
  Calls Tryz.prog 22 #[] w fun e w' => e = .returned (.slice (some ⟨w.heap.size, 0, none⟩) 4 4) /\ w' = w.alloc (.cells #[.string ⟨#[122, 108, 105, 98]⟩, .string ⟨#[115, 115, 108]⟩, .string ⟨#[108, 105, 98, 115, 47, 112, 110, 103]⟩, .string ⟨#[97]⟩] 9) := by
 go_enter Tryz.func22, Tryz.ntmps22
 go_wp2
 go_ret
 exact ⟨rfl, rfl⟩
theorem zv3 (a : Option Addr) (m cap q0 : Nat) (w : World) (ht : Nums w a m) (hmc : m ≤ cap) (hq0 : q0 ≤ 1000) :
  Calls Tryz.prog 6 #[.slice a m cap, .int .i64 (q0 : Int)] w fun e w' => e = .returned (.pointer (some ⟨w.heap.size, 0, none⟩)) /\ Tape w' w.heap.size 0 /\ Below w.heap.size w w' /\ w.heap.size < w'.heap.size := by
 have HT := zwe ht
 have hl : Nums w a (min m q0) := ⟨by have := ht.1; omega, fun j hj => ht.2 j (by omega)⟩
 have HL := zwe hl
 obtain ⟨q, hq⟩ : ∃ q, q = min m q0 := ⟨_, rfl⟩
 rw [← hq] at HL
 have hq1 : min (m : Int) (q0 : Int) = (q : Int) := by omega
 have hq2 : (0 : Int) ≤ (q : Int) := by omega
 have hq3 : (q : Int) ≤ (cap : Int) := by omega
 have hb : Below w.heap.size w (w.alloc (.cells #[.slice a q cap, .int .i64 0] 61)) := (zwh _ w).alloc (zwg _) _
 have HP : Hid (Tape (w.alloc (.cells #[.slice a q cap, .int .i64 0] 61)) w.heap.size 0) := zwe (Tape.made HL.out hb (zwg _) (by rw [World.cell?_alloc_new]; rfl) (by rw [World.cell?_alloc_new]; rfl) (by rw [zz, if_pos rfl]))
 have HB := zwe hb
 clear ht hl hq hb
 go_enter Tryz.func6, Tryz.ntmps6
 go_wp2
 go_ret
 exact ⟨rfl, HP.out, HB.out, by simp⟩
open Go.RowKit
theorem zg.tape {w w' : World} {b k : Nat} (hm : zg w) (ht : Tape w b k) (hg : w.grownBy w' (some b)) : zg w' := by
 obtain ⟨m, hm⟩ := hm
 obtain ⟨a, n, cap, p, c0, _⟩ := ht
 exact ⟨m, hg.cell hm (fun e => by cases e; rw [c0] at hm; cases hm)⟩
theorem ze7 {w w6 W7 : World} {b g : Nat} (h : w.grownBy w6 (some b)) (k : w6.grownBy W7 (some g)) (hg : w.heap.size ≤ g) : w.grownBy W7 (some b) :=
 ⟨k.os.trans h.os, k.tape.trans h.tape, k.output.trans h.output, Nat.le_trans h.size k.size, fun i hi hr => (k.block i (Nat.lt_of_lt_of_le hi h.size) (by intro e; cases e; omega)).trans (h.block i hi hr)⟩
def RngPost (b k : Nat) (n : Int) (w : World) (e : Ending) (w' : World) : Prop :=
 ∃ u l, e = .returned (setV n u) /\ Itvs w' u l /\ V.okR n l = true /\ 1 ≤ l.length /\ (∀ c, u.ownBlock = some c -> w.heap.size ≤ c) /\ Tape w' b (k + 3) /\ w.grownBy w' (some b)
def rngL (s t : ByteArray) : List ByteArray := [⟨#[42]⟩, (⟨#[62, 61]⟩ : ByteArray) ++ s, (⟨#[60]⟩ : ByteArray) ++ s, (⟨#[61]⟩ : ByteArray) ++ s, (⟨#[62]⟩ : ByteArray) ++ s ++ ⟨#[32, 60, 61]⟩ ++ t, (⟨#[60]⟩ : ByteArray) ++ s ++ ⟨#[32, 124, 124, 32, 62, 61]⟩ ++ t, (⟨#[60, 61]⟩ : ByteArray) ++ s]
theorem rngL_len {s t : ByteArray} (hs : s.size ≤ 64) (ht : t.size ≤ 64) : ∀ x ∈ (rngL s t).map (·.data.toList), x.length ≤ 200 := by
 intro x hx
 obtain ⟨y, hy, rfl⟩ := List.mem_map.1 hx
 have hz : y.size ≤ 200 := by
  simp only [rngL, List.mem_cons, List.not_mem_nil, or_false] at hy
  rcases hy with rfl | rfl | rfl | rfl | rfl | rfl | rfl
  ·decide
  ·rw [ByteArray.size_append]; show 2 + s.size ≤ 200; omega
  ·rw [ByteArray.size_append]; show 1 + s.size ≤ 200; omega
  ·rw [ByteArray.size_append]; show 1 + s.size ≤ 200; omega
  ·rw [ByteArray.size_append, ByteArray.size_append, ByteArray.size_append]; show 1 + s.size + 3 + t.size ≤ 200; omega
  ·rw [ByteArray.size_append, ByteArray.size_append, ByteArray.size_append]; show 1 + s.size + 6 + t.size ≤ 200; omega
  ·rw [ByteArray.size_append]; show 2 + s.size ≤ 200; omega
 exact hz
theorem rng_star {n : Int} (h : V.scheme n = true) : V.parP n [42] = (n, [⟨[], 0, [], 0⟩], 0) := by
 have hs : n = 1 ∨ n = 2 ∨ n = 3 := by unfold V.scheme at h; simpa [or_assoc] using h
 rcases hs with e | e | e <;> subst e
 ·exact (show V.parP 1 [42] = (1, [⟨[], 0, [], 0⟩], 0) by kernel_rfl)
 ·exact (show V.parP 2 [42] = (2, [⟨[], 0, [], 0⟩], 0) by kernel_rfl)
 ·exact (show V.parP 3 [42] = (3, [⟨[], 0, [], 0⟩], 0) by kernel_rfl)
theorem rng_full {n : Int} (h : V.scheme n = true) : V.okR n [⟨[], 0, [], 0⟩] = true := by
 have hs : n = 1 ∨ n = 2 ∨ n = 3 := by unfold V.scheme at h; simpa [or_assoc] using h
 rcases hs with e | e | e <;> subst e
 ·exact (show V.okR 1 [⟨[], 0, [], 0⟩] = true by kernel_rfl)
 ·exact (show V.okR 2 [⟨[], 0, [], 0⟩] = true by kernel_rfl)
 ·exact (show V.okR 3 [⟨[], 0, [], 0⟩] = true by kernel_rfl)
theorem zr2 (n : Int) (s : V.Bs) : V.xw n s ≠ (none, 0) := by
 unfold V.xw
 repeat' split
 all_goals (intro h; simp at h)
theorem parP_okR {n : Int} {s : V.Bs} {rs : Int} {l : List V.Itv} (h : V.parP n s = (rs, l, 0)) : rs = n /\ V.okR n l = true := by
 unfold V.parP at h
 split at h
 ·rename_i l' c hq
  cases h
  exact ⟨rfl, V.of_ok (V.zkl (by rw [hq])).1⟩
 ·rename_i c hq
  cases h
  exact absurd hq (zr2 _ _)
theorem zlt (b k : Nat) (n : Int) (w : World) (hm : zg w) (h : Tape w b k) (hk : k ≤ 900000) (hn : V.scheme n = true) :
  Calls Tryz.prog 23 #[.pointer (some ⟨b, 0, none⟩), .int .i64 n] w (RngPost b k n w) := by
 have hb0 : Below w.heap.size w (w.alloc (.cells #[.int .i64 0, .slice none 0 0] 45)) := (zwh _ w).alloc (zwg _) _
 have HM0 := zwe (hm.below hb0)
 have HT0 := zwe (h.below hb0)
 have HK0 : Hid ((w.alloc (.cells #[.int .i64 0, .slice none 0 0] 45)).heap[w.heap.size]? = some (.cells #[.int .i64 0, .slice none 0 0] 45 (0, 0))) := zwe (heap_alloc_new w _)
 have HGW := zwe (qw hb0 (some b))
 have HBW := zwe h.lt
 have HN := zwe hn
 have hz0 : (w.alloc (.cells #[.int .i64 0, .slice none 0 0] 45)).heap.size = w.heap.size + 1 := by simp
 have HZ0 := zwe hz0
 clear hb0 hm h hn hz0
 go_enter Tryz.func23, Tryz.ntmps23
 go_wp2_with fail
 generalize w.alloc (.cells #[.int .i64 0, .slice none 0 0] 45) = w0 at *
 refine (ziu b k n w0 HT0.out (by omega) HN.out).mono ?_
 rintro e w1 ⟨xa, ha, rfl, ht1, hg1⟩
 have HM1 := zwe (HM0.out.tape HT0.out hg1)
 have HT1 := zwe ht1
 have HG1 := zwe hg1
 clear ht1 hg1
 go_wp2_with fail
 refine (ziu b (k + 1) n w1 HT1.out (by omega) HN.out).mono ?_
 rintro e w2 ⟨xb, hb, rfl, ht2, hg2⟩
 have HM2 := zwe (HM1.out.tape HT1.out hg2)
 have HT2 := zwe ht2
 have HG2 := zwe (HG1.out.trans hg2)
 have hsa : (⟨xa.toArray⟩ : ByteArray).size ≤ 64 := by simpa [ByteArray.size] using (V.valid_len ha).2
 have hsb : (⟨xb.toArray⟩ : ByteArray).size ≤ 64 := by simpa [ByteArray.size] using (V.valid_len hb).2
 clear ht2 hg2 ha hb HM0 HT0 HM1 HT1 HG1
 generalize (⟨xa.toArray⟩ : ByteArray) = s at *
 generalize (⟨xb.toArray⟩ : ByteArray) = t at *
 have q1 : ¬ (9223372036854775807 < 2 + s.size) := by omega
 have q2 : ¬ (9223372036854775807 < 1 + s.size) := by omega
 have q3 : ¬ (9223372036854775807 < 1 + s.size + 3) := by omega
 have q4 : ¬ (9223372036854775807 < 1 + s.size + 3 + t.size) := by omega
 have q5 : ¬ (9223372036854775807 < 1 + s.size + 6) := by omega
 have q6 : ¬ (9223372036854775807 < 1 + s.size + 6 + t.size) := by omega
 have HL := zwe (rngL_len hsa hsb)
 have hz2 : w.heap.size + 1 ≤ w2.heap.size := by have := HG2.out.size; have := HZ0.out; omega
 go_wp2_with fail
 clear q1 q2 q3 q4 q5 q6 hsa hsb
 have hb3 : Below w2.heap.size w2 (w2.alloc (.cells #[.string (⟨#[42]⟩), .string ((⟨#[62, 61]⟩ : ByteArray) ++ s), .string ((⟨#[60]⟩ : ByteArray) ++ s), .string ((⟨#[61]⟩ : ByteArray) ++ s), .string ((⟨#[62]⟩ : ByteArray) ++ s ++ ⟨#[32, 60, 61]⟩ ++ t), .string ((⟨#[60]⟩ : ByteArray) ++ s ++ ⟨#[32, 124, 124, 32, 62, 61]⟩ ++ t), .string ((⟨#[60, 61]⟩ : ByteArray) ++ s)] 9)) := (zwh _ w2).alloc (zwg _) _
 have HM3 := zwe (HM2.out.below hb3)
 have HT3 := zwe (HT2.out.below hb3)
 have HG3 := zwe (HG2.out.trans (qw hb3 (some b)))
 refine (zcp b (k + 2) (w2.alloc (.cells #[.string (⟨#[42]⟩), .string ((⟨#[62, 61]⟩ : ByteArray) ++ s), .string ((⟨#[60]⟩ : ByteArray) ++ s), .string ((⟨#[61]⟩ : ByteArray) ++ s), .string ((⟨#[62]⟩ : ByteArray) ++ s ++ ⟨#[32, 60, 61]⟩ ++ t), .string ((⟨#[60]⟩ : ByteArray) ++ s ++ ⟨#[32, 124, 124, 32, 62, 61]⟩ ++ t), .string ((⟨#[60, 61]⟩ : ByteArray) ++ s)] 9)) ⟨w2.heap.size, 0, none⟩ 7 ((rngL s t).map (·.data.toList)) HT3.out (by omega) (by simp [rngL]) (by simp [rngL]) (by have := HT2.out.lt; simp; omega) rfl (fun j hj => by
   rw [World.cell?_alloc_new, Nat.zero_add]
   have h7 : j = 0 ∨ j = 1 ∨ j = 2 ∨ j = 3 ∨ j = 4 ∨ j = 5 ∨ j = 6 := by simp [rngL] at hj; omega
   rcases h7 with rfl | rfl | rfl | rfl | rfl | rfl | rfl <;> rfl)).mono ?_
 rintro e w4 ⟨x, hx, rfl, ht4, hg4⟩
 have HX := zwe (HL.out x hx)
 have HM4 := zwe (HM3.out.tape HT3.out hg4)
 have HT4 := zwe ht4
 have HG4 := zwe (HG3.out.trans hg4)
 have hz4 : w.heap.size + 1 ≤ w4.heap.size := by have := hg4.size; have := hb3.size; omega
 clear hb3 hx ht4 hg4 HM2 HT2 HG2 HM3 HT3 HG3 HL hz2
 go_wp2_with fail
 refine (zau n x w4 HM4.out (by have := HX.out; unfold maxLen; omega)).mono ?_
 rintro e w5 ⟨u5, rfl, hu5, how5, hb5⟩
 obtain ⟨⟨rs, its, ec⟩, hpp⟩ : ∃ p, V.parP n x = p := ⟨_, rfl⟩
 rw [hpp] at hu5 ⊢
 simp only at hu5 ⊢
 have HPP := zwe hpp
 obtain ⟨p5, c5, rfl⟩ := hu5.slice
 have hb6 : Below w4.heap.size w4 (w5.alloc (.cells #[.int .i64 rs, .slice p5 its.length c5] 45)) := hb5.alloc hb5.size _
 have HM6 := zwe (HM4.out.below hb6)
 have HT6 := zwe (HT4.out.below hb6)
 have HG06 := zwe (HG4.out.trans (qw hb6 (some b)))
 have HI6 := zwe (hu5.below ((zwh _ w5).alloc (zwg _) (.cells #[.int .i64 rs, .slice p5 its.length c5] 45)))
 have HO6 : Hid (∀ c, (Value.slice p5 its.length c5).ownBlock = some c -> w4.heap.size ≤ c) := zwe how5
 have HC6 : Hid ((w5.alloc (.cells #[.int .i64 rs, .slice p5 its.length c5] 45)).heap[w5.heap.size]? = some (.cells #[.int .i64 rs, .slice p5 its.length c5] 45 (0, 0))) := zwe (heap_alloc_new w5 _)
 have hz5 : w4.heap.size ≤ w5.heap.size := hb5.size
 have hz6 : (w5.alloc (.cells #[.int .i64 rs, .slice p5 its.length c5] 45)).heap.size = w5.heap.size + 1 := by simp
 clear hpp hu5 how5 hb5 hb6 HM4 HT4 HG4
 obtain ⟨s0, s1⟩ := zaj HC6.out
 unfold setV
 have HKW := zwe ((HG06.out.block _ (by have := HZ0.out; omega) (by intro e; cases e; have := HBW.out; omega)).trans HK0.out)
 have HXW : Hid (w4.heap.size ≤ w5.heap.size /\ w.heap.size + 1 ≤ w4.heap.size /\ (w5.alloc (.cells #[.int .i64 rs, .slice p5 its.length c5] 45)).heap.size = w5.heap.size + 1) := zwe ⟨hz5, hz4, hz6⟩
 clear hz4 hz5 hz6
 by_cases hgood : ec = 0 /\ its.length ≠ 0
 ·obtain ⟨rfl, h0⟩ := hgood
  have HOKR := zwe (parP_okR HPP.out)
  obtain ⟨hrs, hok⟩ := HOKR.out
  subst hrs
  generalize hmm : its.length = m at *
  have HMM := zwe hmm
  have H0 := zwe h0
  have q1 : ((m : Int) == 0) = false := by rw [zwi]; omega
  have q2 : ¬ (m : Int) = 0 := by omega
  have q3 : ¬ m = 0 := h0
  have HOKI := zwe hok
  clear hmm h0 hok
  go_wp2_with (first | (refine zi rfl 45 _ _ rfl w.heap.size #[.int .i64 0, .slice none 0 0] _ HKW.out rfl #[.int .i64 rs, .slice p5 m c5] rfl rfl (by kernel_rfl) (zt _ _ _ _) ?_
                        intro W7 hp7
                        have HP7 := zwe hp7
                        obtain ⟨z0, z1⟩ := zaj hp7.here
                        clear hp7) | fail)
  refine bodyPost_ret (v := .agg #[.int .i64 rs, .slice p5 m c5]) (by simp [results, Tryz.results23, go_sem, z0, z1]) rfl ?_
  exact ⟨_, its, rfl, HP7.out.itvs HI6.out (fun c hc => by have := HO6.out c hc; have := HXW.out; omega), HOKI.out, by have := HMM.out; have := H0.out; omega, fun c hc => by have := HO6.out c hc; have := HXW.out; omega, HT6.out.grown HP7.out.grown (by intro e; cases e; have := HBW.out; omega) (by intro c e; cases e; exact HBW.out), ze7 (HGW.out.trans HG06.out) HP7.out.grown (zwg _)⟩
 ·have HNG := zwe hgood
  have hcase : (ec != 0) = true ∨ (ec = 0 /\ its = []) := by
   by_cases he : ec = 0
   ·refine .inr ⟨he, ?_⟩
    by_cases hl : its.length = 0
    ·exact List.eq_nil_of_length_eq_zero hl
    ·exact absurd ⟨he, hl⟩ hgood
   ·exact .inl (by simpa using he)
  clear hgood
  rcases hcase with hcb | ⟨rfl, rfl⟩
  all_goals
   go_wp2_with fail
   generalize w5.alloc (.cells #[.int .i64 rs, .slice p5 _ c5] 45) = w6 at *
   generalize w5.heap.size = X at *
   refine (zau n [42] w6 HM6.out (by decide)).mono ?_
   rintro e w8 ⟨u8, rfl, hu8, how8, hb8⟩
   rw [rng_star HN.out] at hu8 ⊢
   simp only at hu8 ⊢
   obtain ⟨p8, c8, rfl⟩ := hu8.slice
   have HT8 := zwe (HT6.out.below hb8)
   have HC8 := zwe ((hb8.block X (by have := HXW.out; omega)).trans HC6.out)
   have HK8 := zwe ((hb8.block w.heap.size (by have := HXW.out; omega)).trans HKW.out)
   have HG8 := zwe (HG06.out.trans (qw hb8 (some b)))
   have HI8 := zwe hu8
   have HO8 : Hid (∀ c, (Value.slice p8 1 c8).ownBlock = some c -> w6.heap.size ≤ c) := zwe how8
   clear hu8 how8 hb8 s0 s1
   unfold setV
   go_wp2_with (first | (refine zi rfl 45 _ _ rfl X _ _ HC8.out rfl #[.int .i64 n, .slice p8 1 c8] rfl rfl (by kernel_rfl) (zt _ _ _ _) ?_
                         intro W9 hp9
                         obtain ⟨s0, s1⟩ := zaj hp9.here
                         have HP9 := zwe hp9
                         have HK9 := zwe ((hp9.grown.block w.heap.size (Array.getElem?_eq_some_iff.1 HK8.out).1 (by intro e; cases e; have := HXW.out; omega)).trans HK8.out)
                         clear hp9)
                      | (refine zi rfl 45 _ _ rfl w.heap.size #[.int .i64 0, .slice none 0 0] _ HK9.out rfl #[.int .i64 n, .slice p8 1 c8] rfl rfl (by kernel_rfl) (zt _ _ _ _) ?_
                         intro W7 hp7
                         have HP7 := zwe hp7
                         obtain ⟨z0, z1⟩ := zaj hp7.here
                         clear hp7) | fail)
   refine bodyPost_ret (v := .agg #[.int .i64 n, .slice p8 1 c8]) (by simp [results, Tryz.results23, go_sem, z0, z1]) rfl ?_
   refine ⟨_, [⟨[], 0, [], 0⟩], rfl, HP7.out.itvs (HP9.out.itvs HI8.out (fun c hc => by have := HO8.out c hc; have := HXW.out; omega)) (fun c hc => by have := HO8.out c hc; have := HXW.out; omega), rng_full HN.out, by decide, fun c hc => by have := HO8.out c hc; have := HXW.out; omega, ?_, ze7 (ze7 (HGW.out.trans HG8.out) HP9.out.grown (by have := HXW.out; omega)) HP7.out.grown (zwg _)⟩
   exact (HT8.out.grown HP9.out.grown (by intro e; cases e; have := HBW.out; have := HXW.out; omega) (by intro c e; cases e; have := HBW.out; have := HXW.out; omega)).grown HP7.out.grown (by intro e; cases e; have := HBW.out; omega) (by intro c e; cases e; exact HBW.out)
def pE (p : Int × V.Bs) : List Value := [.int .i64 p.1, .string ⟨p.2.toArray⟩]
theorem zf8 (p : Int × V.Bs) : (pE p).length = 2 := rfl
theorem zkm (p : Int × V.Bs) : ∀ u ∈ pE p, u.oneCell' = true := by
 intro u hu
 simp [pE] at hu
 rcases hu with rfl | rfl <;> rfl
theorem zsn : xq 58 2 24 := by
 have h : (match Tryz.prog.info? 58 with | some i => i.size == 2 && (i.bytes == 24 && (match i.zero with | some z => z.cells.size == 2 | none => false)) | none => false) = true := by kernel_rfl
 unfold xq
 cases hq : Tryz.prog.info? 58 with
 | none => rw [hq] at h; cases h
 | some i =>
  exact zw1
open Go.RowKit
theorem zhk : Tryz.prog.eqGuardType Tryz.prog.depth 58 = false := by kernel_rfl
theorem eq_pkg (x y : Int × V.Bs) (w : World) : (Op.equalIn 10000 58 (.agg #[.int .i64 x.1, .string ⟨x.2.toArray⟩]) (.agg #[.int .i64 y.1, .string ⟨y.2.toArray⟩])).run Tryz.prog w = .ok (decide (x = y)) w := by
 rw [run_equalIn_agg w 9999 58 _ _ (by kernel_rfl) (by kernel_rfl)]
 unfold Program.fieldsOf
 rw [Tryz.underlying58]
 simp only [Op.eqFields]
 simp [go_sem]
 obtain ⟨a, b⟩ := x
 obtain ⟨c, d⟩ := y
 by_cases h1 : a = c
 ·by_cases h2 : b = d
  ·simp [h1, h2]
  ·simp [h1, h2]
 ·simp [h1]
theorem zpe (x y : Int × V.Bs) (w : World) : (binOp .eql 58 (.agg #[.int .i64 x.1, .string ⟨x.2.toArray⟩]) (.agg #[.int .i64 y.1, .string ⟨y.2.toArray⟩])).run Tryz.prog w = .ok (.bool (decide (x = y))) w := by
 rw [run_eql_struct, eq_pkg]
 rfl
theorem zg0 (n m : Int) (s t : V.Bs) (w : World) :
  Calls Tryz.prog 42 #[.agg #[.int .i64 n, .string ⟨s.toArray⟩], .agg #[.int .i64 m, .string ⟨t.toArray⟩]] w fun e w' => e = .returned (.bool (decide (V.pkC (n, s) (m, t) < 0))) /\ Below w.heap.size w w' := zij n m s t w
theorem GSl.pk {w : World} {a : Option Addr} {n cap : Nat} {l : List (Int × V.Bs)} (h : GSl 2 pE w (.slice a n cap) l) (j : Nat) (hj : j < l.length) : ∃ g off, a = some ⟨g, off, none⟩ /\ g < w.heap.size /\ w.cell? ⟨g, off + j * 2, none⟩ = some (.int .i64 l[j].1) /\ w.cell? ⟨g, off + j * 2 + 1, none⟩ = some (.string ⟨l[j].2.toArray⟩) := by
 obtain ⟨g, off, e, hg, hc⟩ := h.at j hj
 exact ⟨g, off, e, hg, hc 0 _ rfl, hc 1 _ rfl⟩
theorem zgw {w W : World} {B : Nat} {a : Int × V.Bs} {t : TypeId} (h : W = w.alloc (.cells #[.int .i64 a.1, .string ⟨a.2.toArray⟩] t)) (hB : B = w.heap.size) : ∀ j u, (pE a)[j]? = some u -> W.cell? ⟨B, j, none⟩ = some u := by
 intro j u hj
 rw [h, hB, ze, if_pos rfl]
 simpa [pE] using hj
theorem z0q {P : Prop} (h : P := by
 (try dsimp only); exact ⟨hHeld.1.trans (hb7.mono hHeld.1.size), zb hb7 hHeld.2.1, zb hb7 hHeld.2.2.1, zb hb7 hHeld.2.2.2.1, zb hb7 hHeld.2.2.2.2⟩) : P := h
theorem zs2 (v : Value) (l : List (Int × V.Bs)) (p : Int × V.Bs) (w : World) (hv : GSl 2 pE w v l) (hl : l.length ≤ 1000) :
  Calls Tryz.prog 21 #[v, .agg #[.int .i64 p.1, .string ⟨p.2.toArray⟩]] w fun e w' => ∃ u, e = .returned u /\ GRow 58 2 pE w' w.heap.size u (V.addP p l) /\ Below w.heap.size w w' := by
 obtain ⟨va, vc, rfl⟩ := hv.slice
 have hb0 : Below w.heap.size w (w.alloc (.cells #[.int .i64 p.1, .string ⟨p.2.toArray⟩] 58)) := (zwh _ w).alloc (zwg _) _
 have HB0 := zwe hb0
 have HV := zwe (hv.below hb0)
 have p0 : (w.alloc (.cells #[.int .i64 p.1, .string ⟨p.2.toArray⟩] 58)).cell? ⟨w.heap.size, 0, none⟩ = some (.int .i64 p.1) := by rw [World.cell?_alloc_new]; rfl
 have p1 : (w.alloc (.cells #[.int .i64 p.1, .string ⟨p.2.toArray⟩] 58)).cell? ⟨w.heap.size, 1, none⟩ = some (.string ⟨p.2.toArray⟩) := by rw [World.cell?_alloc_new]; rfl
 have Z0 := zwe p0
 have Z1 := zwe p1
 clear hb0 hv p0 p1
 go_enter Tryz.func21, Tryz.ntmps21
 go_wp2_with fail
 generalize w.alloc (.cells #[.int .i64 p.1, .string ⟨p.2.toArray⟩] 58) = w0 at *
 go_loopw [5, 6, 7] (fun ov dv iv wx => ∃ (k : Nat) (q : List (Int × V.Bs) × Bool), k ≤ l.length /\ iv = .int .i64 k /\ (q = V.kr p l k /\ dv = .bool q.2) /\ GRow 58 2 pE wx w0.heap.size ov q.1 /\ Below w0.heap.size w0 wx) (fun _ _ iv _ => l.length - (intOf iv).toNat)
 case atStart => exact ⟨0, _, Nat.zero_le _, rfl, ⟨rfl, rfl⟩, GRow.nil _ _, zwh _ _⟩
 case round =>
  obtain ⟨k, ⟨o, d⟩, hk, rfl, ⟨hq, hdv⟩, hrow, hbl⟩ := hrel
  simp only at hdv hrow
  subst hdv
  obtain ⟨oa, oc, hov⟩ := hrow.slice
  subst hov
  have HROW := zwe hrow
  have HBR := zwe hbl
  have HQ := zwe hq
  have P0 := zwe (zb hbl Z0.out)
  have P1 := zwe (zb hbl Z1.out)
  have HLO : Hid (o.length ≤ 1001) := zwe (by have := (V.zfd (p := p) (l := l) k hk).2.1; rw [← hq] at this; simp only at this; omega)
  clear hrow hbl hq
  by_cases hlt : k < l.length
  ·obtain ⟨g, off, rfl, hg, hx0, hx1⟩ := HV.out.pk k hlt
   have X0 := zwe hx0
   have X1 := zwe hx1
   have x0 := zb HBR.out hx0
   have x1 := zb HBR.out hx1
   have HST := zwe (V.zc9 (p := p) hlt)
   rw [← HQ.out] at HST
   simp only at HST
   have i1 : (0 : Int) ≤ (k : Int) := by omega
   have i2 : (k : Int) < (l.length : Int) := by omega
   have wr1 : IntKind.i64.wrap ((k : Int) + 1) = (k : Int) + 1 := IntWalk.i64_in _ (by omega)
   generalize l[k] = x at *
   clear hx0 hx1 HV
   rcases d with _ | _
   ·by_cases hls : V.pkC p x < 0
    ·have HN : Hid (V.kr p l (k + 1) = (o ++ [p] ++ [x], true)) := zwe (by rw [HST.out]; simp [hls])
     have hld : decide (V.pkC p x < 0) = true := decide_eq_true hls
     clear HST hls
     go_wp2_with fail
     refine wp_region_held_drew (S := (fun W' => Below wr.heap.size wr W' /\ W'.cell? ⟨w.heap.size, 0, none⟩ = some (.int .i64 p.1) /\ W'.cell? ⟨w.heap.size, 1, none⟩ = some (.string ⟨p.2.toArray⟩) /\ W'.cell? ⟨g, off + k * 2, none⟩ = some (.int .i64 x.1) /\ W'.cell? ⟨g, off + k * 2 + 1, none⟩ = some (.string ⟨x.2.toArray⟩))) (by kernel_rfl) (⟨(zwh _ _).drew, zb (zwh _ _).drew P0.out, zb (zwh _ _).drew P1.out, zb (zwh _ _).drew x0, zb (zwh _ _).drew x1⟩) (fun hHeld => ?_)
     refine tk 0 ?_
     refine tk 1 ?_
     refine tk 2 ?_
     refine tk 3 ?_
     refine tk 4 ?_
     refine tk 5 ?_
     refine tk 6 ?_
     refine tk 7 ?_
     refine rd 8 fun K hK => ?_
     go_simp
     refine (zg0 p.1 x.1 p.2 x.2 _).mono ?_
     rintro e w7 ⟨rfl, hb7⟩
     try dsimp only
     refine hK.out _ _ ?_ (fun hHeld => nx ?_)
     ·exact z0q
     clear hK K
     refine tk 9 ?_
     refine wpAnyH_done (by kernel_rfl) ?_ _
     rw [show V.pkC (p.1, p.2) (x.1, x.2) = V.pkC p x from rfl, hld]
     have HBR7 := zwe (HBR.out.trans (hHeld.1.mono HBR.out.size))
     have HROW7 := zwe (GRow.below HROW.out hHeld.1)
     have q0 := hHeld.2.1
     have q1 := hHeld.2.2.1
     clear hb7 hHeld x0 x1 hld
     have hbYf : Below w7.heap.size w7 (w7.alloc (.cells #[.int .i64 p.1, .string ⟨p.2.toArray⟩] 58)) := (zwh _ _).alloc (zwg _) _
     have HRZf := zwe (GRow.below HROW7.out hbYf)
     have HBYf := zwf HBR7 hbYf
     have HNWf : Hid (∀ j u, (pE p)[j]? = some u -> (w7.alloc (.cells #[.int .i64 p.1, .string ⟨p.2.toArray⟩] 58)).cell? ⟨w7.heap.size, j, none⟩ = some u) := zwe (zgw (w := w7) (t := 58) rfl rfl)
     clear hbYf
     go_wp2_with (first | (refine zl zf8 (by decide) zkm zsn (by decide) rfl _ _ 55 rfl Tryz.underlying55 w0.heap.size _ o rfl HRZf.out w7.heap.size p rfl HNWf.out (by have := HLO.out; (try simp only [List.length_append, List.length_cons, List.length_nil]); omega) HBYf.out.size ?_
                           intro vf wf hrf hgf
                           have HBRf := zwe (HBYf.out.trans (zk hgf (GRow.block HRZf.out) (zwg _) HBYf.out.size))
                           have HROWf := zwe hrf
                           clear hgf hrf) | fail)
     clear q0 q1
     have HX : Hid (Below w0.heap.size w0 wf) := HBRf
     have y0 := zb HX.out X0.out
     have y1 := zb HX.out X1.out
     have z0 := zb HX.out Z0.out
     have z1 := zb HX.out Z1.out
     have hgd := zhk
     have heq := zpe x p
     by_cases hxp : x = p
     all_goals
      first | (rw [decide_eq_true hxp] at heq) | (rw [decide_eq_false hxp] at heq)
      have HXP := zwe hxp
      clear hxp
      go_wp2_with fail
      go_quiet (fail)
      rename_i nq
      have hbq : Below wf.heap.size wf (wf.drewN nq) := below_drewN (zwh _ _) nq
      have HROWq := zwe (GRow.below HROWf.out hbq)
      have HBRq := zwf HX hbq
      replace y0 := zb hbq y0
      replace y1 := zb hbq y1
      generalize wf.drewN nq = wq at *
      clear hbq z0 z1 heq hgd
      have hbYe : Below wq.heap.size wq (wq.alloc (.cells #[.int .i64 x.1, .string ⟨x.2.toArray⟩] 58)) := (zwh _ _).alloc (zwg _) _
      have HRZe := zwe (GRow.below HROWq.out hbYe)
      have HBYe := zwf HBRq hbYe
      have HNWe : Hid (∀ j u, (pE x)[j]? = some u -> (wq.alloc (.cells #[.int .i64 x.1, .string ⟨x.2.toArray⟩] 58)).cell? ⟨wq.heap.size, j, none⟩ = some u) := zwe (zgw (w := wq) (t := 58) rfl rfl)
      clear hbYe
      go_wp2_with (first | (refine zl zf8 (by decide) zkm zsn (by decide) rfl _ _ 55 rfl Tryz.underlying55 w0.heap.size _ (o ++ [p]) rfl HRZe.out wq.heap.size x rfl HNWe.out (by have := HLO.out; (try simp only [List.length_append, List.length_cons, List.length_nil]); omega) HBYe.out.size ?_
                            intro ve we hre hge
                            have HBRe := zwe (HBYe.out.trans (zk hge (GRow.block HRZe.out) (zwg _) HBYe.out.size))
                            have HROWe := zwe hre
                            clear hge hre) | fail)
      go_roundw
      case rel => exact ⟨k + 1, _, by omega, by go_num, ⟨HN.out.symm, rfl⟩, HROWe.out, HBRe.out⟩
      case measure => simp [intOf]; omega
    ·have hld : decide (V.pkC p x < 0) = false := decide_eq_false hls
     have HN : Hid (V.kr p l (k + 1) = (o ++ [x], decide (x = p))) := zwe (by rw [HST.out]; simp [hls])
     clear HST hls
     go_wp2_with fail
     refine wp_region_held_drew (S := (fun W' => Below wr.heap.size wr W' /\ W'.cell? ⟨w.heap.size, 0, none⟩ = some (.int .i64 p.1) /\ W'.cell? ⟨w.heap.size, 1, none⟩ = some (.string ⟨p.2.toArray⟩) /\ W'.cell? ⟨g, off + k * 2, none⟩ = some (.int .i64 x.1) /\ W'.cell? ⟨g, off + k * 2 + 1, none⟩ = some (.string ⟨x.2.toArray⟩))) (by kernel_rfl) (⟨(zwh _ _).drew, zb (zwh _ _).drew P0.out, zb (zwh _ _).drew P1.out, zb (zwh _ _).drew x0, zb (zwh _ _).drew x1⟩) (fun hHeld => ?_)
     refine tk 0 ?_
     refine tk 1 ?_
     refine tk 2 ?_
     refine tk 3 ?_
     refine tk 4 ?_
     refine tk 5 ?_
     refine tk 6 ?_
     refine tk 7 ?_
     refine rd 8 fun K hK => ?_
     go_simp
     refine (zg0 p.1 x.1 p.2 x.2 _).mono ?_
     rintro e w7 ⟨rfl, hb7⟩
     try dsimp only
     refine hK.out _ _ ?_ (fun hHeld => nx ?_)
     ·exact z0q
     clear hK K
     refine tk 9 ?_
     refine wpAnyH_done (by kernel_rfl) ?_ _
     rw [show V.pkC (p.1, p.2) (x.1, x.2) = V.pkC p x from rfl, hld]
     have HBR7 := zwe (HBR.out.trans (hHeld.1.mono HBR.out.size))
     have HROW7 := zwe (GRow.below HROW.out hHeld.1)
     clear hb7 hHeld x0 x1 hld
     have HX : Hid (Below w0.heap.size w0 w7) := HBR7
     have y0 := zb HX.out X0.out
     have y1 := zb HX.out X1.out
     have z0 := zb HX.out Z0.out
     have z1 := zb HX.out Z1.out
     have hgd := zhk
     have heq := zpe x p
     by_cases hxp : x = p
     all_goals
      first | (rw [decide_eq_true hxp] at heq) | (rw [decide_eq_false hxp] at heq)
      have HXP := zwe hxp
      clear hxp
      go_wp2_with fail
      go_quiet (fail)
      rename_i nq
      have hbq : Below w7.heap.size w7 (w7.drewN nq) := below_drewN (zwh _ _) nq
      have HROWq := zwe (GRow.below HROW7.out hbq)
      have HBRq := zwf HX hbq
      replace y0 := zb hbq y0
      replace y1 := zb hbq y1
      generalize w7.drewN nq = wq at *
      clear hbq z0 z1 heq hgd
      have hbYe : Below wq.heap.size wq (wq.alloc (.cells #[.int .i64 x.1, .string ⟨x.2.toArray⟩] 58)) := (zwh _ _).alloc (zwg _) _
      have HRZe := zwe (GRow.below HROWq.out hbYe)
      have HBYe := zwf HBRq hbYe
      have HNWe : Hid (∀ j u, (pE x)[j]? = some u -> (wq.alloc (.cells #[.int .i64 x.1, .string ⟨x.2.toArray⟩] 58)).cell? ⟨wq.heap.size, j, none⟩ = some u) := zwe (zgw (w := wq) (t := 58) rfl rfl)
      clear hbYe
      go_wp2_with (first | (refine zl zf8 (by decide) zkm zsn (by decide) rfl _ _ 55 rfl Tryz.underlying55 w0.heap.size _ o rfl HRZe.out wq.heap.size x rfl HNWe.out (by have := HLO.out; (try simp only [List.length_append, List.length_cons, List.length_nil]); omega) HBYe.out.size ?_
                            intro ve we hre hge
                            have HBRe := zwe (HBYe.out.trans (zk hge (GRow.block HRZe.out) (zwg _) HBYe.out.size))
                            have HROWe := zwe hre
                            clear hge hre) | fail)
      go_roundw
      case rel => exact ⟨k + 1, _, by omega, by go_num, ⟨HN.out.symm, by first | (rw [decide_eq_true HXP.out]) | (rw [decide_eq_false HXP.out])⟩, HROWe.out, HBRe.out⟩
      case measure => simp [intOf]; omega
   ·have HN : Hid (V.kr p l (k + 1) = (o ++ [x], true)) := zwe (by rw [HST.out]; simp)
    clear HST
    go_wp2_with fail
    go_quiet (fail)
    have hbr : Below wr.heap.size wr (wr.drewN nq) := below_drewN (zwh _ _) nq
    have HROW7 := zwe (GRow.below HROW.out hbr)
    have HBR7 := zwf HBR hbr
    generalize wr.drewN nq = w7 at *
    clear nq
    clear hbr x0 x1
    have HX : Hid (Below w0.heap.size w0 w7) := HBR7
    have y0 := zb HX.out X0.out
    have y1 := zb HX.out X1.out
    have z0 := zb HX.out Z0.out
    have z1 := zb HX.out Z1.out
    have hgd := zhk
    have heq := zpe x p
    by_cases hxp : x = p
    all_goals
     first | (rw [decide_eq_true hxp] at heq) | (rw [decide_eq_false hxp] at heq)
     have HXP := zwe hxp
     clear hxp
     go_wp2_with fail
     go_quiet (fail)
     rename_i nq
     have hbq : Below w7.heap.size w7 (w7.drewN nq) := below_drewN (zwh _ _) nq
     have HROWq := zwe (GRow.below HROW7.out hbq)
     have HBRq := zwf HX hbq
     replace y0 := zb hbq y0
     replace y1 := zb hbq y1
     generalize w7.drewN nq = wq at *
     clear hbq z0 z1 heq hgd
     have hbYe : Below wq.heap.size wq (wq.alloc (.cells #[.int .i64 x.1, .string ⟨x.2.toArray⟩] 58)) := (zwh _ _).alloc (zwg _) _
     have HRZe := zwe (GRow.below HROWq.out hbYe)
     have HBYe := zwf HBRq hbYe
     have HNWe : Hid (∀ j u, (pE x)[j]? = some u -> (wq.alloc (.cells #[.int .i64 x.1, .string ⟨x.2.toArray⟩] 58)).cell? ⟨wq.heap.size, j, none⟩ = some u) := zwe (zgw (w := wq) (t := 58) rfl rfl)
     clear hbYe
     go_wp2_with (first | (refine zl zf8 (by decide) zkm zsn (by decide) rfl _ _ 55 rfl Tryz.underlying55 w0.heap.size _ o rfl HRZe.out wq.heap.size x rfl HNWe.out (by have := HLO.out; (try simp only [List.length_append, List.length_cons, List.length_nil]); omega) HBYe.out.size ?_
                           intro ve we hre hge
                           have HBRe := zwe (HBYe.out.trans (zk hge (GRow.block HRZe.out) (zwg _) HBYe.out.size))
                           have HROWe := zwe hre
                           clear hge hre) | fail)
     go_roundw
     case rel => exact ⟨k + 1, _, by omega, by go_num, ⟨HN.out.symm, rfl⟩, HROWe.out, HBRe.out⟩
     case measure => simp [intOf]; omega
  ·obtain rfl : k = l.length := by omega
   have HBE := zwe (HB0.out.trans (HBR.out.mono HB0.out.size))
   have q0 := P0.out
   have q1 := P1.out
   rcases d with _ | _
   ·have HR : Hid (V.addP p l = o ++ [p]) := zwe (by unfold V.addP; rw [← HQ.out]; rfl)
    clear HQ
    have hbYf : Below wr.heap.size wr (wr.alloc (.cells #[.int .i64 p.1, .string ⟨p.2.toArray⟩] 58)) := (zwh _ _).alloc (zwg _) _
    have HRZf := zwe (GRow.below HROW.out hbYf)
    have HBYf := zwf HBR hbYf
    have HNWf : Hid (∀ j u, (pE p)[j]? = some u -> (wr.alloc (.cells #[.int .i64 p.1, .string ⟨p.2.toArray⟩] 58)).cell? ⟨wr.heap.size, j, none⟩ = some u) := zwe (zgw (w := wr) (t := 58) rfl rfl)
    clear hbYf
    go_wp2_with (first | (refine zl zf8 (by decide) zkm zsn (by decide) rfl _ _ 55 rfl Tryz.underlying55 w0.heap.size _ o rfl HRZf.out wr.heap.size p rfl HNWf.out (by have := HLO.out; (try simp only [List.length_append, List.length_cons, List.length_nil]); omega) HBYf.out.size ?_
                          intro vf wf hrf hgf
                          have HBRf := zwe (HBYf.out.trans (zk hgf (GRow.block HRZf.out) (zwg _) HBYf.out.size))
                          have HROWf := zwe hrf
                          clear hgf hrf) | fail)
    have HBF := zwe (HB0.out.trans (HBRf.out.mono HB0.out.size))
    go_ret
    exact ⟨_, rfl, by rw [HR.out]; exact GRow.weaken HROWf.out HB0.out.size, HBF.out⟩
   ·have HR : Hid (V.addP p l = o) := zwe (by unfold V.addP; rw [← HQ.out]; rfl)
    clear HQ q0 q1
    go_wp2
    go_ret
    exact ⟨_, rfl, by rw [HR.out]; exact GRow.weaken HROW.out HB0.out.size, HBE.out⟩
end Go.Proofs.YtcfbkcapbbhmpaaGreatDoor
