/-
  Lemmas for the law.
-/
import Derived.Test.YtiloljoancdcbaaGreatDoorC40x23
import Derived.Test.YtiloljoancdcbaaGreatDoorC40x20
import Derived.Test.YtiloljoancdcbaaGreatDoorC40x43
import Derived.Test.YtiloljoancdcbaaGreatDoorC40x46
import Derived.Test.YtiloljoancdcbaaGreatDoorC40x12
import Derived.Test.YtiloljoancdcbaaGreatDoorC40x45
import Derived.Test.YtiloljoancdcbaaGreatDoorC40x37
import Derived.Test.YtiloljoancdcbaaGreatDoorC40x22
import Derived.Test.YtiloljoancdcbaaGreatDoorC40x16
import Derived.Test.YtiloljoancdcbaaGreatDoorC40x41
import Derived.Laws.StructEq
set_option linter.all false
set_option maxRecDepth 100000
set_option maxHeartbeats 6400000
namespace Go.Proofs.YtiloljoancdcbaaGreatDoor
open Go.RowKit
theorem zo3 (n : Int) (v v' : Value) (l : List V.Itv) (w : World) (hv : Itvs w v l) (hv' : Itvs w v' l) (hl : l.length ≤ maxLen) :
  Calls Tryz.prog 47 #[setV n v, setV n v'] w fun e w' => e = .returned (.bool true) /\ Below w.heap.size w w' := by
 obtain ⟨va, vc, rfl⟩ := hv.slice
 obtain ⟨va', vc', rfl⟩ := hv'.slice
 obtain ⟨hb, h0, h1⟩ := zdf (w := w) (.cells #[.int .i64 n, .slice va l.length vc] 32) (.cells #[.int .i64 n, .slice va' l.length vc'] 32)
 have HB := zvq hb
 have c0 := (h0 0).trans (World.cell?_alloc_new ..)
 have c1 := (h0 1).trans (World.cell?_alloc_new ..)
 have d0 := (h1 0).trans (World.cell?_alloc_new ..)
 have d1 := (h1 1).trans (World.cell?_alloc_new ..)
 simp only [List.getElem?_toArray, List.getElem?_cons_zero, List.getElem?_cons_succ] at c0 c1 d0 d1
 have HV := zvq (hv.below hb)
 have HV' := zvq (hv'.below hb)
 unfold maxLen at hl
 clear hb h0 h1 hv hv'
 unfold setV
 go_enter Tryz.func47, Tryz.ntmps47
 go_wp2_with fail
 generalize (w.alloc (.cells #[.int .i64 n, .slice va l.length vc] 32)).alloc (.cells #[.int .i64 n, .slice va' l.length vc'] 32) = w0 at *
 go_loopw [5] (fun iv W => ∃ k : Nat, k ≤ l.length /\ iv = .int .i64 k /\ Below w0.heap.size w0 W) (fun iv _ => l.length - (intOf iv).toNat)
 case atStart => exact ⟨0, Nat.zero_le _, rfl, zvt _ _⟩
 case round =>
  obtain ⟨k, hk, rfl, hbr⟩ := hrel
  have HBR := zvq hbr
  replace c1 := zb hbr c1
  replace d1 := zb hbr d1
  clear hbr
  by_cases hlt : k < l.length
  ·obtain ⟨b, off, rfl, hb0, hx⟩ := HV.out.at k hlt
   obtain ⟨b', off', rfl, hb0', hy⟩ := HV'.out.at k hlt
   replace hx := hx.below hb0 HBR.out
   replace hy := hy.below hb0' HBR.out
   have i1 : (0 : Int) ≤ (k : Int) := by omega
   have i2 : (k : Int) < (l.length : Int) := by omega
   have wr1 : IntKind.i64.wrap ((k : Int) + 1) = (k : Int) + 1 := IntWalk.i64_in _ (by omega)
   generalize l[k] = x at *
   unfold zb3 at hx hy
   clear HV HV' c0 d0
   go_wp2_with fail
   refine wp_region_held_drew (S := (fun W' => W'.cell? ⟨w.heap.size, 1, none⟩ = some (.slice (some ⟨b, off, none⟩) l.length vc) /\ W'.cell? ⟨w.heap.size + 1, 1, none⟩ = some (.slice (some ⟨b', off', none⟩) l.length vc') /\ W'.cell? ⟨b, off + k * 4, none⟩ = some (.string ⟨x.lo.toArray⟩) /\ W'.cell? ⟨b, off + k * 4 + 1, none⟩ = some (.int .i64 x.lk) /\ W'.cell? ⟨b, off + k * 4 + 2, none⟩ = some (.string ⟨x.hi.toArray⟩) /\ W'.cell? ⟨b, off + k * 4 + 3, none⟩ = some (.int .i64 x.hk) /\ W'.cell? ⟨b', off' + k * 4, none⟩ = some (.string ⟨x.lo.toArray⟩) /\ W'.cell? ⟨b', off' + k * 4 + 1, none⟩ = some (.int .i64 x.lk) /\ W'.cell? ⟨b', off' + k * 4 + 2, none⟩ = some (.string ⟨x.hi.toArray⟩) /\ W'.cell? ⟨b', off' + k * 4 + 3, none⟩ = some (.int .i64 x.hk))) (by kernel_rfl) (by (try dsimp only); (try simp only [World.cell?_drew]); exact ⟨c1, d1, hx.1, hx.2.1, hx.2.2.1, hx.2.2.2, hy.1, hy.2.1, hy.2.2.1, hy.2.2.2⟩) (fun hHeld => ?_)
   refine tk 0 ?_
   refine tk 1 ?_
   refine tk 2 ?_
   refine tk 3 ?_
   refine tk 4 ?_
   refine tk 5 ?_
   refine tk 6 ?_
   refine tk 7 ?_
   refine tk 8 ?_
   refine tk 9 ?_
   refine tk 10 ?_
   refine wpAnyH_done (by kernel_rfl) ?_ _
   go_wp2
   go_roundw
   case rel => exact ⟨k + 1, by omega, by go_num, HBR.out.drew⟩
   case measure => simp [intOf]; omega
  ·obtain rfl : k = l.length := by omega
   go_wp2
   go_ret
   exact ⟨zc rfl, HB.out.trans (HBR.out.mono HB.out.size)⟩
theorem zmn (x : V.Adv) (v v' : Value) (w : World) (hv : Affs w v x.aff) (hv' : Affs w v' x.aff) (hl : x.aff.length ≤ maxLen) :
  Calls Tryz.prog 16 #[advV x v, advV x v'] w fun e w' => e = .returned (.bool true) /\ Below w.heap.size w w' := by
 obtain ⟨pa, pc, rfl⟩ := hv.slice
 obtain ⟨pa', pc', rfl⟩ := hv'.slice
 obtain ⟨hb, h0, h1⟩ := zdf (w := w) (.cells #[.string ⟨x.id.toArray⟩, .int .i64 x.rev, .int .i64 x.sev, .slice pa x.aff.length pc] 25) (.cells #[.string ⟨x.id.toArray⟩, .int .i64 x.rev, .int .i64 x.sev, .slice pa' x.aff.length pc'] 25)
 have HB := zvq hb
 have c0 := (h0 0).trans (World.cell?_alloc_new ..)
 have c1 := (h0 1).trans (World.cell?_alloc_new ..)
 have c2 := (h0 2).trans (World.cell?_alloc_new ..)
 have c3 := (h0 3).trans (World.cell?_alloc_new ..)
 have d0 := (h1 0).trans (World.cell?_alloc_new ..)
 have d1 := (h1 1).trans (World.cell?_alloc_new ..)
 have d2 := (h1 2).trans (World.cell?_alloc_new ..)
 have d3 := (h1 3).trans (World.cell?_alloc_new ..)
 simp only [List.getElem?_toArray, List.getElem?_cons_zero, List.getElem?_cons_succ] at c0 c1 c2 c3 d0 d1 d2 d3
 have HV := zvq (hv.below hb)
 have HV' := zvq (hv'.below hb)
 unfold maxLen at hl
 clear hb h0 h1 hv hv'
 unfold advV
 go_enter Tryz.func16, Tryz.ntmps16
 go_wp2_with fail
 generalize (w.alloc (.cells #[.string ⟨x.id.toArray⟩, .int .i64 x.rev, .int .i64 x.sev, .slice pa x.aff.length pc] 25)).alloc (.cells #[.string ⟨x.id.toArray⟩, .int .i64 x.rev, .int .i64 x.sev, .slice pa' x.aff.length pc'] 25) = w0 at *
 clear c0 c1 c2 d0 d1 d2
 go_loopw [5] (fun iv W => ∃ k : Nat, k ≤ x.aff.length /\ iv = .int .i64 k /\ Below w0.heap.size w0 W) (fun iv _ => x.aff.length - (intOf iv).toNat)
 case atStart => exact ⟨0, Nat.zero_le _, rfl, zvt _ _⟩
 case round =>
  obtain ⟨k, hk, rfl, hbr⟩ := hrel
  have HBR := zvq hbr
  replace c3 := zb hbr c3
  replace d3 := zb hbr d3
  clear hbr
  by_cases hlt : k < x.aff.length
  ·obtain ⟨hwf, b, off, ua, uc, rfl, hb0, hx⟩ := HV.out.at k hlt
   obtain ⟨_, b', off', ua', uc', rfl, hb0', hy⟩ := HV'.out.at k hlt
   have HA := zvq (hx.below HBR.out)
   have HA' := zvq (hy.below HBR.out)
   have HW := zvq hwf
   have i1 : (0 : Int) ≤ (k : Int) := by omega
   have i2 : (k : Int) < (x.aff.length : Int) := by omega
   have wr1 : IntKind.i64.wrap ((k : Int) + 1) = (k : Int) + 1 := IntWalk.i64_in _ (by omega)
   clear hx hy hwf HV HV'
   generalize x.aff[k] = a at *
   go_wp2_with fail
   refine wp_region_held_drew (S := (fun W' => Below wr.heap.size wr W' /\ W'.cell? ⟨w.heap.size, 3, none⟩ = some (.slice (some ⟨b, off, none⟩) x.aff.length pc) /\ W'.cell? ⟨w.heap.size + 1, 3, none⟩ = some (.slice (some ⟨b', off', none⟩) x.aff.length pc') /\ W'.cell? ⟨b, off + k * 4, none⟩ = some (.int .i64 a.sch) /\ W'.cell? ⟨b, off + k * 4 + 1, none⟩ = some (.string ⟨a.name.toArray⟩) /\ W'.cell? ⟨b, off + k * 4 + 2, none⟩ = some (.int .i64 a.rs) /\ W'.cell? ⟨b, off + k * 4 + 3, none⟩ = some (.slice ua a.its.length uc) /\ W'.cell? ⟨b', off' + k * 4, none⟩ = some (.int .i64 a.sch) /\ W'.cell? ⟨b', off' + k * 4 + 1, none⟩ = some (.string ⟨a.name.toArray⟩) /\ W'.cell? ⟨b', off' + k * 4 + 2, none⟩ = some (.int .i64 a.rs) /\ W'.cell? ⟨b', off' + k * 4 + 3, none⟩ = some (.slice ua' a.its.length uc'))) (by kernel_rfl) (by (try dsimp only); exact ⟨(zvt _ _).drew, zb (zvt _ _).drew c3, zb (zvt _ _).drew d3, zb (zvt _ _).drew HA.out.c0, zb (zvt _ _).drew HA.out.c1, zb (zvt _ _).drew HA.out.c2, zb (zvt _ _).drew HA.out.c3, zb (zvt _ _).drew HA'.out.c0, zb (zvt _ _).drew HA'.out.c1, zb (zvt _ _).drew HA'.out.c2, zb (zvt _ _).drew HA'.out.c3⟩) (fun hHeld => ?_)
   refine tk 0 ?_
   refine tk 1 ?_
   refine tk 2 ?_
   refine tk 3 ?_
   refine tk 4 ?_
   refine tk 5 ?_
   refine tk 6 ?_
   refine tk 7 ?_
   refine tk 8 ?_
   refine tk 9 ?_
   refine tk 10 ?_
   refine tk 11 ?_
   refine tk 12 ?_
   refine tk 13 ?_
   refine tk 14 ?_
   refine tk 15 ?_
   refine tk 16 ?_
   refine tk 17 ?_
   refine tk 18 ?_
   refine tk 19 ?_
   refine tk 20 ?_
   refine tk 21 ?_
   refine tk 22 ?_
   refine tk 23 ?_
   refine tk 24 ?_
   refine tk 25 ?_
   refine tk 26 ?_
   refine tk 27 ?_
   refine tk 28 ?_
   refine tk 29 ?_
   refine tk 30 ?_
   refine tk 31 ?_
   refine tk 32 ?_
   refine tk 33 ?_
   refine tk 34 ?_
   refine tk 35 ?_
   refine tk 36 ?_
   refine tk 37 ?_
   refine tk 38 ?_
   refine tk 39 ?_
   refine tk 40 ?_
   refine rd 41 fun K hK => ?_
   go_simp
   refine (zo3 a.rs (.slice ua a.its.length uc) (.slice ua' a.its.length uc') a.its _ (HA.out.its.below (show Below wr.heap.size wr _ from (by first | assumption | exact And.left (by assumption)))) (HA'.out.its.below (show Below wr.heap.size wr _ from (by first | assumption | exact And.left (by assumption)))) HW.out.len).mono ?_
   rintro e wr41 ⟨rfl, hbr41⟩
   try dsimp only
   refine hK.out _ _ ?_ (fun hHeld => nx ?_)
   ·(try dsimp only); go_split_ands; exact ⟨Below.trans (by assumption) (hbr41.mono (Below.size (by assumption))), zvw hbr41, zvw hbr41, zvw hbr41, zvw hbr41, zvw hbr41, zvw hbr41, zvw hbr41, zvw hbr41, zvw hbr41, zvw hbr41⟩
   clear hK K
   refine tk 42 ?_
   refine tk 43 ?_
   refine wpAnyH_done (by kernel_rfl) ?_ _
   have HBZ := zvq (HBR.out.trans (hHeld.1.mono HBR.out.size))
   clear hHeld
   go_wp2
   go_roundw
   case rel => exact ⟨k + 1, by omega, by go_num, HBZ.out⟩
   case measure => simp [intOf]; omega
  ·obtain rfl : k = x.aff.length := by omega
   go_wp2
   go_ret
   exact ⟨zc rfl, HB.out.trans (HBR.out.mono HB.out.size)⟩
open Go.RowKit
theorem V.decV_facts (bs : V.Bs) : (V.decV bs).1.id.length ≤ maxLen /\ (V.decV bs).1.aff.length ≤ maxLen := by
 obtain ⟨⟨ls, c⟩, h⟩ : ∃ p, V.decP bs = p := ⟨_, rfl⟩
 have h1 := V.decP_words (bs := bs)
 have h2 := V.decP_len bs
 rw [h] at h1 h2
 have hz : (V.zV).id.length ≤ maxLen /\ (V.zV).aff.length ≤ maxLen := by decide
 by_cases hc : c = 0
 ·subst hc
  cases hr : V.jk ls with
  | none => rw [V.zhp h hr]; exact hz
  | some x =>
   rw [V.ze1 h hr]
   split
   ·exact V.readV_facts h1 h2 hr
   ·exact hz
 ·rw [V.zkt h hc]; exact hz
theorem zss (w : World) :
  Calls Tryz.prog 18 #[] w fun e w' => e = .returned (.slice (some ⟨w.heap.size, 0, none⟩) 3 3) /\ w' = w.alloc (.cells #[.string ⟨#[119, 45, 49]⟩, .string ⟨#[119, 45, 50]⟩, .string ⟨#[119, 45, 51]⟩] 9) := by
 go_enter Tryz.func18, Tryz.ntmps18
 go_wp2
 go_ret
 exact ⟨rfl, rfl⟩
theorem zqd (w : World) :
  Calls Tryz.prog 20 #[] w fun e w' => e = .returned (.slice (some ⟨w.heap.size, 0, none⟩) 4 4) /\ w' = w.alloc (.cells #[.string ⟨#[122, 108, 105, 98]⟩, .string ⟨#[115, 115, 108]⟩, .string ⟨#[108, 105, 98, 115, 47, 112, 110, 103]⟩, .string ⟨#[97]⟩] 9) := by
 go_enter Tryz.func20, Tryz.ntmps20
 go_wp2
 go_ret
 exact ⟨rfl, rfl⟩
theorem zvd (a : Option Addr) (m cap q0 : Nat) (w : World) (ht : Nums w a m) (hmc : m ≤ cap) (hq0 : q0 ≤ 1000) :
  Calls Tryz.prog 7 #[.slice a m cap, .int .i64 (q0 : Int)] w fun e w' => e = .returned (.pointer (some ⟨w.heap.size, 0, none⟩)) /\ Tape w' w.heap.size 0 /\ Below w.heap.size w w' /\ w.heap.size < w'.heap.size := by
 have HT := zvq ht
 have hl : Nums w a (min m q0) := ⟨by have := ht.1; omega, fun j hj => ht.2 j (by omega)⟩
 have HL := zvq hl
 obtain ⟨q, hq⟩ : ∃ q, q = min m q0 := ⟨_, rfl⟩
 rw [← hq] at HL
 have hq1 : min (m : Int) (q0 : Int) = (q : Int) := by omega
 have hq2 : (0 : Int) ≤ (q : Int) := by omega
 have hq3 : (q : Int) ≤ (cap : Int) := by omega
 have hb : Below w.heap.size w (w.alloc (.cells #[.slice a q cap, .int .i64 0] 60)) := (zvt _ w).alloc (zvs _) _
 have HP : Hid (Tape (w.alloc (.cells #[.slice a q cap, .int .i64 0] 60)) w.heap.size 0) := zvq (Tape.made HL.out hb (zvs _) (by rw [World.cell?_alloc_new]; rfl) (by rw [World.cell?_alloc_new]; rfl) (by rw [zz, if_pos rfl]))
 have HB := zvq hb
 clear ht hl hq hb
 go_enter Tryz.func7, Tryz.ntmps7
 go_wp2
 go_ret
 exact ⟨rfl, HP.out, HB.out, by simp⟩
open Go.RowKit
theorem zg.tape {w w' : World} {b k : Nat} (hm : zg w) (ht : Tape w b k) (hg : w.grownBy w' (some b)) : zg w' := by
 obtain ⟨m, hm⟩ := hm
 obtain ⟨a, n, cap, p, c0, _⟩ := ht
 exact ⟨m, hg.cell hm (fun e => by cases e; rw [c0] at hm; cases hm)⟩
open Go.RowKit
theorem VInv.tape {V0 W W' : World} {N0 O b : Nat} {i r s : Value} {v : Value} {us : List Fs} (h : VInv V0 N0 O i r s v us W) (hg : W.grownBy W' (some b)) (hb : b < N0) : VInv W' N0 O i r s v us W' := by
 have hbs := h.base
 exact ⟨h.row.kept hg (fun e => by have := GRow.block h.row.row _ e; omega) (fun p hp c hc => by have := h.own p hp c hc; omega), (hg.block O h.lt (by intro e; cases e; omega)).trans h.inv, (hg.block N0 (Array.getElem?_eq_some_iff.1 h.zero).1 (by intro e; cases e; omega)).trans h.zero, h.own, zvt _ _, hbs⟩
section
variable {α : Type} {enc : α -> List Value} {k : Nat} {T : TypeId}
end
theorem GRow.heap {α : Type} {enc : α -> List Value} {k : Nat} {T : TypeId} {w : World} {N g n c : Nat} {l : List α} (h : GRow T k enc w N (.slice (some ⟨g, 0, none⟩) n c) l) : ∃ cur fr, w.heap[g]? = some (.cells cur T fr) := by
 rcases h.2 with ⟨h, _⟩ | ⟨g', cap, cur, e, hb, hgg, _⟩
 ·cases h
 ·cases e
  exact ⟨_, _, hgg⟩
def zvi : List V.Bs := [[122, 108, 105, 98], [115, 115, 108], [108, 105, 98, 115, 47, 112, 110, 103], [97]]
open Go.RowKit
theorem FRow.cell {N : Nat} {w : World} {g m cap : Nat} {us : List Fs} (h : FRow N w (.slice (some ⟨g, 0, none⟩) m cap) us) (k : Nat) (hk : k < us.length) :
  N ≤ g /\ g < w.heap.size /\ (∃ cur, w.heap[g]? = some (.cells cur 34 (0, 0))) /\ ∀ i u, (fE us[k])[i]? = some u -> w.cell? ⟨g, k * 4 + i, none⟩ = some u := by
 have hc := GRow.cellsAt h.row (b := g) rfl
 obtain ⟨g', cap', e, h1, h2, h3⟩ := GRow.at zhk h.row k hk
 cases e
 exact ⟨h1, h2, hc, h3⟩
theorem zvj : (Tryz.prog.info? 9).map (·.size) = some 1 := by kernel_rfl
def lcell (l : List V.Bs) : Array Value := (l.map fun x => Value.string ⟨x.toArray⟩).toArray
theorem zu2 (l : List V.Bs) (k : Nat) (x : V.Bs) : (lcell l).setIfInBounds k (.string ⟨x.toArray⟩) = lcell (l.set k x) := by
 unfold lcell
 rw [List.setIfInBounds_toArray, List.map_set]
theorem zkp {w : World} {g : Nat} {l : List V.Bs} {T : TypeId} {fr : Nat × Nat} (h : w.heap[g]? = some (.cells (lcell l) T fr)) : Strs w (.slice (some ⟨g, 0, none⟩) l.length l.length) l := by
 refine ⟨_, _, rfl, fun j hj => ⟨g, 0, rfl, (Array.getElem?_eq_some_iff.1 h).1, ?_⟩⟩
 rw [Nat.zero_add]
 unfold World.cell?
 rw [h]
 simp [lcell, hj]
theorem zsl {w : World} {g k : Nat} {l : List V.Bs} {T : TypeId} {fr : Nat × Nat} (h : w.heap[g]? = some (.cells (lcell l) T fr)) (hk : k < l.length) : ∃ u, w.cell? ⟨g, k, none⟩ = some u := by
 refine ⟨.string ⟨(l[k]).toArray⟩, ?_⟩
 unfold World.cell?
 rw [h]
 simp [lcell, hk]
theorem zew (b k : Nat) (w : World) (l : List V.Bs) (h : Tape w b k) (hk : k ≤ 1000000) (hl : 0 < l.length) (hl2 : l.length ≤ 1000) :
  Calls Tryz.prog 17 #[.pointer (some ⟨b, 0, none⟩), .slice (some ⟨w.heap.size, 0, none⟩) l.length l.length] (w.alloc (.cells (lcell l) 9))
   fun e w' => ∃ x, x ∈ l /\ e = .returned (.string ⟨x.toArray⟩) /\ Tape w' b (k + 1) /\ w.grownBy w' (some b) := by
 refine (pick_any b k _ ⟨w.heap.size, 0, none⟩ l.length l (h.below ((zvt _ w).alloc (zvs _) _)) hk hl hl2 (by have := h.lt; simp; omega) rfl (fun j hj => by
   rw [World.cell?_alloc_new, Nat.zero_add]
   simp [lcell, hj])).mono ?_
 rintro e w1 ⟨x, hx, rfl, ht1, hg1⟩
 exact ⟨x, hx, rfl, ht1, World.grownBy.trans (World.grownBy_alloc w _ (some b)) hg1⟩
theorem next_big (b k : Nat) (n : Int) (w : World) (h : Tape w b k) (hk : k ≤ 1000000000) (h1 : 1 ≤ n) (h2 : n ≤ 140737488355328) :
  Calls Tryz.prog 19 #[.pointer (some ⟨b, 0, none⟩), .int .i64 n] w (zks b k n w) := by
 obtain ⟨a, m, cap, p, c0, c1, hp, hm, hf, hx⟩ := h
 have HX := zvq hx
 have hz := World.block_lt_of_cell? _ _ c0
 unfold maxLen at hm
 clear hx
 by_cases hlt : p < m
 ·exact zxq
 ·exact zxt
def zf7 (L l : List V.Bs) : Prop := l.length = 4 /\ ∀ x ∈ l, x.length ≤ 300 ∨ x ∈ L
theorem zf7.set {L l : List V.Bs} (h : zf7 L l) (k : Nat) {x : V.Bs} (hx : x ∈ L) : zf7 L (l.set k x) :=
 ⟨by rw [List.length_set]; exact h.1, fun y hy => by
   rcases List.mem_or_eq_of_mem_set hy with e | e
   · exact h.2 y e
   · rw [e]; exact .inr hx⟩
theorem lines_sz {L : List V.Bs} {ls : List (List V.Bs)} (hm : ∀ l ∈ ls, zf7 L l) (hL : ∀ x ∈ L, x.length ≤ 300) (hn : ls.length ≤ 1000) : (∀ l ∈ ls, ∀ x ∈ l, x.length ≤ 300) /\ V.jl ls ls.length ≤ 9000000 := by
 have h1 : ∀ l ∈ ls, ∀ x ∈ l, x.length ≤ 300 := fun l hl x hx => by
  rcases (hm l hl).2 x hx with h | h
  ·exact h
  ·exact hL x h
 refine ⟨h1, ?_⟩
 have := V.zhr (ls := ls) (M := 4 * 902) (fun l hl => by
   have h2 := V.zox (h1 l hl)
   have h4 := (hm l hl).1
   rw [h4] at h2 ⊢
   exact h2) ls.length (zvs _)
 have := Nat.mul_le_mul_right (4 * 902) hn
 omega
structure LS (L : List V.Bs) (b M : Nat) (w : World) (v : Value) (us : List Lsl) (ls : List (List V.Bs)) : Prop where
 row : LRow (b + 1) w v us ls
 own : ∀ u ∈ us, ∀ c, u.v.ownBlock = some c -> b < c /\ c < M
 rlt : ∀ c, v.ownBlock = some c -> c < M
 made : ∀ l ∈ ls, zf7 L l
 bM : b < M
namespace LS
variable {L : List V.Bs} {b M : Nat} {w w' : World} {v : Value} {us : List Lsl} {ls : List (List V.Bs)}
theorem call (h : LS L b M w v us ls) (hb : Below w.heap.size w w') : LS L b M w' v us ls := ⟨h.row.later hb, h.own, h.rlt, h.made, h.bM⟩
theorem other (h : LS L b M w v us ls) {g : Nat} (hg : w.grownBy w' (some g)) (hn : g = b ∨ M ≤ g) : LS L b M w' v us ls := by
 refine ⟨⟨?_, h.row.len, fun j hj hj' => ⟨(h.row.each j hj hj').1.grown hg (fun _ c hc e => ?_), (h.row.each j hj hj').2⟩⟩, h.own, h.rlt, h.made, h.bM⟩
 ·refine World.ownsRow.kept h.row.row hg (.inr fun e => ?_)
  have h1 := h.rlt g e
  have h2 := GRow.block h.row.row g e
  omega
 ·have := h.own _ (List.getElem_mem hj) c hc
  cases e
  omega
theorem add (h : LS L b M w v us ls) {v' : Value} {g : Nat} {l : List V.Bs} (hMg : M ≤ g) (hgs : g < w.heap.size) {T : TypeId} {fr : Nat × Nat} (hl : w.heap[g]? = some (.cells (lcell l) T fr)) (hlm : zf7 L l)
  (hr : GRow 47 1 lslE w' (b + 1) v' (us ++ [⟨some ⟨g, 0, none⟩, 4, 4⟩])) (hg : w.grownBy w' v.ownBlock) (ho : v'.ownBlock = v.ownBlock ∨ v'.ownBlock = some w.heap.size) :
  LS L b w'.heap.size w' v' (us ++ [⟨some ⟨g, 0, none⟩, 4, 4⟩]) (ls ++ [l]) := by
 have hst : Strs w (Lsl.v ⟨some ⟨g, 0, none⟩, 4, 4⟩) l := by have := zkp hl; rw [hlm.1] at this; exact this
 refine ⟨h.row.add hr hg ho hst (fun _ c hc e => ?_), fun u hu c hc => ?_, fun c hc => ?_, fun x hx => ?_, by have := h.bM; have := hg.size; omega⟩
 ·simp [Lsl.v, Value.ownBlock] at hc
  have := h.rlt c e
  omega
 ·have hsz := hg.size
  rcases List.mem_append.1 hu with hu | hu
  ·have := h.own u hu c hc; omega
  ·rw [List.mem_singleton.1 hu] at hc
   simp [Lsl.v, Value.ownBlock] at hc
   have := h.bM
   omega
 ·exact GRow.lt hr c hc
 ·rcases List.mem_append.1 hx with hx | hx
  ·exact h.made x hx
  ·rw [List.mem_singleton.1 hx]; exact hlm
theorem one {l : List V.Bs} (hb : b < w.heap.size) (hlm : zf7 L l) : LS L b (w.heap.size + 2) ((w.alloc (.cells (lcell l) 9)).alloc (.cells #[.slice (some ⟨w.heap.size, 0, none⟩) 4 4] 47)) (.slice (some ⟨w.heap.size + 1, 0, none⟩) 1 1) [⟨some ⟨w.heap.size, 0, none⟩, 4, 4⟩] [l] := by
 have hst : Strs (w.alloc (.cells (lcell l) 9)) (Lsl.v ⟨some ⟨w.heap.size, 0, none⟩, 4, 4⟩) l := by
  have := zkp (heap_alloc_new w (.cells (lcell l) 9))
  rw [hlm.1] at this
  exact this
 have hz : (w.alloc (.cells (lcell l) 9)).heap.size = w.heap.size + 1 := World.size_alloc ..
 have hone := LRow.one (N := b + 1) (by rw [hz]; omega) hst (by intro e; have := hlm.1; rw [e] at this; cases this)
 rw [hz] at hone
 refine ⟨hone, fun u hu c hc => ?_, fun c hc => ?_, fun x hx => by rw [List.mem_singleton.1 hx]; exact hlm, by omega⟩
 ·rw [List.mem_singleton.1 hu] at hc
  simp [Lsl.v, Value.ownBlock] at hc
  omega
 ·simp [Value.ownBlock] at hc
  omega
end LS
end Go.Proofs.YtiloljoancdcbaaGreatDoor
