/-
  Lemmas for the law.
-/
import Derived.Test.YtbikeahmldobkaaGreatDoorC51x33
import Derived.Test.YtbikeahmldobkaaGreatDoorC51x10
import Derived.Test.YtbikeahmldobkaaGreatDoorC51x34
import Derived.Test.YtbikeahmldobkaaGreatDoorC51x32
import Derived.Test.YtbikeahmldobkaaGreatDoorC51x31
import Derived.Test.YtbikeahmldobkaaGreatDoorC51x29
import Derived.Test.YtbikeahmldobkaaGreatDoorC51x09
import Derived.Test.YtbikeahmldobkaaGreatDoorC51x21
import Derived.Test.YtbikeahmldobkaaGreatDoorC51x24
import Derived.Test.YtbikeahmldobkaaGreatDoorC51x28
import Derived.Test.YtbikeahmldobkaaGreatDoorC51x40
import Derived.OrdersHeld
import Derived.ProofKit
import Derived.Deep.Strs
import Derived.DeepKeys5
set_option linter.all false
set_option maxRecDepth 100000
set_option maxHeartbeats 1600000
namespace Go.Proofs.YtbikeahmldobkaaGreatDoor
open Go.RowKit
theorem zeo (v v' : Value) (us us' : List (V.Hit × Sd)) (w : World) (hv : zfc w v us) (g6 : zfc w v' us') (he : us.map (·.1) = us'.map (·.1)) (hd : ∀ p ∈ us, p.1.docs.length ≤ 100000) (hl : us.length ≤ 1000000) :
  Calls Tryz.prog 16 #[v, v'] w fun e w' => e = .returned (.bool true) /\ Below w.heap.size w w' := by
 have HV := zu8 hv
 have g7 := zu8 g6
 have HE := zu8 he
 have h4 := zu8 hd
 have hn : us'.length = us.length := by rw [← List.length_map (f := (·.1)), ← he, List.length_map]
 obtain ⟨va, vc, rfl⟩ := hv.1.slice
 obtain ⟨va', vc', rfl⟩ := g6.1.slice
 rw [hn] at g7 ⊢
 have HN := zu8 hn
 clear hv g6 he hd hn
 go_enter Tryz.func16, Tryz.ntmps16
 go_wp2
 go_loopw [5] (fun jv wx => ∃ j : Nat, j ≤ us.length /\ jv = .int .i64 j /\ Below w.heap.size w wx) (fun jv _ => us.length - (intOf jv).toNat)
 case atStart => exact ⟨0, Nat.zero_le _, rfl, zvb _ _⟩
 case round =>
  obtain ⟨j, hj, rfl, g1⟩ := hrel
  have HBX := zu8 g1
  by_cases hlt : j < us.length
  ·have g5 : j < us'.length := by rw [HN.out]; exact hlt
   obtain ⟨g, off, rfl, hg, hc⟩ := HV.out.1.at j hlt
   have g8 : zfc w (.slice va' us'.length vc') us' := by rw [HN.out]; exact g7.out
   obtain ⟨g2, off2, rfl, h8, g9⟩ := g8.1.at j g5
   obtain ⟨p, hp⟩ : ∃ p : V.Hit × Sd, p = us[j] := ⟨_, rfl⟩
   obtain ⟨p2, hp2⟩ : ∃ p : V.Hit × Sd, p = us'[j] := ⟨_, rfl⟩
   have he : p.1 = p2.1 := by
    have h1 := congrArg (fun l : List V.Hit => l[j]?) HE.out
    simp only [List.getElem?_map, List.getElem?_eq_getElem hlt, List.getElem?_eq_getElem g5, Option.map_some] at h1
    rw [hp, hp2]
    exact Option.some.inj h1
   have h0 : Digs wr p.2.v p.1.docs := (HV.out.2 p (by rw [hp]; exact List.getElem_mem hlt)).below g1
   have h2 : Digs wr p2.2.v p2.1.docs := (g7.out.2 p2 (by rw [hp2]; exact List.getElem_mem g5)).below g1
   have h3 : p.1.docs.length ≤ 100000 := h4.out p (by rw [hp]; exact List.getElem_mem hlt)
   have g3 : wr.rangeAt g (off + j * 4) (hE p) := by rw [hp]; exact zi (fun i u hu => hc i u hu) g1
   have g4 : wr.rangeAt g2 (off2 + j * 4) (hE p2) := by rw [hp2]; exact zi (fun i u hu => g9 i u hu) g1
   clear hp hp2 hc g9 g8
   obtain ⟨⟨c0, b0, s0, ds⟩, ⟨sa, sn, sc⟩⟩ := p
   obtain ⟨q1, ⟨ta, tn, tc⟩⟩ := p2
   subst he
   have h5 : Hid (Digs wr (.slice sa sn sc) ds) := zu8 h0
   have h6 : Hid (Digs wr (.slice ta tn tc) ds) := zu8 h2
   have h7 : Hid (ds.length ≤ 100000) := zu8 h3
   have a0 : wr.cell? ⟨g, off + j * 4, none⟩ = some (.int .i64 c0) := g3 0 _ rfl
   have a1 : wr.cell? ⟨g, off + j * 4 + 1, none⟩ = some (.string ⟨b0.toArray⟩) := g3 1 _ rfl
   have a2 : wr.cell? ⟨g, off + j * 4 + 2, none⟩ = some (.int .i64 s0) := g3 2 _ rfl
   have a3 : wr.cell? ⟨g, off + j * 4 + 3, none⟩ = some (.slice sa sn sc) := g3 3 _ rfl
   have e0 : wr.cell? ⟨g2, off2 + j * 4, none⟩ = some (.int .i64 c0) := g4 0 _ rfl
   have e1 : wr.cell? ⟨g2, off2 + j * 4 + 1, none⟩ = some (.string ⟨b0.toArray⟩) := g4 1 _ rfl
   have e2 : wr.cell? ⟨g2, off2 + j * 4 + 2, none⟩ = some (.int .i64 s0) := g4 2 _ rfl
   have e3 : wr.cell? ⟨g2, off2 + j * 4 + 3, none⟩ = some (.slice ta tn tc) := g4 3 _ rfl
   have i1 : (0 : Int) ≤ (j : Int) := by omega
   have i2 : (j : Int) < (us.length : Int) := by omega
   clear h0 h2 h3 g3 g4 g1
   go_wp2_with fail
   refine wp_region_held_drew (S := (fun W' => Below wr.heap.size wr W' /\ W'.cell? ⟨g, off + j * 4, none⟩ = some (.int .i64 c0) /\ W'.cell? ⟨g, off + j * 4 + 1, none⟩ = some (.string ⟨b0.toArray⟩) /\ W'.cell? ⟨g, off + j * 4 + 2, none⟩ = some (.int .i64 s0) /\ W'.cell? ⟨g, off + j * 4 + 3, none⟩ = some (.slice sa sn sc) /\ W'.cell? ⟨g2, off2 + j * 4, none⟩ = some (.int .i64 c0) /\ W'.cell? ⟨g2, off2 + j * 4 + 1, none⟩ = some (.string ⟨b0.toArray⟩) /\ W'.cell? ⟨g2, off2 + j * 4 + 2, none⟩ = some (.int .i64 s0) /\ W'.cell? ⟨g2, off2 + j * 4 + 3, none⟩ = some (.slice ta tn tc))) (by kernel_rfl) (by (try dsimp only); exact ⟨(zvb _ _).drew, zf (zvb _ _).drew a0, zf (zvb _ _).drew a1, zf (zvb _ _).drew a2, zf (zvb _ _).drew a3, zf (zvb _ _).drew e0, zf (zvb _ _).drew e1, zf (zvb _ _).drew e2, zf (zvb _ _).drew e3⟩) (fun hHeld => ?_)
   refine tk 0 ?_
   refine tk 1 ?_
   refine tk 2 ?_
   refine tk 3 ?_
   refine tk 4 ?_
   refine tk 5 ?_
   refine tk 6 ?_
   refine tk 7 ?_
   refine rd 8 fun K hK => ?_
   go_simp
   refine (zn4 c0 ⟨b0.toArray⟩ s0 (.slice sa sn sc) (.slice ta tn tc) ds _ (h5.out.below (show Below wr.heap.size wr _ from (by first | assumption | exact And.left (by assumption)))) (h6.out.below (show Below wr.heap.size wr _ from (by first | assumption | exact And.left (by assumption)))) h7.out).mono ?_
   rintro e wq8 ⟨rfl, g0⟩
   try dsimp only
   refine hK.out _ _ ?_ (fun hHeld => nx ?_)
   ·(try dsimp only); go_split_ands; exact ⟨Below.trans (by assumption) (g0.mono (Below.size (by assumption))), zve g0, zve g0, zve g0, zve g0, zve g0, zve g0, zve g0, zve g0⟩
   clear hK K
   refine tk 9 ?_
   refine wpAnyH_done (by kernel_rfl) ?_ _
   have HB9 := zu8 (HBX.out.trans (hHeld.1.mono HBX.out.size))
   clear hHeld a0 a1 a2 a3 e0 e1 e2 e3
   go_wp2
   go_roundw
   case rel => exact ⟨j + 1, by omega, by go_num, HB9.out⟩
   case measure => simp [intOf]; omega
  ·obtain rfl : j = us.length := by omega
   clear g1
   go_wp2
   go_ret
   exact ⟨rfl, HBX.out⟩
open Go.RowKit
theorem zoe {P : Program} {o : Oper} {ev : Operand -> Value} {w : World} {t : TypeId} {parts : Array (Nat × Operand)} {cells : Array Value} (ho : o.op = .build t parts) (h : P.built t (parts.map fun (i, x) => (i, ev x)).toList = some cells) : (execOp ev o).run P w = .ok (.value (.agg cells)) w := by
 unfold execOp
 simp only [ho, Sem.run_bind, run_build w t _ cells h, Result.andThen_ok, Sem.run_pure]
theorem Comps.setAt {w : World} {g cap : Nat} {l : List V.Comp} (h : Comps w (.slice (some ⟨g, 0, none⟩) l.length cap) l) {k f : Nat} {u : Value} {c : V.Comp} (hk : k < l.length) (hf : f < 36) (hc : CompWf c) (hcs : qb c = (qb l[k]).set f u) :
  Comps (w.setCell ⟨g, k * 36 + f, none⟩ u) (.slice (some ⟨g, 0, none⟩) l.length cap) (l.set k c) := by
 obtain ⟨a, c0, e, g0⟩ := h
 cases e
 refine ⟨_, cap, by rw [List.length_set], fun j hj => ?_⟩
 have g4 : j < l.length := by simpa using hj
 obtain ⟨g5, bk, ok, ek, g7, g1⟩ := g0 k hk
 cases ek
 have g2 : ∃ v, w.cell? ⟨g, k * 36 + f, none⟩ = some v := by
  have g9 := yq g5
  have := g1 f _ (List.getElem?_eq_getElem (show f < (qb l[k]).length by omega))
  rw [Nat.zero_add] at this
  exact ⟨_, this⟩
 have hz : (w.setCell ⟨g, k * 36 + f, none⟩ u).heap.size = w.heap.size := by simp [World.setCell]
 by_cases hjk : j = k
 ·subst hjk
  rw [List.getElem_set_self]
  refine ⟨hc, g, 0, rfl, by omega, fun i u' hu => ?_⟩
  rw [zh7 w _ _ _ _ u g2]
  rw [hcs, List.getElem?_set] at hu
  by_cases hi : i = f
  ·subst hi
   rw [if_pos ⟨rfl, by omega⟩]
   rw [if_pos rfl] at hu
   split at hu
   ·exact hu
   ·cases hu
  ·rw [if_neg (by omega)]
   rw [if_neg (by omega)] at hu
   exact g1 i u' hu
 ·obtain ⟨g3, bj, oj, ej, g8, g6⟩ := g0 j g4
  cases ej
  rw [List.getElem_set_ne (by omega)]
  refine ⟨g3, g, 0, rfl, by omega, fun i u' hu => ?_⟩
  have hi : i < 36 := by
   have := (List.getElem?_eq_some_iff.1 hu).1
   rwa [yq g3] at this
  rw [zh7 w _ _ _ _ u g2, if_neg (by omega)]
  exact g6 i u' hu
open Go.RowKit
open Go.ChangeShapes Go.WideShapes Go.ChangeAt Go.RowKit
open Go.ChangeShapes Go.WideShapes Go.ChangeAt Go.RowKit
open Go.ChangeShapes Go.WideShapes Go.ChangeAt Go.RowKit
open Go.ChangeShapes Go.WideShapes Go.ChangeAt Go.RowKit
open Go.ChangeShapes Go.WideShapes Go.ChangeAt Go.RowKit
open Go.RowKit
theorem zg7 {ys : List V.Note} {l : List V.Comp} : ∀ {k : Nat}, ∀ h ∈ V.jw ys l k, h.docs.length ≤ ys.length
 | 0, h, hh => by simp [V.jw] at hh
 | k + 1, h, hh => by
  rw [V.jw, List.mem_append] at hh
  rcases hh with hh | hh
  ·exact zg7 h hh
  ·split at hh
   ·rename_i c hc
    unfold V.ul at hh
    obtain ⟨id, _, rfl⟩ := List.mem_map.1 hh
    unfold V.hitN
    refine Nat.le_trans (V.zup _) ?_
    unfold V.selN
    exact List.length_filter_le _ _
   ·simp at hh
theorem zrw {ok : Bool} {ys : List V.Note} {l : List V.Comp} {h : V.Hit} (hh : h ∈ V.kt ok ys l) : h.docs.length ≤ ys.length := by
 unfold V.kt at hh
 split at hh
 ·exact zg7 h hh
 ·simp at hh
theorem zmh {ok : Bool} {xs : List NV} {l : List V.Comp} {us : List (V.Hit × Sd)} (hx : xs.length ≤ 8) (h : us.map (·.1) = V.kt ok (xs.map (·.n)) l) (p : V.Hit × Sd) (hp : p ∈ us) : p.1.docs.length ≤ 100000 := by
 have h1 : p.1 ∈ V.kt ok (xs.map (·.n)) l := by rw [← h]; exact List.mem_map_of_mem hp
 have := zrw h1
 rw [List.length_map] at this
 omega
theorem zeb {ok : Bool} {xs : List NV} {l : List V.Comp} {us : List (V.Hit × Sd)} (hx : l.length ≤ 12 /\ xs.length ≤ 8) (h : us.map (·.1) = V.kt ok (xs.map (·.n)) l) : us.length ≤ 1000000 := by
 have h1 := zgk (ok := ok) (ys := xs.map (·.n)) (l := l)
 rw [← h, List.length_map, List.length_map] at h1
 have h2 : l.length * xs.length ≤ 12 * 8 := Nat.mul_le_mul hx.1 hx.2
 omega
def CInvPost (b k most : Nat) (w : World) (e : Ending) (w' : World) : Prop :=
 ∃ (x r : Nat) (v : Value) (l : List V.Comp), 1 ≤ x /\ x ≤ 6 /\ r < 9 /\ l.length ≤ most /\ V.qf l l.length = true /\ e = .returned (.agg (icells (dig1 x) r v)) /\ CRow w' w.heap.size v l /\ Tape w' b (k + 3 + 6 * most) /\ w.grownBy w' (some b)
def zug (b k most : Nat) (w : World) (e : Ending) (w' : World) : Prop :=
 ∃ (x r : Nat) (v : Value) (l : List V.Comp), 1 ≤ x /\ x ≤ 6 /\ r < 9 /\ l.length ≤ most /\ V.qf l l.length = true /\ e = .returned (.agg (icells (dig1 x) r v)) /\ CRow w' w.heap.size v l /\ Tape w' b (k + 3 + 6 * most) /\ w.grownBy w' (some b) /\ ∀ c ∈ l, c.name ∈ xy
theorem zsj (x : Nat) (h : x ≤ 6) : ∀ n ∈ dig1 x, (Lit.int .u8 n).wf = true := fun n hn => by
 unfold dig1 at hn
 rcases List.mem_cons.1 hn with rfl | hn
 ·simp [Lit.wf, IntKind.min, IntKind.max, IntKind.signed, IntKind.bits]; omega
 ·rw [List.eq_of_mem_replicate hn]; decide
theorem zk3 (b k most : Nat) (w : World) (h : Tape w b k) (hk : k ≤ 1000) (g4 : most ≤ 100) :
  Calls Tryz.prog 13 #[.pointer (some ⟨b, 0, none⟩), .int .i64 most] w (zug b k most w) := by
 have HT := zu8 h
 have hbw := h.lt
 clear h
 go_enter Tryz.func13, Tryz.ntmps13
 go_wp2_with fail
 rw [zb3]
 obtain ⟨W0, hW0⟩ : ∃ W0, W0 = w.alloc (.cells (icells zq 0 (.slice none 0 0)) 29) := ⟨_, rfl⟩
 have g6 : W0.heap[w.heap.size]? = some (.cells (icells zq 0 (.slice none 0 0)) 29 (0, 0)) := by rw [hW0]; exact heap_alloc_new w _
 have h6 : W0.heap.size = w.heap.size + 1 := by rw [hW0]; simp
 have g2 : Below w.heap.size w W0 := by rw [hW0]; exact (zvb _ w).alloc (zva _) _
 rw [← hW0]
 clear hW0
 refine (zsk b k _ (HT.out.below g2) (by omega)).mono ?_
 rintro e w1 ⟨x, h7, h8, rfl, ht1, hg1⟩
 have HG1 := zu8 (World.grownBy.trans (zm g2 (some b)) hg1)
 have HT1 := zu8 ht1
 have g7 : w.heap.size < w1.heap.size := Nat.lt_of_lt_of_le (by omega) hg1.size
 have h9 : Hid (w1.heap[w.heap.size]? = some (.cells (icells zq 0 (.slice none 0 0)) 29 (0, 0))) := zu8 ((hg1.block _ (by omega) (by simp; omega)).trans g6)
 clear g6 h6 g2 ht1 hg1
 obtain ⟨dc, g3⟩ : ∃ dc, dc = dcells (dig1 (x : Int)) := ⟨_, rfl⟩
 have j0 := zu8 g3
 rw [← g3]
 clear g3
 go_wp2_with fail
 refine (jq b (k + 1) 9 _ HT1.out (by omega) (by omega) (by omega)).mono ?_
 rintro e w2 ⟨r, hr, rfl, g8, g0⟩
 have j1 := zu8 (HG1.out.trans g0)
 have j2 := zu8 g8
 have j3 : w.heap.size < w2.heap.size := Nat.lt_of_lt_of_le g7 g0.size
 have j4 := zu8 ((g0.block _ g7 (by simp; omega)).trans h9.out)
 clear g8 g0
 go_wp2_with fail
 refine (zrv b (k + 1 + 1) most _ j2.out (by omega) g4).mono ?_
 rintro e w3 ⟨v, l, hl, g9, rfl, g1, h0, hg3, h1⟩
 have j5 := zu8 h1
 clear h1
 obtain ⟨va, vc, j6, g5⟩ := g1.comps
 subst j6
 clear g5
 have h2 : CRow w3 w.heap.size (.slice va l.length vc) l := g1.less (by omega)
 have j7 := zu8 (j1.out.trans hg3)
 have j8 := zu8 h0
 have h3 := zu8 ((hg3.block _ j3 (by simp; omega)).trans j4.out)
 have h4 := h2.comps.one
 have j9 : Hid (CRow (w3.setRow w.heap.size (icells (dig1 x) r (.slice va l.length vc))) w.heap.size (.slice va l.length vc) l) := zu8 (by
   have h5 : CRow w3 (w.heap.size + 1) (.slice va l.length vc) l := g1.less (by omega)
   exact (h5.kept (zz w3 w.heap.size _) (by intro g e; cases e; omega)).less (by omega))
 have HIN : Hid ((Tryz.prog.info? 29).map (·.size) = some (icells (dig1 x) r (.slice va l.length vc)).size) := zu8 (by rw [xu, qn rfl])
 have HS : Hid ((icells zq 0 (.slice none 0 0)).size = (icells (dig1 x) r (.slice va l.length vc)).size) := zu8 (by rw [qn rfl, qn rfl])
 have HO := zu8 (zck (d := dig1 x) (time := r) h4)
 have k0 := zu8 g9
 clear g1 h0 hg3 g9 h2 h4
 rw [j0.out]
 go_wp2_with (first
   | (refine wpList_buildTo rfl 29 _ rfl _ rfl (icells (dig1 x) r (.slice va l.length vc)) (by kernel_rfl) ?_)
   | (refine wpList_store_row rfl _ _ _ rfl w.heap.size (icells (dig1 x) r (.slice va l.length vc)) rfl rfl 29 _ h3.out HIN.out HS.out HO.out ?_)
   | fail)
 refine bodyPost_ret (v := .agg (icells (dig1 x) r (.slice va l.length vc))) ?_ rfl ⟨x, r, .slice va l.length vc, l, h7, h8, by omega, hl, k0.out, rfl, j9.out, ?_, ?_, j5.out⟩
 ·exact qp Tryz.results13 rfl (run_loadVar_row _ w.heap.size _ _ _ (0, 0) _ (setRow_heap w3 w.heap.size _ _ _ _ h3.out) Tryz.underlying29 rfl HIN.out)
 ·exact (j8.out.grown (zz w3 w.heap.size _) (by simp; omega) (by intro b' e; cases e; omega)).le (by omega)
 ·exact zak j7.out (zz _ _ _) (zva _)
theorem cinv_any (b k most : Nat) (w : World) (h : Tape w b k) (hk : k ≤ 1000) (g0 : most ≤ 100) :
  Calls Tryz.prog 13 #[.pointer (some ⟨b, 0, none⟩), .int .i64 most] w (CInvPost b k most w) :=
 (zk3 b k most w h hk g0).mono fun _ _ ⟨x, r, v, l, h1, h2, h3, h4, h5, h6, h7, h8, h9, _⟩ => ⟨x, r, v, l, h1, h2, h3, h4, h5, h6, h7, h8, h9⟩
end Go.Proofs.YtbikeahmldobkaaGreatDoor
