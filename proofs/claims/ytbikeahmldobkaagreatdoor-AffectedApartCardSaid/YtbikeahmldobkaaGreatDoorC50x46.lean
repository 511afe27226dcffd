/-
  Lemmas for the law.
-/
import Derived.Test.YtbikeahmldobkaaGreatDoorC50x33
import Derived.Test.YtbikeahmldobkaaGreatDoorC50x30
import Derived.Test.YtbikeahmldobkaaGreatDoorC50x34
import Derived.Test.YtbikeahmldobkaaGreatDoorC50x09
import Derived.Test.YtbikeahmldobkaaGreatDoorC50x32
import Derived.Test.YtbikeahmldobkaaGreatDoorC50x26
import Derived.Test.YtbikeahmldobkaaGreatDoorC50x08
import Derived.Test.YtbikeahmldobkaaGreatDoorC50x18
import Derived.Test.YtbikeahmldobkaaGreatDoorC50x21
import Derived.Test.YtbikeahmldobkaaGreatDoorC50x24
import Derived.Test.YtbikeahmldobkaaGreatDoorC50x39
import Derived.Test.YtbikeahmldobkaaGreatDoorC50x28
import Derived.Test.YtbikeahmldobkaaGreatDoorC50x43
import Derived.OrdersHeld
import Derived.ProofKit
import Derived.Deep.Strs
import Derived.DeepKeys5
set_option linter.all false
set_option maxRecDepth 100000
set_option maxHeartbeats 6400000
namespace Go.Proofs.YtbikeahmldobkaaGreatDoor
open Go.RowKit
namespace V
end V
open Go.RowKit
theorem zfe (v v' : Value) (us us' : List (V.Hit × Sd)) (w : World) (hv : zf4 w v us) (g6 : zf4 w v' us') (he : us.map (·.1) = us'.map (·.1)) (hd : ∀ p ∈ us, p.1.docs.length ≤ 100000) (hl : us.length ≤ 1000000) :
  Calls Tryz.prog 16 #[v, v'] w fun e w' => e = .returned (.bool true) /\ Below w.heap.size w w' := by
 have HV := zwg hv
 have g7 := zwg g6
 have HE := zwg he
 have h3 := zwg hd
 have hn : us'.length = us.length := by rw [← List.length_map (f := (·.1)), ← he, List.length_map]
 obtain ⟨va, vc, rfl⟩ := hv.1.slice
 obtain ⟨va', vc', rfl⟩ := g6.1.slice
 rw [hn] at g7 ⊢
 have HN := zwg hn
 clear hv g6 he hd hn
 go_enter Tryz.func16, Tryz.ntmps16
 go_wp2
 go_loopw [5] (fun jv wx => ∃ j : Nat, j ≤ us.length /\ jv = .int .i64 j /\ Below w.heap.size w wx) (fun jv _ => us.length - (intOf jv).toNat)
 case atStart => exact ⟨0, Nat.zero_le _, rfl, zwj _ _⟩
 case round =>
  obtain ⟨j, hj, rfl, g1⟩ := hrel
  have HBX := zwg g1
  by_cases hlt : j < us.length
  ·have g5 : j < us'.length := by rw [HN.out]; exact hlt
   obtain ⟨g, off, rfl, hg, hc⟩ := HV.out.1.at j hlt
   have hv9 : zf4 w (.slice va' us'.length vc') us' := by rw [HN.out]; exact g7.out
   obtain ⟨g2, off2, rfl, h7, g8⟩ := hv9.1.at j g5
   obtain ⟨p, hp⟩ : ∃ p : V.Hit × Sd, p = us[j] := ⟨_, rfl⟩
   obtain ⟨p2, hp2⟩ : ∃ p : V.Hit × Sd, p = us'[j] := ⟨_, rfl⟩
   have he : p.1 = p2.1 := by
    have h1 := congrArg (fun l : List V.Hit => l[j]?) HE.out
    simp only [List.getElem?_map, List.getElem?_eq_getElem hlt, List.getElem?_eq_getElem g5, Option.map_some] at h1
    rw [hp, hp2]
    exact Option.some.inj h1
   have g9 : Digs wr p.2.v p.1.docs := (HV.out.2 p (by rw [hp]; exact List.getElem_mem hlt)).below g1
   have h0 : Digs wr p2.2.v p2.1.docs := (g7.out.2 p2 (by rw [hp2]; exact List.getElem_mem g5)).below g1
   have h2 : p.1.docs.length ≤ 100000 := h3.out p (by rw [hp]; exact List.getElem_mem hlt)
   have g3 : wr.rangeAt g (off + j * 4) (hE p) := by rw [hp]; exact zk (fun i u hu => hc i u hu) g1
   have g4 : wr.rangeAt g2 (off2 + j * 4) (hE p2) := by rw [hp2]; exact zk (fun i u hu => g8 i u hu) g1
   clear hp hp2 hc g8 hv9
   obtain ⟨⟨c0, b0, s0, ds⟩, ⟨sa, sn, sc⟩⟩ := p
   obtain ⟨q1, ⟨ta, tn, tc⟩⟩ := p2
   subst he
   have h4 : Hid (Digs wr (.slice sa sn sc) ds) := zwg g9
   have h5 : Hid (Digs wr (.slice ta tn tc) ds) := zwg h0
   have h6 : Hid (ds.length ≤ 100000) := zwg h2
   have a0 : wr.cell? ⟨g, off + j * 4, none⟩ = some (.int .i64 c0) := g3 0 _ rfl
   have a1 : wr.cell? ⟨g, off + j * 4 + 1, none⟩ = some (.string ⟨b0.toArray⟩) := g3 1 _ rfl
   have a2 : wr.cell? ⟨g, off + j * 4 + 2, none⟩ = some (.int .i64 s0) := g3 2 _ rfl
   have a3 : wr.cell? ⟨g, off + j * 4 + 3, none⟩ = some (.slice sa sn sc) := g3 3 _ rfl
   have e0 : wr.cell? ⟨g2, off2 + j * 4, none⟩ = some (.int .i64 c0) := g4 0 _ rfl
   have e1 : wr.cell? ⟨g2, off2 + j * 4 + 1, none⟩ = some (.string ⟨b0.toArray⟩) := g4 1 _ rfl
   have e2 : wr.cell? ⟨g2, off2 + j * 4 + 2, none⟩ = some (.int .i64 s0) := g4 2 _ rfl
   have e3 : wr.cell? ⟨g2, off2 + j * 4 + 3, none⟩ = some (.slice ta tn tc) := g4 3 _ rfl
   have i1 : (0 : Int) ≤ (j : Int) := by omega
   have i2 : (j : Int) < (us.length : Int) := by omega
   clear g9 h0 h2 g3 g4 g1
   go_wp2_with fail
   refine wp_region_held_drew (S := (fun W' => Below wr.heap.size wr W' /\ W'.cell? ⟨g, off + j * 4, none⟩ = some (.int .i64 c0) /\ W'.cell? ⟨g, off + j * 4 + 1, none⟩ = some (.string ⟨b0.toArray⟩) /\ W'.cell? ⟨g, off + j * 4 + 2, none⟩ = some (.int .i64 s0) /\ W'.cell? ⟨g, off + j * 4 + 3, none⟩ = some (.slice sa sn sc) /\ W'.cell? ⟨g2, off2 + j * 4, none⟩ = some (.int .i64 c0) /\ W'.cell? ⟨g2, off2 + j * 4 + 1, none⟩ = some (.string ⟨b0.toArray⟩) /\ W'.cell? ⟨g2, off2 + j * 4 + 2, none⟩ = some (.int .i64 s0) /\ W'.cell? ⟨g2, off2 + j * 4 + 3, none⟩ = some (.slice ta tn tc))) (by kernel_rfl) (by (try dsimp only); exact ⟨(zwj _ _).drew, zf (zwj _ _).drew a0, zf (zwj _ _).drew a1, zf (zwj _ _).drew a2, zf (zwj _ _).drew a3, zf (zwj _ _).drew e0, zf (zwj _ _).drew e1, zf (zwj _ _).drew e2, zf (zwj _ _).drew e3⟩) (fun hHeld => ?_)
   refine tk 0 ?_
   refine tk 1 ?_
   refine tk 2 ?_
   refine tk 3 ?_
   refine tk 4 ?_
   refine tk 5 ?_
   refine tk 6 ?_
   refine tk 7 ?_
   refine rd 8 fun K hK => ?_
   go_simp
   refine (zox c0 ⟨b0.toArray⟩ s0 (.slice sa sn sc) (.slice ta tn tc) ds _ (h4.out.below (show Below wr.heap.size wr _ from (by first | assumption | exact And.left (by assumption)))) (h5.out.below (show Below wr.heap.size wr _ from (by first | assumption | exact And.left (by assumption)))) h6.out).mono ?_
   rintro e wq8 ⟨rfl, g0⟩
   try dsimp only
   refine hK.out _ _ ?_ (fun hHeld => nx ?_)
   ·(try dsimp only); go_split_ands; exact ⟨Below.trans (by assumption) (g0.mono (Below.size (by assumption))), zwm g0, zwm g0, zwm g0, zwm g0, zwm g0, zwm g0, zwm g0, zwm g0⟩
   clear hK K
   refine tk 9 ?_
   refine wpAnyH_done (by kernel_rfl) ?_ _
   have HB9 := zwg (HBX.out.trans (hHeld.1.mono HBX.out.size))
   clear hHeld a0 a1 a2 a3 e0 e1 e2 e3
   go_wp2
   go_roundw
   case rel => exact ⟨j + 1, by omega, by go_num, HB9.out⟩
   case measure => simp [intOf]; omega
  ·obtain rfl : j = us.length := by omega
   clear g1
   go_wp2
   go_ret
   exact ⟨rfl, HBX.out⟩
open Go.RowKit
open Go.RowKit
open Go.ChangeShapes Go.WideShapes Go.ChangeAt Go.RowKit
open Go.ChangeShapes Go.WideShapes Go.ChangeAt Go.RowKit
open Go.ChangeShapes Go.WideShapes Go.ChangeAt Go.RowKit
open Go.ChangeShapes Go.WideShapes Go.ChangeAt Go.RowKit
open Go.ChangeShapes Go.WideShapes Go.ChangeAt Go.RowKit
open Go.RowKit
theorem zh3 {ys : List V.Note} {l : List V.Comp} : ∀ {k : Nat}, ∀ h ∈ V.jh ys l k, h.docs.length ≤ ys.length
 | 0, h, hh => by simp [V.jh] at hh
 | k + 1, h, hh => by
  rw [V.jh, List.mem_append] at hh
  rcases hh with hh | hh
  ·exact zh3 h hh
  ·split at hh
   ·rename_i c hc
    unfold V.zae at hh
    obtain ⟨id, _, rfl⟩ := List.mem_map.1 hh
    unfold V.hitN
    refine Nat.le_trans (V.zvx _) ?_
    unfold V.selN
    exact List.length_filter_le _ _
   ·simp at hh
theorem zsv {ok : Bool} {ys : List V.Note} {l : List V.Comp} {h : V.Hit} (hh : h ∈ V.kx ok ys l) : h.docs.length ≤ ys.length := by
 unfold V.kx at hh
 split at hh
 ·exact zh3 h hh
 ·simp at hh
theorem zm4 {ok : Bool} {xs : List NV} {l : List V.Comp} {us : List (V.Hit × Sd)} (hx : xs.length ≤ 8) (h : us.map (·.1) = V.kx ok (xs.map (·.n)) l) (p : V.Hit × Sd) (hp : p ∈ us) : p.1.docs.length ≤ 100000 := by
 have h1 : p.1 ∈ V.kx ok (xs.map (·.n)) l := by rw [← h]; exact List.mem_map_of_mem hp
 have := zsv h1
 rw [List.length_map] at this
 omega
theorem ze2 {ok : Bool} {xs : List NV} {l : List V.Comp} {us : List (V.Hit × Sd)} (hx : l.length ≤ 12 /\ xs.length ≤ 8) (h : us.map (·.1) = V.kx ok (xs.map (·.n)) l) : us.length ≤ 1000000 := by
 have h1 := zev (ok := ok) (ys := xs.map (·.n)) (l := l)
 rw [← h, List.length_map, List.length_map] at h1
 have h2 : l.length * xs.length ≤ 12 * 8 := Nat.mul_le_mul hx.1 hx.2
 omega
def CInvPost (b k most : Nat) (w : World) (e : Ending) (w' : World) : Prop :=
 ∃ (x r : Nat) (v : Value) (l : List V.Comp), 1 ≤ x /\ x ≤ 6 /\ r < 9 /\ l.length ≤ most /\ V.qg l l.length = true /\ e = .returned (.agg (icells (dig1 x) r v)) /\ CRow w' w.heap.size v l /\ Tape w' b (k + 3 + 6 * most) /\ w.grownBy w' (some b)
def zvo (b k most : Nat) (w : World) (e : Ending) (w' : World) : Prop :=
 ∃ (x r : Nat) (v : Value) (l : List V.Comp), 1 ≤ x /\ x ≤ 6 /\ r < 9 /\ l.length ≤ most /\ V.qg l l.length = true /\ e = .returned (.agg (icells (dig1 x) r v)) /\ CRow w' w.heap.size v l /\ Tape w' b (k + 3 + 6 * most) /\ w.grownBy w' (some b) /\ ∀ c ∈ l, c.name ∈ vy
theorem zm9 (x : Nat) (h : x ≤ 6) : ∀ n ∈ dig1 x, (Lit.int .u8 n).wf = true := fun n hn => by
 unfold dig1 at hn
 rcases List.mem_cons.1 hn with rfl | hn
 ·simp [Lit.wf, IntKind.min, IntKind.max, IntKind.signed, IntKind.bits]; omega
 ·rw [List.eq_of_mem_replicate hn]; decide
theorem zux (b k most : Nat) (w : World) (h : Tape w b k) (hk : k ≤ 1000) (g4 : most ≤ 100) :
  Calls Tryz.prog 13 #[.pointer (some ⟨b, 0, none⟩), .int .i64 most] w (zvo b k most w) := by
 have HT := zwg h
 have hbw := h.lt
 clear h
 go_enter Tryz.func13, Tryz.ntmps13
 go_wp2_with fail
 rw [zcv]
 obtain ⟨W0, hW0⟩ : ∃ W0, W0 = w.alloc (.cells (icells zu 0 (.slice none 0 0)) 29) := ⟨_, rfl⟩
 have g6 : W0.heap[w.heap.size]? = some (.cells (icells zu 0 (.slice none 0 0)) 29 (0, 0)) := by rw [hW0]; exact heap_alloc_new w _
 have h6 : W0.heap.size = w.heap.size + 1 := by rw [hW0]; simp
 have g2 : Below w.heap.size w W0 := by rw [hW0]; exact (zwj _ w).alloc (zwi _) _
 rw [← hW0]
 clear hW0
 refine (ztj b k _ (HT.out.below g2) (by omega)).mono ?_
 rintro e w1 ⟨x, h7, h8, rfl, ht1, hg1⟩
 have HG1 := zwg (World.grownBy.trans (zn g2 (some b)) hg1)
 have HT1 := zwg ht1
 have g7 : w.heap.size < w1.heap.size := Nat.lt_of_lt_of_le (by omega) hg1.size
 have h9 : Hid (w1.heap[w.heap.size]? = some (.cells (icells zu 0 (.slice none 0 0)) 29 (0, 0))) := zwg ((hg1.block _ (by omega) (by simp; omega)).trans g6)
 clear g6 h6 g2 ht1 hg1
 obtain ⟨dc, g3⟩ : ∃ dc, dc = dcells (dig1 (x : Int)) := ⟨_, rfl⟩
 have j0 := zwg g3
 rw [← g3]
 clear g3
 go_wp2_with fail
 refine (jf b (k + 1) 9 _ HT1.out (by omega) (by omega) (by omega)).mono ?_
 rintro e w2 ⟨r, hr, rfl, g8, g0⟩
 have j1 := zwg (HG1.out.trans g0)
 have j2 := zwg g8
 have j3 : w.heap.size < w2.heap.size := Nat.lt_of_lt_of_le g7 g0.size
 have j4 := zwg ((g0.block _ g7 (by simp; omega)).trans h9.out)
 clear g8 g0
 go_wp2_with fail
 refine (zsu b (k + 1 + 1) most _ j2.out (by omega) g4).mono ?_
 rintro e w3 ⟨v, l, hl, g9, rfl, g1, h0, hg3, h1⟩
 have j5 := zwg h1
 clear h1
 obtain ⟨va, vc, j6, g5⟩ := g1.comps
 subst j6
 clear g5
 have h2 : CRow w3 w.heap.size (.slice va l.length vc) l := g1.less (by omega)
 have j7 := zwg (j1.out.trans hg3)
 have j8 := zwg h0
 have h3 := zwg ((hg3.block _ j3 (by simp; omega)).trans j4.out)
 have h4 := h2.comps.one
 have j9 : Hid (CRow (w3.setRow w.heap.size (icells (dig1 x) r (.slice va l.length vc))) w.heap.size (.slice va l.length vc) l) := zwg (by
   have h5 : CRow w3 (w.heap.size + 1) (.slice va l.length vc) l := g1.less (by omega)
   exact (h5.kept (qc w3 w.heap.size _) (by intro g e; cases e; omega)).less (by omega))
 have HIN : Hid ((Tryz.prog.info? 29).map (·.size) = some (icells (dig1 x) r (.slice va l.length vc)).size) := zwg (by rw [yw, ql rfl])
 have HS : Hid ((icells zu 0 (.slice none 0 0)).size = (icells (dig1 x) r (.slice va l.length vc)).size) := zwg (by rw [ql rfl, ql rfl])
 have HO := zwg (zbk (d := dig1 x) (time := r) h4)
 have HTO := zwg g9
 clear g1 h0 hg3 g9 h2 h4
 rw [j0.out]
 go_wp2_with (first
   | (refine wpList_buildTo rfl 29 _ rfl _ rfl (icells (dig1 x) r (.slice va l.length vc)) (by kernel_rfl) ?_)
   | (refine wpList_store_row rfl _ _ _ rfl w.heap.size (icells (dig1 x) r (.slice va l.length vc)) rfl rfl 29 _ h3.out HIN.out HS.out HO.out ?_)
   | fail)
 refine bodyPost_ret (v := .agg (icells (dig1 x) r (.slice va l.length vc))) ?_ rfl ⟨x, r, .slice va l.length vc, l, h7, h8, by omega, hl, HTO.out, rfl, j9.out, ?_, ?_, j5.out⟩
 ·exact qr Tryz.results13 rfl (run_loadVar_row _ w.heap.size _ _ _ (0, 0) _ (setRow_heap w3 w.heap.size _ _ _ _ h3.out) Tryz.underlying29 rfl HIN.out)
 ·exact (j8.out.grown (qc w3 w.heap.size _) (by simp; omega) (by intro b' e; cases e; omega)).le (by omega)
 ·exact za2 j7.out (qc _ _ _) (zwi _)
theorem zj5 (b k most : Nat) (w : World) (h : Tape w b k) (hk : k ≤ 1000) (g0 : most ≤ 100) :
  Calls Tryz.prog 13 #[.pointer (some ⟨b, 0, none⟩), .int .i64 most] w (CInvPost b k most w) :=
 (zux b k most w h hk g0).mono fun _ _ ⟨x, r, v, l, h1, h2, h3, h4, h5, h6, h7, h8, h9, _⟩ => ⟨x, r, v, l, h1, h2, h3, h4, h5, h6, h7, h8, h9⟩
open Go.RowKit
theorem GSl.drop {α : Type} {k : Nat} {enc : α -> List Value} {w : World} {g off n cap i : Nat} {l : List α} (h : GSl k enc w (.slice (some ⟨g, off, none⟩) n cap) l) : GSl k enc w (.slice (some ⟨g, off + i * k, none⟩) (l.drop i).length (cap - i)) (l.drop i) := by
 obtain ⟨a, c, e, hc⟩ := h
 obtain ⟨e1, _, _⟩ := Value.slice.inj e
 subst e1
 refine ⟨_, _, rfl, fun j hj => ?_⟩
 have g0 : i + j < l.length := by rw [List.length_drop] at hj; omega
 obtain ⟨g', off', ea, hg, hcell⟩ := hc (i + j) g0
 cases ea
 refine ⟨_, _, rfl, hg, fun q u hu => ?_⟩
 rw [List.getElem_drop] at hu
 have := hcell q u hu
 rw [show off + i * k + j * k + q = off + (i + j) * k + q by rw [Nat.add_mul]; omega]
 exact this
theorem GSl.take {α : Type} {k : Nat} {enc : α -> List Value} {w : World} {a : Option Addr} {n cap i c : Nat} {l : List α} (h : GSl k enc w (.slice a n cap) l) : GSl k enc w (.slice a (l.take i).length c) (l.take i) := by
 obtain ⟨a', c', e, hc⟩ := h
 obtain ⟨e1, _, _⟩ := Value.slice.inj e
 subst e1
 refine ⟨_, _, rfl, fun j hj => ?_⟩
 have g0 : j < l.length := by rw [List.length_take] at hj; omega
 obtain ⟨g', off', ea, hg, hcell⟩ := hc j g0
 refine ⟨g', off', ea, hg, fun q u hu => ?_⟩
 rw [List.getElem_take] at hu
 exact hcell q u hu
theorem zo1 {w : World} {v : Value} {us : List NS} (h : GSl 37 nE w v us) (hok : ∀ p ∈ us, NOk w p.nv) : Notes w v (us.map (·.nv)) := by
 obtain ⟨a, cap, rfl, hc⟩ := h
 refine ⟨a, cap, by rw [List.length_map], fun j hj => ?_⟩
 have g0 : j < us.length := by simpa using hj
 obtain ⟨g, off, ea, hg, hcell⟩ := hc j g0
 have hm := hok _ (List.getElem_mem g0)
 rw [List.getElem_map]
 refine ⟨hm, g, off, ea, hg, fun i u hu => hcell i u ?_⟩
 rw [nE_nl hm.doc]
 exact hu
theorem zsq {ok : Bool} {xs ys : List V.Note} {l : List V.Comp} (h : ∀ x, x ∈ xs ↔ x ∈ ys) : V.kx ok xs l = V.kx ok ys l := by
 unfold V.kx
 split
 ·exact V.zhu (fun c _ x _ => h x) _
 ·rfl
open Go.RowKit
theorem zza {P : Prop} (h : P := by
 exact fun w' hSw => zdo (ty := 29) rfl rfl (zc5 ((hSw.block w3.heap.size HXl.out).trans HG4.out) Tryz.underlying29 rfl HIN.out)) : P := h
theorem zgz (a : Option Addr) (m cap : Nat) (c : Int) (w : World) (hm : zj w) (ht : Nums w a m) (j7 : m ≤ cap) (hc : (Lit.int .i64 c).wf = true) :
  Calls Tryz.prog 11 #[.slice a m cap, .int .i64 c] w fun e w' => e = .returned (.bool true) /\ Below w.heap.size w w' := by
 have v7 := zwg hc
 clear hc
 have HM := zwg hm
 have HT := zwg (And.intro ht j7)
 clear hm ht j7
 go_enter Tryz.func11, Tryz.ntmps11
 go_wp2_with fail
 refine (zcu a m cap 200 w HT.out.1 HT.out.2 (by decide)).mono ?_
 rintro e w1 ⟨rfl, ht1, hb1, j8⟩
 have HT1 := zwg ht1
 have HB1 := zwg hb1
 have j9 := zwg j8
 clear ht1 hb1 j8
 go_wp2_with fail
 refine (zj5 w.heap.size 0 6 w1 HT1.out (by decide) (by decide)).mono ?_
 rintro e w2 ⟨x, r, v, l, g9, k7, hr9, hl, k8, rfl, h3, k9, h4⟩
 have HX1 := zwg g9
 have y0 := zwg k7
 have HR9 := zwg hr9
 have y1 := zwg hl
 have HTO := zwg k8
 have y2 := zwg h3
 have q0 := zwg k9
 have y3 := zwg h4
 have y4 := zwg (HM.out.below HB1.out)
 have q1 := zwg (y4.out.tape HT1.out h4)
 obtain ⟨va, vc, h0, j6⟩ := h3.comps
 subst h0
 obtain ⟨ic, h5⟩ : ∃ ic, ic = (icells (dig1 x) r (.slice va l.length vc)) := ⟨_, rfl⟩
 have g2 := zwg h5
 rw [← h5]
 clear g9 k7 hr9 hl k8 h3 k9 h4 j6 h5
 go_wp2_with fail
 refine (zcf w.heap.size (0 + 3 + 6 * 6) 6 w2 q1.out q0.out (by decide) (by decide)).mono ?_
 rintro e w3 ⟨nv, us, rfl, h6, g3, q2, hg3⟩
 have z7 := zwg h6
 have y5 := zwg g3
 have y6 := zwg q2
 have y7 := zwg (q1.out.tape q0.out hg3)
 have h7 := zwg (y2.out.kept hg3 (fun g e => by cases e; exact j9.out))
 have HB3 := zwg (HB1.out.trans ((qi (y3.out.trans hg3) (zwi _) (Nat.le_of_lt j9.out)).mono (zwi _)))
 have HN3 := zwg g3.notes
 obtain ⟨na, nc, y8⟩ := g3.row.slice
 subst y8
 have h8 := ql (d := dig1 x) rfl r (.slice va l.length vc)
 have HIN : Hid ((Tryz.prog.info? 29).map (·.size) = some ic.size) := zwg (by rw [g2.out, yw, h8])
 have y9 : Hid (ic.size = 34) := zwg (by rw [g2.out, h8])
 have HS : Hid ((icells zu 0 (.slice none 0 0)).size = ic.size) := zwg (by rw [y9.out, ql rfl])
 have HO : Hid (ic.all (·.oneCell') = true) := zwg (by rw [g2.out]; exact zbk h7.out.comps.one)
 have h9 : (w3.alloc (.cells (icells zu 0 (.slice none 0 0)) 29)).heap[w3.heap.size]? = some (.cells (icells zu 0 (.slice none 0 0)) 29 (0, 0)) := heap_alloc_new w3 _
 have g0 : Below w3.heap.size w3 ((w3.alloc (.cells (icells zu 0 (.slice none 0 0)) 29)).setRow w3.heap.size ic) :=
  ((zwj _ w3).alloc (zwi _) _).trans (qi (qc _ _ _) (zwi _) (by simp))
 obtain ⟨W4, g4⟩ : ∃ W4, W4 = (w3.alloc (.cells (icells zu 0 (.slice none 0 0)) 29)).setRow w3.heap.size ic := ⟨_, rfl⟩
 rw [← g4] at g0
 have q3 := zwg g4
 have q9 := zwg g0
 have HB4 := zwh HB3 g0
 have h2 := zwg (y7.out.below g0)
 have q4 := zwg (h7.out.comps.below g0)
 have HN4 := zwg (HN3.out.below g0)
 have z8 := zwg (y6.out.below g0)
 have HG4 : Hid (W4.heap[w3.heap.size]? = some (.cells ic 29 (0, 0))) := zwg (by rw [g4]; exact setRow_heap _ _ _ _ _ _ h9)
 have z0 : Hid (W4.heap.size = w3.heap.size + 1) := zwg (by rw [g4]; simp)
 have q5 := zwg h9
 have j0 : Hid ((us.map (·.nv)).length ≤ 6) := zwg (by rw [List.length_map]; exact h6)
 have g1 : Hid (us.length = (us.map (·.nv)).length) := zwg (by rw [List.length_map])
 rw [g1.out] at HN4
 rw [g1.out]
 have z6 : Hid (∀ y ∈ us.map (·.nv), V.MadeV y.n.adv) := zwg (fun y hy => by
   obtain ⟨p, hp, rfl⟩ := List.mem_map.1 hy
   exact (g3.each p hp).made)
 have q6 : Hid ((dig1 x).length = 32) := zwg rfl
 have q7 : Hid (∀ n ∈ dig1 (x : Int), (Lit.int .u8 n).wf = true) := zwg (zm9 x y0.out)
 generalize q8 : us.map (·.nv) = xs at *
 have z1 := zwg q8
 clear q8
 clear h6 g3 q2 hg3 h8 h9 g0 g4
 have g5 : Hid (l.length ≤ 12 /\ xs.length ≤ 8) := zwg ⟨by have := y1.out; omega, by have := j0.out; omega⟩
 have HXl : Hid (w3.heap.size < W4.heap.size) := zwg (by rw [z0.out]; omega)
 have g6 : Hid (us.length ≤ 6) := zwg (by have := j0.out; rw [g1.out]; exact this)
 have g7 := zwg (y5.out.call q9.out)
 by_cases hx0 : xs.length = 0
 ·have g9 : (xs.length : Int) = 0 := by omega
  go_wp2_with (first | (rw [zcv]; refine wpList_store_row rfl _ _ _ rfl w3.heap.size ic rfl rfl 29 _ q5.out HIN.out HS.out HO.out ?_; rw [← q3.out]) | fail)
  refine (ji W4 h2.out).mono ?_
  rintro e W5 ⟨rfl, hb5⟩
  have HB5 := zwh HB4 hb5
  clear hb5
  go_wp2
  go_ret
  exact ⟨rfl, HB5.out⟩
 ·have g9 : ((xs.length : Int) == 0) = false := by rw [zwk]; omega
  go_wp2_with (first | (rw [zcv]; refine wpList_store_row rfl _ _ _ rfl w3.heap.size ic rfl rfl 29 _ q5.out HIN.out HS.out HO.out ?_; rw [← q3.out]) | fail)
  refine (zqs c xs.length W4 v7.out (by omega) (by have := j0.out; omega)).mono ?_
  rintro e W5 ⟨q, rfl, hq, j1⟩
  replace j1 := j1.symm
  subst j1
  rcases GRow.row vz g7.out.row with ⟨_, e⟩ | ⟨g, cap9, h0, hN, v0, v1⟩
  ·rw [g1.out.symm, e] at hx0; simp at hx0
  ·obtain ⟨e1, _, e3⟩ := Value.slice.inj h0
   subst e1 e3
   have z2 : q < xs.length := by omega
   have z9 : xs.length ≤ nc := by rw [← g1.out]; exact v0
   have hgs := GRow.gsl vz g7.out.row
   have HGD : Hid (GSl 37 nE W4 (.slice (some ⟨g, q * 37, none⟩) (xs.length - q) (nc - q)) (us.drop q)) := zwg (by
     have h1 := hgs.drop (i := q)
     rw [List.length_drop, g1.out, Nat.zero_add] at h1
     exact h1)
   have z3 : Hid (GSl 37 nE W4 (.slice (some ⟨g, 0, none⟩) q nc) (us.take q)) := zwg (by
     have h1 := hgs.take (i := q) (c := nc)
     rw [List.length_take, g1.out, Nat.min_eq_left (Nat.le_of_lt z2)] at h1
     exact h1)
   have HOKS : Hid (∀ p ∈ us, NOk W4 p.nv) := zwg (fun p hp => (g7.out.each p hp).ok)
   have j2 : Hid (V.kx (V.jo (dig1 x) r l) (((us.drop q ++ us.take q).map (·.nv)).map (·.n)) l = V.kx (V.jo (dig1 x) r l) (xs.map (·.n)) l) := zwg (zsq (fun y => by
     rw [← z1.out]
     simp only [List.map_map, List.map_append, List.mem_append]
     rw [Or.comm, ← List.mem_append, ← List.map_append, List.take_append_drop]))
   have k0 : (0 : Int) ≤ (q : Int) := by omega
   have k1 : (q : Int) ≤ (xs.length : Int) := by omega
   have k2 : (xs.length : Int) ≤ (nc : Int) := by omega
   have k3 : (q : Int) ≤ (nc : Int) := by omega
   have k4 : nc ≠ q := by omega
   have k5 : ((xs.length : Int) - (q : Int)) = ((xs.length - q : Nat) : Int) := by omega
   have k6 : ((nc : Int) - (q : Int)) = ((nc - q : Nat) : Int) := by omega
   clear h0 hgs v1 hN
   go_wp2_with fail
   refine wp_region_held_drew (S := (fun W' => Below W4.heap.size W4 W')) (by kernel_rfl) ((zwj _ W4).drew) (fun hHeld => ?_)
   refine tv 0 (.agg ic) ?_ ?_
   ·exact zza
   refine tk 1 ?_
   refine tk 2 ?_
   refine tk 3 ?_
   refine tk 5 ?_
   refine tk 6 ?_
   refine tk 7 ?_
   refine tv 10 (.agg ic) ?_ ?_
   ·exact zza
   refine tk 11 ?_
   refine rd 4 fun K hK => ?_
   refine zg2 vz (by decide) zn1 zfm (by decide) rfl _ _ 31 rfl Tryz.underlying31 W4.heap.size (.slice none 0 0) [] rfl (GRow.nil _ _) (.slice (some ⟨g, q * 37, none⟩) (xs.length - q) (nc - q)) (us.drop q) rfl (HGD.out.below hHeld) (by have := g6.out; simp; omega) hHeld.size (fun v4 w4 hr4 hg4 G0 => ?_)
   refine hK.out _ _ ?_ (fun hHeld => nx ?_)
   ·(try dsimp only); exact hHeld.grown hg4 hHeld.size (fun b hb => by cases hb)
   clear hK K
   refine rd 8 fun K hK => ?_
   refine zg2 vz (by decide) zn1 zfm (by decide) rfl _ _ 31 rfl Tryz.underlying31 W4.heap.size v4 ([] ++ us.drop q) rfl hr4 (.slice (some ⟨g, 0, none⟩) q nc) (us.take q) rfl (z3.out.below hHeld) (by have := g6.out; simp; omega) hHeld.size (fun v8 w8 hr8 hg8 ho8 => ?_)
   refine hK.out _ _ ?_ (fun hHeld => nx ?_)
   ·(try dsimp only); exact hHeld.grown hg8 hHeld.size (fun b hb => GRow.block hr4 b hb)
   clear hK K
   refine rd 9 fun K hK => ?_
   have HN8 : Hid (Notes _ v8 ((us.drop q ++ us.take q).map (·.nv))) := zwg (zo1 (GRow.gsl vz hr8) (fun p hp => ((HOKS.out p (by rcases List.mem_append.1 hp with h | h; exact List.mem_of_mem_drop h; exact List.mem_of_mem_take h)).below hHeld)))
   go_simp
   have j3 := zbc (dig1 x) r (.slice va l.length vc) l v8 ((us.drop q ++ us.take q).map (·.nv)) _ (h2.out.below hHeld) q6.out q7.out (q4.out.below hHeld) (by have := g5.out.1; omega) HN8.out (by have := g6.out; simp; omega)
   rw [← g2.out] at j3
   refine j3.mono ?_
   clear j3
   rintro e w9 ⟨v9, us9, rfl, hr9, j4, z4⟩
   try dsimp only
   have H9 := zwg hr9.list
   refine hK.out _ _ ?_ (fun hHeld => nx ?_)
   ·(try dsimp only); exact hHeld.trans (z4.mono hHeld.size)
   clear hK K
   refine rd 12 fun K hK => ?_
   go_simp
   have g8 := zbc (dig1 x) r (.slice va l.length vc) l (.slice (some ⟨g, 0, none⟩) xs.length nc) xs _ (h2.out.below hHeld) q6.out q7.out (q4.out.below hHeld) (by have := g5.out.1; omega) (HN4.out.below hHeld) (by have := g5.out.2; omega)
   rw [← g2.out] at g8
   refine g8.mono ?_
   clear g8
   rintro e w12 ⟨v12, us12, rfl, v2, v3, j5⟩
   try dsimp only
   have z5 := zwg v2.list
   replace H9 := zwg (H9.out.below j5)
   refine hK.out _ _ ?_ (fun hHeld => nx ?_)
   ·(try dsimp only); exact hHeld.trans (j5.mono hHeld.size)
   clear hK K
   refine rd 13 fun K hK => ?_
   go_simp
   refine (zfe _ _ us9 us12 _ H9.out z5.out (j4.trans (j2.out.trans v3.symm)) (fun p hp => zm4 g5.out.2 (j4.trans j2.out) p hp) (ze2 g5.out (j4.trans j2.out))).mono ?_
   rintro e w13 ⟨rfl, v5⟩
   try dsimp only
   refine hK.out _ _ ?_ (fun hHeld => nx ?_)
   ·(try dsimp only); exact hHeld.trans (v5.mono hHeld.size)
   clear hK K
   refine tk 14 ?_
   refine rd 15 fun K hK => ?_
   go_simp
   refine (ji _ (h2.out.below hHeld)).mono ?_
   rintro e w15 ⟨rfl, v6⟩
   try dsimp only
   refine hK.out _ _ ?_ (fun hHeld => nx ?_)
   ·(try dsimp only); exact hHeld.trans (v6.mono hHeld.size)
   clear hK K
   refine tk 16 ?_
   refine tk 17 ?_
   refine wpAnyH_done (by kernel_rfl) ?_ _
   have HE := zwh HB4 hHeld
   clear hHeld
   go_wp2
   go_ret
   exact ⟨rfl, HE.out⟩
end Go.Proofs.YtbikeahmldobkaaGreatDoor
