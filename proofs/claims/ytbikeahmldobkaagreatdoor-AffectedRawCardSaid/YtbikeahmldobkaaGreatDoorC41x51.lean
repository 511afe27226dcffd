/-
  Lemmas for the law.
-/
import Derived.Test.YtbikeahmldobkaaGreatDoorC41x50
import Derived.Test.YtbikeahmldobkaaGreatDoorC41x37
import Derived.Test.YtbikeahmldobkaaGreatDoorC41x48
import Derived.Test.YtbikeahmldobkaaGreatDoorC41x49
import Derived.Test.YtbikeahmldobkaaGreatDoorC41x11
import Derived.Test.YtbikeahmldobkaaGreatDoorC41x04
import Derived.Test.YtbikeahmldobkaaGreatDoorCards
import Derived.Test.YtbikeahmldobkaaGreatDoorTie
import Derived.Test.YtbikeahmldobkaaGreatDoorRows
import Derived.ProofKit
import Derived.SliceStrings
import Derived.Deep.DeepHandedRow
import Derived.Lib.LaidTab
import Derived.JoinedOf
set_option linter.all false
set_option maxRecDepth 100000
set_option maxHeartbeats 3200000
namespace Go.Proofs.YtbikeahmldobkaaGreatDoor
open Go.ChangeShapes Go.WideShapes Go.ChangeAt Go.RowKit
theorem zfg : Tryz.prog.cellsOf 57 = 37 := by kernel_rfl
theorem zmz : Tryz.prog.cellsOf 55 = 1 := by kernel_rfl
theorem zgl {H : Type} {enc : TypeId × Value -> H} {W : World} {base : Nat} {sp : Nat -> Bool} {hd : Bool} {n : Nat} {cs : List Value} {x : DataW H × List MemPlace} (h : DataW.trod enc Tryz.prog W base sp hd n 55 cs = some x) : ∃ a m c, cs = [.slice a m c] := by
 rcases Go.Deep.open_slice Tryz.underlying55 h with ⟨rfl, _⟩ | ⟨a, len, cap, m, n', D, Pl, rfl, _⟩
 ·exact ⟨_, _, _, rfl⟩
 ·exact ⟨_, _, _, rfl⟩
theorem zlh {H : Type} {enc : TypeId × Value -> H} {W : World} {base : Nat} {sp : Nat -> Bool} {hd : Bool} {n : Nat} {cs : List Value} {x : DataW H × List MemPlace} (h : DataW.trod enc Tryz.prog W base sp hd n 54 cs = some x) :
  ∃ (x : V.Adv) (u : Value), cs = [.string ⟨x.id.toArray⟩, .int .i64 x.rev, .int .i64 x.sev, u] /\ Affs W u x.aff /\ x.id.length ≤ maxLen /\ x.aff.length ≤ maxLen := by
 obtain ⟨xs, n, _, _, hl, hlen0, hx⟩ := DataW.trod_struct Tryz.underlying54 h
 obtain ⟨y0, y1, y2, y3, rfl⟩ : ∃ y0 y1 y2 y3, xs = [y0, y1, y2, y3] := by
  match xs, hlen0 with
  | [y0, y1, y2, y3], _ => exact ⟨_, _, _, _, rfl⟩
 have h0 : DataW.trod enc Tryz.prog W base sp hd n 9 ((cs.drop 0).take (Tryz.prog.cellsOf 9)) = some y0 := hx 0 _ rfl
 have h1 : DataW.trod enc Tryz.prog W base sp hd n 2 ((cs.drop 1).take (Tryz.prog.cellsOf 2)) = some y1 := hx 1 _ rfl
 have h2 : DataW.trod enc Tryz.prog W base sp hd n 3 ((cs.drop 2).take (Tryz.prog.cellsOf 3)) = some y2 := hx 2 _ rfl
 have h3 : DataW.trod enc Tryz.prog W base sp hd n 52 ((cs.drop 3).take (Tryz.prog.cellsOf 52)) = some y3 := hx 3 _ rfl
 obtain ⟨nm, e0, w0⟩ := ym (keyLits_of_trod (P := Tryz.prog) 2 9 (by kernel_rfl) n _ _ h0).1
 obtain ⟨rv, e1, _, _⟩ := DataW.trod_int Tryz.underlying2 h1
 obtain ⟨sv, e2, _, _⟩ := DataW.trod_int Tryz.underlying3 h2
 obtain ⟨u, l, e3, hc, hlen⟩ := zil h3
 rw [zb0] at e0
 rw [zmn] at e1
 rw [wm] at e2
 rw [zmf] at e3
 have hl4 : cs.length = 4 := by rw [← zg6]; exact hl
 exact ⟨⟨nm, rv, sv, l⟩, u, zo3 hl4 e0 e1 e2 e3, hc, w0, hlen⟩
theorem zid {H : Type} {enc : TypeId × Value -> H} {W : World} {base : Nat} {sp : Nat -> Bool} {hd : Bool} {n : Nat} {cs : List Value} {x : DataW H × List MemPlace} (h : DataW.trod enc Tryz.prog W base sp hd n 57 cs = some x) :
  ∃ x : NV, cs = nl x /\ NOk W x /\ ∃ a m c, x.k = .slice a m c := by
 obtain ⟨y0, y1, y2, n, _, hl, h0, h1, h2⟩ := Go.Deep.trod_struct3 Tryz.underlying57 h
 obtain ⟨x, u, e0, ha, w0, w1⟩ := zlh h0
 obtain ⟨ds, dl, dw, e1⟩ := zav (keyLits_of_trod (P := Tryz.prog) 2 26 znn n _ _ h1).1
 obtain ⟨a, m, c, e2⟩ := zgl h2
 have hl' : cs.length = 37 := by rw [← zfg]; exact hl
 rw [zg6] at e0
 rw [xt] at e1
 rw [zmz] at e2
 have a0 : cs.take 4 = [.string ⟨x.id.toArray⟩, .int .i64 x.rev, .int .i64 x.sev, u] := e0
 have a1 : (cs.drop 4).take 32 = zk ds := e1
 have a2 : (cs.drop 36).take 1 = [.slice a m c] := e2
 refine ⟨⟨⟨x, ds⟩, u, .slice a m c⟩, ?_, ⟨⟨dl, dw⟩, ha, rfl, w0, w1⟩, a, m, c, rfl⟩
 have a3 : (cs.drop 36).take 1 = cs.drop 36 := List.take_of_length_le (by rw [List.length_drop]; omega)
 rw [← List.take_append_drop 4 cs, a0]
 unfold nl
 congr 1
 rw [← List.take_append_drop 32 (cs.drop 4), a1, List.drop_drop]
 rw [show 4 + 32 = 36 from rfl, ← a3, a2]
theorem zmq {H : Type} {enc : TypeId × Value -> H} {W : World} {base : Nat} {v : Value} {d : DataW H} {p : List MemPlace} (hv : Value.okWide Tryz.prog W .any base 31 v)
  (h : DataW.Trod enc Tryz.prog W 0 (fun _ => true) true 31 v d p) : ∃ xs : List NV, Notes W v xs /\ (∀ x ∈ xs, ∃ a m c, x.k = .slice a m c) /\ xs.length ≤ maxLen := by
 obtain ⟨a0, len0, cap0, rfl⟩ := okWide_slice Tryz.underlying31 hv
 obtain ⟨fuel0, hf⟩ := h
 rcases Go.Deep.open_slice Tryz.underlying31 hf with ⟨hcs, _⟩ | ⟨a, len, cap, m, n', D, Pl, hcs, hb, hl, hm, hmm, _, hx⟩
 ·simp [Value.cells] at hcs
  obtain ⟨rfl, rfl, rfl⟩ := hcs
  exact ⟨[], Notes.nil W, fun x hx => by simp at hx, Nat.zero_le _⟩
 ·simp [Value.cells] at hcs
  obtain ⟨rfl, rfl, rfl⟩ := hcs
  have hlm : len0 ≤ m := by rw [hmm]; split <;> omega
  rw [zfg] at hx
  have each : ∀ i, i < len0 -> ∃ x : NV, (NOk W x /\ ∃ a m c, x.k = .slice a m c) /\ ∀ j, j < 37 -> W.cell? ((a.add (i * 37)).add j) = (nl x)[j]? := fun i hi => by
   obtain ⟨cs', h1, h2⟩ := hx i (by omega)
   obtain ⟨x, rfl, hok, hk⟩ := zid h2
   exact ⟨x, ⟨hok, hk⟩, (World.cells?_some h1).2.2⟩
  have : Inhabited NV := ⟨⟨⟨⟨[], 0, 0, []⟩, []⟩, .bool false, .bool false⟩⟩
  obtain ⟨f, hf⟩ := Go.Deep.choose_lt each
  refine ⟨(List.range len0).map f, ⟨some a, cap0, by simp, fun j hj => ?_⟩, fun x hx => ?_, by simp; omega⟩
  ·have hj' : j < len0 := by simpa using hj
   have he : ((List.range len0).map f)[j] = f j := by simp
   rw [he]
   obtain ⟨⟨hok, _⟩, hc⟩ := hf j hj'
   obtain ⟨b, off, spot⟩ := a
   have hspot : spot = none := by
    have h1 := (hf 0 (by omega)).2 0 (by omega)
    have h2 : (nl (f 0))[0]? = some (.string ⟨(f 0).n.adv.id.toArray⟩) := rfl
    rw [h2] at h1
    simpa [Addr.add] using World.cell?_spot h1
   subst hspot
   have h0 : W.cell? (((⟨b, off, none⟩ : Addr).add (j * 37)).add 0) = some (.string ⟨(f j).n.adv.id.toArray⟩) := hc 0 (by omega)
   rw [jz, jz, Nat.add_zero] at h0
   refine ⟨hok, b, off, rfl, World.block_lt_of_cell? _ _ h0, fun i u hu => ?_⟩
   have hi : i < 37 := by
    have := (List.getElem?_eq_some_iff.1 hu).1
    rwa [zm1 hok.doc] at this
   have := hc i hi
   rw [jz, jz] at this
   rw [this]
   exact hu
  ·obtain ⟨j, hj, rfl⟩ := List.mem_map.1 hx
   exact (hf j (by simpa using hj)).1.2
open Go.RowKit
theorem zds {ys : List V.Note} {l : List V.Comp} : ∀ {k : Nat}, ∀ h ∈ V.qu ys l k, h.docs.length ≤ ys.length
 | 0, h, hh => by simp [V.qu] at hh
 | k + 1, h, hh => by
  rw [V.qu, List.mem_append] at hh
  rcases hh with hh | hh
  ·exact zds h hh
  ·split at hh
   ·rename_i c hc
    unfold V.um at hh
    obtain ⟨id, _, rfl⟩ := List.mem_map.1 hh
    unfold V.hitN
    refine Nat.le_trans (V.zh0 _) ?_
    unfold V.selN
    exact List.length_filter_le _ _
   ·simp at hh
theorem zfp {ok : Bool} {ys : List V.Note} {l : List V.Comp} {h : V.Hit} (hh : h ∈ V.jq ok ys l) : h.docs.length ≤ ys.length := by
 unfold V.jq at hh
 split at hh
 ·exact zds h hh
 ·simp at hh
theorem zo1 {ok : Bool} {xs : List NV} {l : List V.Comp} {us : List (V.Hit × Sd)} (hx : xs.length ≤ 8) (h : us.map (·.1) = V.jq ok (xs.map (·.n)) l) (p : V.Hit × Sd) (hp : p ∈ us) : p.1.docs.length ≤ 100000 := by
 have h1 : p.1 ∈ V.jq ok (xs.map (·.n)) l := by rw [← h]; exact List.mem_map_of_mem hp
 have := zfp h1
 rw [List.length_map] at this
 omega
theorem zmb {ok : Bool} {xs : List NV} {l : List V.Comp} {c : Int} {us : List (V.Hit × Sd)} (hx : xs.length ≤ 8) (h : us.map (·.1) = V.uf l (V.jq ok (xs.map (·.n)) l) c) (p : V.Hit × Sd) (hp : p ∈ us) : p.1.docs.length ≤ 100000 := by
 have h1 : p.1 ∈ V.uf l (V.jq ok (xs.map (·.n)) l) c := by rw [← h]; exact List.mem_map_of_mem hp
 unfold V.uf at h1
 have := zfp (List.mem_filter.1 h1).1
 rw [List.length_map] at this
 omega
theorem zgo {ok : Bool} {xs : List NV} {l : List V.Comp} {us : List (V.Hit × Sd)} (hx : l.length ≤ 12 /\ xs.length ≤ 8) (h : us.map (·.1) = V.jq ok (xs.map (·.n)) l) : us.length ≤ 1000000 := by
 have h1 := zbf (ok := ok) (ys := xs.map (·.n)) (l := l)
 rw [← h, List.length_map, List.length_map] at h1
 have h2 : l.length * xs.length ≤ 12 * 8 := Nat.mul_le_mul hx.1 hx.2
 omega
theorem ze9 {ok : Bool} {xs : List NV} {l : List V.Comp} {c : Int} {us : List (V.Hit × Sd)} (hx : l.length ≤ 12 /\ xs.length ≤ 8) (h : us.map (·.1) = V.uf l (V.jq ok (xs.map (·.n)) l) c) : us.length ≤ 1000000 := by
 have h1 := zbf (ok := ok) (ys := xs.map (·.n)) (l := l)
 have h3 : us.length ≤ (V.jq ok (xs.map (·.n)) l).length := by
  rw [← List.length_map (f := (·.1)), h]
  exact List.length_filter_le _ _
 rw [List.length_map] at h1
 have h2 : l.length * xs.length ≤ 12 * 8 := Nat.mul_le_mul hx.1 hx.2
 omega
theorem zp3 {P : Prop} (h : P := by
 exact fun w' hSw => ul (ty := 29) rfl rfl (zam ((hSw.block w.heap.size HXl.out).trans HG1.out) Tryz.underlying29 rfl (by rw [jg, HSZ.out]))) : P := h
theorem zd7 (x : IV) (xs : List NV) (nv : Value) (c : Int) (w : World) (hm : zm w) (hd : x.d.length = 32) (hdw : ∀ n ∈ x.d, (Lit.int .u8 n).wf = true) (hv : Comps w x.v x.l) (hn : Notes w nv xs) (hk : ∀ y ∈ xs, ∃ a n c, y.k = .slice a n c) (hx : xs.length ≤ maxLen) (hc : (Lit.int .i64 c).wf = true) :
  Calls Tryz.prog 4 #[.agg (icells x.d x.t x.v), nv, .int .i64 c] w fun e w' => e = .returned (.bool true) /\ Below w.heap.size w w' := by
 have HD := zpa hd
 have HDW := zpa hdw
 have HK := zpa hk
 have HX := zpa hx
 have HSZ := zpa (qo hd x.t x.v)
 obtain ⟨W0, hW0⟩ : ∃ W0, W0 = w.alloc (.cells (icells x.d x.t x.v) 29) := ⟨_, rfl⟩
 have hb0 : Below w.heap.size w W0 := by rw [hW0]; exact (zpd w.heap.size w).alloc (zpc _) _
 have HB0 := zpa hb0
 have HM0 := zpa (hm.below hb0)
 have HC0 := zpa (hv.below hb0)
 have HN0 := zpa (hn.below hb0)
 have HG0 : Hid (W0.heap[w.heap.size]? = some (.cells (icells x.d x.t x.v) 29 (0, 0))) := zpa (by rw [hW0]; exact heap_alloc_new w _)
 have HZ0 : Hid (w.heap.size < W0.heap.size) := zpa (by rw [hW0]; simp)
 have HW := zpa hW0
 clear hm hd hdw hv hn hk hx hc hb0 hW0
 go_enter Tryz.func4, Tryz.ntmps4
 go_wp2_with (first | (rw [← HW.out]; refine wpList_load_row rfl _ _ rfl w.heap.size rfl _ (icells x.d x.t x.v) (0, 0) _ HG0.out Tryz.underlying29 rfl (by rw [jg, HSZ.out]) ?_) | fail)
 refine (zo4 x.d x.t x.v x.l nv xs W0 HD.out HC0.out HN0.out HX.out HK.out).mono ?_
 rintro e W1 ⟨b, rfl, hle, hb1⟩
 have HB1 := zpb HB0 hb1
 have HM1 := zpa (HM0.out.below hb1)
 have HC1 := zpa (HC0.out.below hb1)
 have HN1 := zpa (HN0.out.below hb1)
 have HG1 := zpa ((hb1.block _ HZ0.out).trans HG0.out)
 have HXl : Hid (w.heap.size < W1.heap.size) := zpa (Nat.lt_of_lt_of_le HZ0.out hb1.size)
 clear hb1
 rcases b with _ | _
 ·go_wp2_with fail
  refine (zdo _ HM1.out).mono ?_
  rintro e W2 ⟨rfl, hb2⟩
  have HB2 := zpb HB1 hb2
  clear hb2
  go_wp2
  go_ret
  exact ⟨rfl, HB2.out⟩
 ·have HLE := zpa (hle rfl)
  clear hle
  go_wp2_with fail
  refine wp_region_held_drew (S := (fun W' => Below W1.heap.size W1 W')) (by kernel_rfl) ((zpd _ W1).drew) (fun hHeld => ?_)
  refine tv 0 (.agg (icells x.d x.t x.v)) ?_ ?_
  ·exact zp3
  refine tk 1 ?_
  refine tv 3 (.agg (icells x.d x.t x.v)) ?_ ?_
  ·exact zp3
  refine tk 4 ?_
  refine rd 2 fun K hK => ?_
  go_simp
  refine (ze5 x.d x.t x.v x.l nv xs _ (HM1.out.below hHeld) HD.out HDW.out (HC1.out.below hHeld) (by have := HLE.out.1; omega) (HN1.out.below hHeld) (by have := HLE.out.2; omega)).mono ?_
  rintro e w2 ⟨v2, us2, rfl, hr2, hs2, hb2⟩
  try dsimp only
  have H2 := zpa hr2.list
  refine hK.out _ _ ?_ (fun hHeld => nx ?_)
  ·(try dsimp only); exact hHeld.trans (hb2.mono hHeld.size)
  clear hK K
  refine rd 5 fun K hK => ?_
  go_simp
  refine (zhd x.d x.t x.v x.l nv xs _ (HM1.out.below hHeld) HD.out HDW.out (HC1.out.below hHeld) (by have := HLE.out.1; omega) (HN1.out.below hHeld) (by have := HLE.out.2; omega)).mono ?_
  rintro e w5 ⟨v5, us5, rfl, hr5, hs5, hb5⟩
  try dsimp only
  have H5 := zpa hr5.list
  replace H2 := zpa (H2.out.below hb5)
  refine hK.out _ _ ?_ (fun hHeld => nx ?_)
  ·(try dsimp only); exact hHeld.trans (hb5.mono hHeld.size)
  clear hK K
  refine rd 6 fun K hK => ?_
  go_simp
  refine (zbs _ _ us2 us5 _ H2.out H5.out (hs2.trans hs5.symm) (fun p hp => zo1 HLE.out.2 hs2 p hp) (zgo HLE.out hs2)).mono ?_
  rintro e w6 ⟨rfl, hb6⟩
  try dsimp only
  refine hK.out _ _ ?_ (fun hHeld => nx ?_)
  ·(try dsimp only); exact hHeld.trans (hb6.mono hHeld.size)
  clear hK K
  refine tk 7 ?_
  refine tv 8 (.agg (icells x.d x.t x.v)) ?_ ?_
  ·exact zp3
  refine tk 9 ?_
  refine tk 10 ?_
  refine tv 12 (.agg (icells x.d x.t x.v)) ?_ ?_
  ·exact zp3
  refine tk 13 ?_
  refine tk 14 ?_
  refine rd 11 fun K hK => ?_
  go_simp
  refine (zho x.d x.t x.v x.l nv xs c _ (HM1.out.below hHeld) HD.out HDW.out (HC1.out.below hHeld) (by have := HLE.out.1; omega) (HN1.out.below hHeld) (by have := HLE.out.2; omega)).mono ?_
  rintro e w11 ⟨v11, us11, rfl, hr11, hs11, hb11⟩
  try dsimp only
  have H11 := zpa hr11
  refine hK.out _ _ ?_ (fun hHeld => nx ?_)
  ·(try dsimp only); exact hHeld.trans (hb11.mono hHeld.size)
  clear hK K
  refine rd 15 fun K hK => ?_
  go_simp
  refine (zmd x.d x.t x.v x.l nv xs c _ (HM1.out.below hHeld) HD.out HDW.out (HC1.out.below hHeld) (by have := HLE.out.1; omega) (HN1.out.below hHeld) (by have := HLE.out.2; omega)).mono ?_
  rintro e w15 ⟨v15, us15, rfl, hr15, hs15, hb15⟩
  try dsimp only
  have H15 := zpa hr15
  replace H11 := zpa (H11.out.below hb15)
  refine hK.out _ _ ?_ (fun hHeld => nx ?_)
  ·(try dsimp only); exact hHeld.trans (hb15.mono hHeld.size)
  clear hK K
  refine rd 16 fun K hK => ?_
  go_simp
  refine (zbs _ _ us11 us15 _ H11.out H15.out (hs11.trans hs15.symm) (fun p hp => zmb HLE.out.2 hs11 p hp) (ze9 HLE.out hs11)).mono ?_
  rintro e w16 ⟨rfl, hb16⟩
  try dsimp only
  refine hK.out _ _ ?_ (fun hHeld => nx ?_)
  ·(try dsimp only); exact hHeld.trans (hb16.mono hHeld.size)
  clear hK K
  refine tk 17 ?_
  refine tk 18 ?_
  refine rd 19 fun K hK => ?_
  go_simp
  refine (zdo _ (HM1.out.below hHeld)).mono ?_
  rintro e w19 ⟨rfl, hb19⟩
  try dsimp only
  refine hK.out _ _ ?_ (fun hHeld => nx ?_)
  ·(try dsimp only); exact hHeld.trans (hb19.mono hHeld.size)
  clear hK K
  refine tk 20 ?_
  refine tk 21 ?_
  refine wpAnyH_done (by kernel_rfl) ?_ _
  have HE := zpb HB1 hHeld
  clear hHeld
  go_wp2
  go_ret
  exact ⟨rfl, HE.out⟩
open Go.ChangeShapes Go.WideShapes Go.ChangeAt Go.RowKit
end Go.Proofs.YtbikeahmldobkaaGreatDoor
namespace Go.Proofs.YtbikeahmldobkaaGreatDoor.laying
open Go.RowKit
theorem own : ownKnob Tryz.prog.godebug = none := by kernel_rfl
theorem laidOut : laidOutB Tryz.prog = true := by kernel_rfl
mutual
def flat : DataW Unit -> List Value
 | .lit (.int k n) => [.int k n]
 | .agg ps => znr ps
 | _ => []
def znr : List (DataW Unit) -> List Value
 | [] => []
 | d :: r => flat d ++ znr r
end
def zkh (l : List Value) : Obj -> Obj
 | .cells _ t frozen => .cells l.toArray t frozen
 | o => o
noncomputable def laidWorld (os : Os) : World :=
 { World.holding Tryz.prog os ⟨#[], #[], []⟩ with
   heap := ((World.holding Tryz.prog os ⟨#[], #[], []⟩).heap.modify 2 (zkh (flat Rows.laid_unicode_utf8_acceptRanges))).modify 1 (zkh (flat Rows.laid_unicode_utf8_first)) }
end Go.Proofs.YtbikeahmldobkaaGreatDoor.laying
namespace Go.Proofs.YtbikeahmldobkaaGreatDoor
open Go.RowKit
theorem zn4 : laidOutB Tryz.prog = true := by kernel_rfl
theorem zos : mapsRowed Tryz.prog = true := by kernel_rfl
end Go.Proofs.YtbikeahmldobkaaGreatDoor
namespace Go.Proofs.YtbikeahmldobkaaGreatDoor.affectedRaw
open Go.RowKit
theorem ziz : (Rows.affectedRawRow.inPlace == Tryz.prog.inPlace 4) = true := by kernel_rfl
theorem zd6 : (Rows.affectedRawRow.unfollowed == Tryz.prog.unfollowed 4) = true := by kernel_rfl
theorem zgt : (Rows.affectedRawRow.recurses == Tryz.prog.recurses 4) = true := by kernel_rfl
theorem zmt : (Rows.affectedRawRow.named == Tryz.prog.varsNamed 4) = true := by kernel_rfl
theorem closed : joinedFacts Tryz.prog 4 Tryz.f4 (OpenSpec.ofChange Rows.affectedRawSpec).bare Rows.affectedRawRow = true := by
 unfold joinedFacts
 simp only [zn4, zos, ziz, zd6, zgt, zmt, Bool.and_true]
 kernel_rfl
end Go.Proofs.YtbikeahmldobkaaGreatDoor.affectedRaw
