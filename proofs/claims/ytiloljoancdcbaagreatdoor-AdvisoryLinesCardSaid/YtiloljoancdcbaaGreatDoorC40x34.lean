/-
  Lemmas for the law.
-/
import Derived.Test.YtiloljoancdcbaaGreatDoorC40x33
import Derived.Test.YtiloljoancdcbaaGreatDoorC40x22
import Derived.Test.YtiloljoancdcbaaGreatDoorC40x30
import Derived.Test.YtiloljoancdcbaaGreatDoorC40x20
set_option linter.all false
set_option maxRecDepth 100000
set_option maxHeartbeats 6400000
namespace Go.Proofs.YtiloljoancdcbaaGreatDoor
open Go.RowKit
def kq (o : Int) (a b : Bool) : Bool := if o = 0 then !a else if o = 1 then a || b else if o = 2 then a && b else a && !b
theorem zx6 {P : Prop} (h : P := by
 rcases a with _ | _ <;> rcases b with _ | _
 all_goals
  go_enter Tryz.func157, Tryz.ntmps157
  go_wp2
  go_ret
  exact ⟨rfl, zvt _ _⟩) : P := h
theorem zif (o : Int) (a b : Bool) (w : World) : Calls Tryz.prog 157 #[.int .i64 o, .bool a, .bool b] w fun e w' => e = .returned (.bool (kq o a b)) /\ Below w.heap.size w w' := by
 have HF : Hid (∀ a b, kq o a b = if o = 0 then !a else if o = 1 then a || b else if o = 2 then a && b else a && !b) := zvq (fun _ _ => rfl)
 by_cases h0 : o = 0
 ·subst h0
  exact zx6
 ·by_cases h1 : o = 1
  ·subst h1
   exact zx6
  ·by_cases h2 : o = 2
   ·subst h2
    exact zx6
   ·have b0 : (o == 0) = false := by simpa using h0
    have b1 : (o == 1) = false := by simpa using h1
    have b2 : (o == 2) = false := by simpa using h2
    have HG : Hid (∀ a b, kq o a b = (a && !b)) := zvq (fun a b => by rw [HF.out, if_neg h0, if_neg h1, if_neg h2])
    clear h0 h1 h2 HF
    rcases a with _ | _ <;> rcases b with _ | _
    all_goals
     go_enter Tryz.func157, Tryz.ntmps157
     go_wp2
     go_ret
     exact ⟨zc (by rw [HG.out]; rfl), zvt _ _⟩
theorem zcd (w : World) (a b c d : Obj) : Below w.heap.size w ((((w.alloc a).alloc b).alloc c).alloc d) := ((((zvt _ _).alloc (zvs _) _).alloc (by simp) _).alloc (by simp; omega) _).alloc (by simp; omega) _
theorem zu4 (a b : V.Ec) : itvV (V.btw a b) = .agg #[.string ⟨(if a.e = 0 then a.v else []).toArray⟩, .int .i64 (if a.e = 0 then 1 + a.s else 0), .string ⟨(if b.e = 0 then b.v else []).toArray⟩, .int .i64 (if b.e = 0 then 2 - b.s else 0)] := rfl
theorem zx4 {P : Prop} (h : P := by
 go_enter Tryz.func159, Tryz.ntmps159
 go_wp2
 go_region
 all_goals rename_i hK
 all_goals refine hK _ _ ?_
 all_goals clear hK
 go_wp2
 all_goals exact bodyPost_ret (v := .agg #[_, _, _, _]) (by simp [results, Tryz.results159, go_sem]) rfl ⟨rfl, (zcd _ _ _ _ _).drew⟩) : P := h
theorem zfc (a b : V.Ec) (w : World) (ha : 0 ≤ a.s /\ a.s ≤ 1) (hb : 0 ≤ b.s /\ b.s ≤ 1) :
  Calls Tryz.prog 159 #[ecV a, ecV b] w fun e w' => e = .returned (itvV (V.btw a b)) /\ Below w.heap.size w w' := by
 rw [zu4]
 obtain ⟨ae, av, asd⟩ := a
 obtain ⟨be, bv, bs⟩ := b
 obtain ⟨ha1, ha2⟩ := ha
 obtain ⟨hb1, hb2⟩ := hb
 simp only at ha1 ha2 hb1 hb2 ⊢
 have hwa : IntKind.i64.wrap (1 + asd) = 1 + asd := by rw [IntKind.wrap_i64]; omega
 have hwb : IntKind.i64.wrap (2 - bs) = 2 - bs := by rw [IntKind.wrap_i64]; omega
 unfold ecV
 by_cases h1 : ae = 0
 ·by_cases h2 : be = 0
  ·subst h1 h2
   rw [if_pos rfl, if_pos rfl, if_pos rfl, if_pos rfl]
   go_enter Tryz.func159, Tryz.ntmps159
   go_wp2
   go_region
   all_goals rename_i hK
   all_goals refine hK _ _ ?_
   all_goals clear hK
   go_wp2
   go_region
   all_goals rename_i hK
   all_goals refine hK _ _ ?_
   all_goals clear hK
   go_wp2
   all_goals exact bodyPost_ret (v := .agg #[_, _, _, _]) (by simp [results, Tryz.results159, go_sem]) rfl ⟨rfl, (zcd _ _ _ _ _).drew.drew⟩
  ·have b0 : (be == 0) = false := by simpa using h2
   subst h1
   rw [if_pos rfl, if_pos rfl, if_neg h2, if_neg h2]
   clear h2
   exact zx4
 ·have a0 : (ae == 0) = false := by simpa using h1
  rw [if_neg h1, if_neg h1]
  clear h1
  by_cases h2 : be = 0
  ·subst h2
   rw [if_pos rfl, if_pos rfl]
   exact zx4
  ·have b0 : (be == 0) = false := by simpa using h2
   rw [if_neg h2, if_neg h2]
   clear h2
   go_enter Tryz.func159, Tryz.ntmps159
   go_wp2
   exact bodyPost_ret (v := .agg #[_, _, _, _]) (by simp [results, Tryz.results159, go_sem]) rfl ⟨rfl, zcd _ _ _ _ _⟩
def ecE (x : V.Ec) : List Value := [.int .i64 x.e, .string ⟨x.v.toArray⟩, .int .i64 x.s]
def ecC (x : V.Ec) : Array Value := #[.int .i64 x.e, .string ⟨x.v.toArray⟩, .int .i64 x.s]
theorem yb (x : V.Ec) : (ecE x).length = 3 := rfl
theorem za5 (x : V.Ec) : ∀ u ∈ ecE x, u.oneCell' = true := by
 intro u hu
 simp [ecE] at hu
 rcases hu with rfl | rfl | rfl <;> rfl
theorem ecC_all (x : V.Ec) : (ecC x).all (·.oneCell') = true := by simp [ecC, Value.oneCell']
theorem zc5 : ye 125 3 32 := by
 have h : (match Tryz.prog.info? 125 with | some i => i.size == 3 && (i.bytes == 32 && (match i.zero with | some z => z.cells.size == 3 | none => false)) | none => false) = true := by kernel_rfl
 unfold ye
 cases hq : Tryz.prog.info? 125 with
 | none => rw [hq] at h; cases h
 | some i =>
  exact zwg
theorem ecSize : (Tryz.prog.info? 125).map (·.size) = some 3 := by kernel_rfl
def zdi (w : World) (N : Nat) (v : Value) (l : List V.Ec) : Prop := GRow 125 3 ecE w N v l
theorem GRow.weaken {α : Type} {enc : α -> List Value} {k : Nat} {T : TypeId} {w : World} {N N' : Nat} {v : Value} {l : List α} (h : GRow T k enc w N v l) (hN : N' ≤ N) : GRow T k enc w N' v l := by
 refine ⟨h.1, ?_⟩
 rcases h.2 with h | ⟨g, cap, cur, e, hb, rest⟩
 ·exact .inl h
 ·exact .inr ⟨g, cap, cur, e, Nat.le_trans hN hb, rest⟩
theorem zqk {w : World} {g o : Nat} {x : V.Ec} (h : ∀ i u, (ecE x)[i]? = some u -> w.cell? ⟨g, o + i, none⟩ = some u) : w.cell? ⟨g, o, none⟩ = some (.int .i64 x.e) /\ w.cell? ⟨g, o + 1, none⟩ = some (.string ⟨x.v.toArray⟩) /\ w.cell? ⟨g, o + 2, none⟩ = some (.int .i64 x.s) :=
 ⟨h 0 _ rfl, h 1 _ rfl, h 2 _ rfl⟩
theorem ec_box {w : World} {g : Nat} {x : V.Ec} {t : TypeId} {fr : Nat × Nat} (h : w.heap[g]? = some (.cells (ecC x) t fr)) : w.cell? ⟨g, 0, none⟩ = some (.int .i64 x.e) /\ w.cell? ⟨g, 1, none⟩ = some (.string ⟨x.v.toArray⟩) /\ w.cell? ⟨g, 2, none⟩ = some (.int .i64 x.s) :=
 ⟨by rw [zcl h]; rfl, by rw [zcl h]; rfl, by rw [zcl h]; rfl⟩
theorem zo2 {w : World} {g off cap : Nat} {l : List V.Ec} (hv : GSl 3 ecE w (.slice (some ⟨g, off, none⟩) l.length cap) l) (hg : g < w.heap.size) (hc : l.length ≤ cap) (i : Nat) :
  ∃ ad : Addr, (if cap = i then some (⟨g, off, none⟩ : Addr) else some ⟨g, off + i * 3, none⟩) = some ad /\ ∀ W : World, Below w.heap.size w W -> ∀ j u, ((l.drop i).flatMap ecE)[j]? = some u -> W.cell? (ad.add j) = some u := by
 by_cases h : cap = i
 ·refine ⟨_, if_pos h, fun W hW j u hu => ?_⟩
  rw [List.drop_eq_nil_of_le (by omega)] at hu
  simp at hu
 ·refine ⟨_, if_neg h, fun W hW j u hu => ?_⟩
  rw [Addr.add_mid]
  exact (hW.cell (p := ⟨g, off + i * 3 + j, none⟩) hg).trans (GSl.cells yb hv i j u hu)
structure AInv (n : Int) (x : V.Ec) (l : List V.Ec) (w : World) (k : Nat) (u : Value) (W : World) : Prop where
 row : zdi W (w.heap.size + 1) u (l.take k)
 box : W.heap[w.heap.size]? = some (.cells (ecC x) 125 (0, 0))
 below : Below w.heap.size w W
 size : w.heap.size + 1 ≤ W.heap.size
 fold : V.radd n x l = l.take k ++ V.radd n x (l.drop k)
theorem zv6 {P : Prop} (h : P := by
 refine hK.out _ _ ?_ (fun hHeld => ?_)
 ·(try dsimp only); exact ⟨zk hg4 (GRow.block hr3) (by omega) (zk hg3 hgb3 (by omega) (za hbN x0)), zk hg4 (GRow.block hr3) (by omega) (zk hg3 hgb3 (by omega) (za hbN x1)), zk hg4 (GRow.block hr3) (by omega) (zk hg3 hgb3 (by omega) (za hbN x2))⟩
 clear hK K
 try simp only [zvl, zvm, zvn, Act.put, zvo, List.set_cons_succ, List.set_cons_zero]
 refine tk 8 ?_
 refine wpAnyH_done (by kernel_rfl) ?_ _
 have HB4 := zvq (HB3.out.trans (zp hg4 (GRow.block hr3) (by omega) hz4))
 have HR4 := zvq (GRow.weaken hr4 (Nat.le_succ _))
 rw [← HFO.out] at HR4
 clear hr3 hg3 hr4 hg4 hHeld hbN HNW
 go_wp2
 go_ret
 exact ⟨_, rfl, HR4.out, HB4.out⟩) : P := h
theorem zx8 {P : Prop} (h : P := by
 (try dsimp only); exact ⟨zk hg3 hgb3 (by omega) (za hbN x0), zk hg3 hgb3 (by omega) (za hbN x1), zk hg3 hgb3 (by omega) (za hbN x2)⟩) : P := h
theorem z0f {P : Prop} (h : P := by
 (try dsimp only); go_split_ands; exact ⟨zg.below (by assumption) hbc11, zvw hbc11, zvw hbc11, zvw hbc11, zvw hbc11, zvw hbc11, zvw hbc11⟩) : P := h
theorem z00 {P : Prop} (h : P := by
 (try dsimp only); exact ⟨za hbN x0, za hbN x1, za hbN x2⟩) : P := h
theorem znd (n : Int) (x : V.Ec) (g off cap : Nat) (l : List V.Ec) (w : World) (hm : zg w) (hn : V.scheme n = true) (hx : V.EcOk n x) (hv : GSl 3 ecE w (.slice (some ⟨g, off, none⟩) l.length cap) l) (hok : ∀ y ∈ l, V.EcOk n y) (h0 : 0 < l.length) (hc : l.length ≤ cap) (hl : l.length ≤ 1000) :
  Calls Tryz.prog 156 #[.int .i64 n, .slice (some ⟨g, off, none⟩) l.length cap, ecV x] w fun e w' => ∃ u, e = .returned u /\ zdi w' w.heap.size u (V.radd n x l) /\ Below w.heap.size w w' := by
 have HV := zvq hv
 have HSC := zvq hn
 have HXO := zvq hx
 have HOK := zvq hok
 have HM := zvq hm
 have hgw : g < w.heap.size := by
  obtain ⟨g', off', e, hg, _⟩ := hv.at 0 h0
  cases e
  exact hg
 have HI : Hid (AInv n x l w 0 (.slice none 0 0) (w.alloc (.cells #[.int .i64 x.e, .string ⟨x.v.toArray⟩, .int .i64 x.s] 125))) := zvq ⟨GRow.nil _ _, by rw [heap_alloc, if_pos rfl]; rfl, (zvt _ w).alloc (zvs _) _, by simp, rfl⟩
 clear hv hn hx hok hm
 unfold ecV
 go_enter Tryz.func156, Tryz.ntmps156
 go_wp2
 generalize w.alloc (.cells #[.int .i64 x.e, .string ⟨x.v.toArray⟩, .int .i64 x.s] 125) = w0 at *
 go_loopw [7, 8] (fun ov iv wx => ∃ (k : Nat) (u : Value), k ≤ l.length /\ iv = .int .i64 k /\ u = ov /\ AInv n x l w k u wx) (fun _ iv _ => l.length - (intOf iv).toNat)
 case atStart => exact ⟨0, _, Nat.zero_le _, rfl, rfl, HI.out⟩
 case round =>
  obtain ⟨k, ou, hk, rfl, rfl, hinv⟩ := hrel
  have HINV := zvq hinv
  have HBW := zvq hinv.below
  have HMW := zvq (HM.out.below hinv.below)
  obtain ⟨x0, x1, x2⟩ := ec_box hinv.box
  have hzs := hinv.size
  clear hinv
  by_cases hlt : k < l.length
  ·obtain ⟨g', off', e, hg', hcells⟩ := HV.out.at k hlt
   cases e
   obtain ⟨y0, y1, y2⟩ := zqk hcells
   have y0 := za HBW.out y0
   have y1 := za HBW.out y1
   have y2 := za HBW.out y2
   have hi1 : (0 : Int) ≤ (k : Int) := by omega
   have hi2 : (k : Int) < (l.length : Int) := by omega
   have HYO : Hid (V.EcOk n l[k]) := zvq (HOK.out _ (List.getElem_mem hlt))
   have HTK : Hid (l.take (k + 1) = l.take k ++ [l[k]]) := zvq (List.take_succ_eq_append_getElem hlt)
   have HDR : Hid (l.drop k = l[k] :: l.drop (k + 1)) := zvq (List.drop_eq_getElem_cons hlt)
   have hlk : (l.take k).length = k := by rw [List.length_take]; omega
   clear hcells
   generalize l[k] = y at *
   obtain ⟨z, hz⟩ : ∃ z, z = V.ecmp n y x := ⟨_, rfl⟩
   have HCM := zvq (ug n y x)
   have HRA : Hid (V.radd n x (y :: l.drop (k + 1)) = if z < 0 then y :: V.radd n x (l.drop (k + 1)) else if z = 0 then (if V.cb y.v x.v < 0 then y else x) :: l.drop (k + 1) else x :: y :: l.drop (k + 1)) := zvq (by rw [hz]; rfl)
   rw [← hz] at HCM
   clear hz
   go_wp2_with fail
   refine wp_region_held_drew (S := (fun W' => zg W' /\ W'.cell? ⟨w.heap.size, 0, none⟩ = some (.int .i64 x.e) /\ W'.cell? ⟨w.heap.size, 1, none⟩ = some (.string ⟨x.v.toArray⟩) /\ W'.cell? ⟨w.heap.size, 2, none⟩ = some (.int .i64 x.s) /\ W'.cell? ⟨g, off + k * 3, none⟩ = some (.int .i64 y.e) /\ W'.cell? ⟨g, off + k * 3 + 1, none⟩ = some (.string ⟨y.v.toArray⟩) /\ W'.cell? ⟨g, off + k * 3 + 2, none⟩ = some (.int .i64 y.s))) (by kernel_rfl) (by (try dsimp only); (try simp only [World.cell?_drew]); exact ⟨HMW.out.below (zvt _ _).drew, x0, x1, x2, y0, y1, y2⟩) (fun hHeld => ?_)
   refine tk 0 ?_
   refine tk 1 ?_
   refine tk 2 ?_
   refine tk 3 ?_
   refine tk 4 ?_
   refine tk 5 ?_
   refine tk 6 ?_
   refine tk 7 ?_
   refine tk 8 ?_
   refine tk 9 ?_
   refine tk 10 ?_
   refine rd 11 fun K hK => ?_
   go_simp
   refine (HCM.out _ (by first | assumption | exact And.left (by assumption)) HSC.out HYO.out HXO.out).mono ?_
   rintro e wc11 ⟨rfl, hbc11⟩
   try dsimp only
   refine hK.out _ _ ?_ (fun hHeld => ?_)
   ·exact z0f
   clear hK K
   try simp only [zvl, zvm, zvn, Act.put, zvo, List.set_cons_succ, List.set_cons_zero]
   refine tk 12 ?_
   refine tk 13 ?_
   refine wpAnyH_done (by kernel_rfl) ?_ _
   have hbz : Below wr.heap.size wr wc11 := (zvt wr.heap.size wr).drew.trans (show Below wr.heap.size wr.drew wc11 from hbc11)
   have y0 := za hbz y0
   have y1 := za hbz y1
   have y2 := za hbz y2
   have x0 := za hbz x0
   have x1 := za hbz x1
   have x2 := za hbz x2
   have HR1 := zvq (GRow.below HINV.out.row hbz)
   have HBX : Hid (wc11.heap[w.heap.size]? = some (.cells (ecC x) 125 (0, 0))) := zvq ((hbz.block _ (by omega)).trans HINV.out.box)
   have HB1 := zvr HBW hbz
   have HM1 := zvq (HMW.out.below hbz)
   have hz1 : w.heap.size + 1 ≤ wc11.heap.size := Nat.le_trans hzs hbz.size
   clear hbz hbc11 hHeld hzs
   by_cases hz0 : z < 0
   ·have HFO : Hid (V.radd n x l = l.take (k + 1) ++ V.radd n x (l.drop (k + 1))) := zvq (by rw [HINV.out.fold, HDR.out, HRA.out, if_pos hz0, HTK.out]; simp)
    have hbC : Below wc11.heap.size wc11 (wc11.alloc (.cells #[.int .i64 y.e, .string ⟨y.v.toArray⟩, .int .i64 y.s] 125)) := (zvt _ wc11).alloc (zvs _) _
    have HR2 := zvq (GRow.below HR1.out hbC)
    have HB2 := zvr HB1 hbC
    have HBX2 := zvq ((hbC.block _ (show w.heap.size < wc11.heap.size by omega)).trans HBX.out)
    have HNW : Hid (∀ j u, (ecE y)[j]? = some u -> (wc11.alloc (.cells #[.int .i64 y.e, .string ⟨y.v.toArray⟩, .int .i64 y.s] 125)).cell? ⟨wc11.heap.size, j, none⟩ = some u) := zvq (fun j u hu => by rw [World.cell?_alloc_new]; simpa [ecE] using hu)
    clear hbC x0 x1 x2
    go_wp2_with (first | (refine zm yb (by decide) za5 zc5 (by decide) rfl _ _ 185 rfl Tryz.underlying185 (w.heap.size + 1) ou (l.take k) rfl HR2.out wc11.heap.size y rfl HNW.out (by omega) (by simp; omega) ?_; intro v3 W3 hr3 hg3) | fail)
    have HA : Hid (AInv n x l w (k + 1) v3 W3) := zvq ⟨by rw [HTK.out]; exact hr3, kx hg3 (GRow.block HR2.out) (by omega) HBX2.out, HB2.out.trans (zp hg3 (GRow.block HR2.out) (by omega) (by simp; omega)), Nat.le_trans (by simp; omega) hg3.size, HFO.out⟩
    clear hr3 hg3
    go_wp2
    go_roundw
    case rel => exact ⟨k + 1, _, by omega, by go_num, rfl, HA.out⟩
    case measure => simp [intOf]; omega
   ·go_wp2_with fail
    refine wp_region_held_drew (S := (fun W' => zg W' /\ W'.cell? ⟨w.heap.size, 0, none⟩ = some (.int .i64 x.e) /\ W'.cell? ⟨w.heap.size, 1, none⟩ = some (.string ⟨x.v.toArray⟩) /\ W'.cell? ⟨w.heap.size, 2, none⟩ = some (.int .i64 x.s) /\ W'.cell? ⟨g, off + k * 3, none⟩ = some (.int .i64 y.e) /\ W'.cell? ⟨g, off + k * 3 + 1, none⟩ = some (.string ⟨y.v.toArray⟩) /\ W'.cell? ⟨g, off + k * 3 + 2, none⟩ = some (.int .i64 y.s))) (by kernel_rfl) (by (try dsimp only); (try simp only [World.cell?_drew]); exact ⟨HM1.out.below (zvt _ _).drew, x0, x1, x2, y0, y1, y2⟩) (fun hHeld => ?_)
    refine tk 0 ?_
    refine tk 1 ?_
    refine tk 2 ?_
    refine tk 3 ?_
    refine tk 4 ?_
    refine tk 5 ?_
    refine tk 6 ?_
    refine tk 7 ?_
    refine tk 8 ?_
    refine tk 9 ?_
    refine tk 10 ?_
    refine rd 11 fun K hK => ?_
    go_simp
    refine (HCM.out _ (by first | assumption | exact And.left (by assumption)) HSC.out HYO.out HXO.out).mono ?_
    rintro e wc12 ⟨rfl, hbc12⟩
    try dsimp only
    refine hK.out _ _ ?_ (fun hHeld => ?_)
    ·(try dsimp only); go_split_ands; exact ⟨zg.below (by assumption) hbc12, zvw hbc12, zvw hbc12, zvw hbc12, zvw hbc12, zvw hbc12, zvw hbc12⟩
    clear hK K
    try simp only [zvl, zvm, zvn, Act.put, zvo, List.set_cons_succ, List.set_cons_zero]
    refine tk 12 ?_
    refine tk 13 ?_
    refine wpAnyH_done (by kernel_rfl) ?_ _
    have hbz : Below wc11.heap.size wc11 wc12 := (zvt wc11.heap.size wc11).drew.trans (show Below wc11.heap.size wc11.drew wc12 from hbc12)
    have y0 := za hbz y0
    have y1 := za hbz y1
    have y2 := za hbz y2
    have x0 := za hbz x0
    have x1 := za hbz x1
    have x2 := za hbz x2
    have HR2 := zvq (GRow.below HR1.out hbz)
    have HBX2 : Hid (wc12.heap[w.heap.size]? = some (.cells (ecC x) 125 (0, 0))) := zvq ((hbz.block _ (by omega)).trans HBX.out)
    have HB2 := zvr HB1 hbz
    have hz2 : w.heap.size + 1 ≤ wc12.heap.size := Nat.le_trans hz1 hbz.size
    clear hbz hbc12 hHeld HBX HR1 HM1
    by_cases hze : z = 0
    ·have b0 : (z == 0) = true := by simpa using hze
     have HFO : Hid (V.radd n x l = (l.take k ++ [if V.cb y.v x.v < 0 then y else x]) ++ l.drop (k + 1)) := zvq (by rw [HINV.out.fold, HDR.out, HRA.out, if_neg (show ¬ z < 0 by omega), if_pos hze]; simp)
     obtain ⟨ad, hadE, had⟩ := zo2 HV.out hgw hc (k + 1)
     have HAD := zvq had
     clear had
     clear HDR HRA HCM HTK HINV HBW HMW HM HSC HXO HOK HYO hze hz0
     have hi3 : (0 : Int) ≤ (k : Int) + 1 := by omega
     have hi4 : (k : Int) + 1 ≤ (l.length : Int) := by omega
     have hi5 : ((k : Int) + 1).toNat = k + 1 := by omega
     have hi6 : (l.length : Int) - ((k : Int) + 1) = ((l.length - (k + 1) : Nat) : Int) := by omega
     by_cases hls : V.cb y.v x.v < 0
     ·have hlb : Op.bytesLess y.v x.v = true := by rw [vj]; exact decide_eq_true hls
      rw [if_pos hls] at HFO
      clear hls
      go_wp2_with fail
      go_quiet (fail)
      have y0 := za (below_drewN (zvt wc12.heap.size wc12) nq) y0
      have y1 := za (below_drewN (zvt wc12.heap.size wc12) nq) y1
      have y2 := za (below_drewN (zvt wc12.heap.size wc12) nq) y2
      have HR3 := zvq (GRow.below HR2.out (below_drewN (zvt wc12.heap.size wc12) nq))
      have HB3 := zvq (below_drewN HB2.out nq)
      have HBX3 := zvq (((below_drewN (zvt wc12.heap.size wc12) nq).block _ (by omega)).trans HBX2.out)
      have hz3 : w.heap.size + 1 ≤ (wc12.drewN nq).heap.size := Nat.le_trans hz2 (below_drewN (zvt wc12.heap.size wc12) nq).size
      clear x0 x1 x2 HR2 HB2 HBX2 hz2
      generalize wc12.drewN nq = WD at *
      go_wp2_with (first | (refine zi rfl _ _ _ rfl w.heap.size (ecC x) _ HBX3.out rfl (ecC y) rfl rfl ecSize (ecC_all _) ?_; intro WF hp2) | fail)
      obtain ⟨x0, x1, x2⟩ := ec_box hp2.here
      have HRF := zvq (hp2.row HR3.out (by omega))
      have HBF := zvq (hp2.below HB3.out (zvs _))
      have hzF : w.heap.size + 1 ≤ WF.heap.size := by rw [hp2.size]; exact hz3
      clear hp2 y0 y1 y2 HR3 HB3 HBX3 hz3
      have hbN : Below WF.heap.size WF (WF.drew.alloc (.cells #[.int .i64 y.e, .string ⟨y.v.toArray⟩, .int .i64 y.s] 125)) := ((zvt WF.heap.size WF).drew).alloc (zvs _) _
      have HBN := zvr HBF hbN
      have HNW : Hid (∀ j u, (ecE y)[j]? = some u -> (WF.drew.alloc (.cells #[.int .i64 y.e, .string ⟨y.v.toArray⟩, .int .i64 y.s] 125)).cell? ⟨WF.heap.size, j, none⟩ = some u) := zvq (fun j u hu => by show (WF.drew.alloc _).cell? ⟨WF.drew.heap.size, j, none⟩ = _; rw [World.cell?_alloc_new]; simpa [ecE] using hu)
      refine wp_region_held_drew (S := (fun W' => W'.cell? ⟨w.heap.size, 0, none⟩ = some (.int .i64 y.e) /\ W'.cell? ⟨w.heap.size, 1, none⟩ = some (.string ⟨y.v.toArray⟩) /\ W'.cell? ⟨w.heap.size, 2, none⟩ = some (.int .i64 y.s))) (by kernel_rfl) (by (try dsimp only); (try simp only [World.cell?_drew]); exact ⟨x0, x1, x2⟩) (fun hHeld => ?_)
      refine tk 0 ?_
      refine tk 1 ?_
      refine tk 4 ?_
      refine tk 5 ?_
      refine tk 6 ?_
      refine rd 2 fun K hK => ?_
      go_simp
      refine hK.out _ _ ?_ (fun hHeld => ?_)
      ·exact z00
      clear hK K
      try simp only [zvl, zvm, zvn, Act.put, zvo, List.set_cons_succ, List.set_cons_zero]
      refine rd 3 fun K hK => ?_
      refine yu yb (by decide) za5 zc5 (by decide) rfl _ _ 185 rfl Tryz.underlying185 (w.heap.size + 1) ou (l.take k) rfl (GRow.below HRF.out hbN) WF.heap.size y rfl HNW.out (by omega) (by simp; omega) (fun v3 W3 hr3 hg3 => ?_)
      have hgb3 := GRow.block HRF.out
      have HB3 := zvq (HBN.out.trans (zp hg3 hgb3 (by omega) (by simp; omega)))
      have hz4 : w.heap.size + 1 ≤ W3.heap.size := Nat.le_trans (Nat.le_trans hzF hbN.size) hg3.size
      refine hK.out _ _ ?_ (fun hHeld => ?_)
      ·exact zx8
      clear hK K
      try simp only [zvl, zvm, zvn, Act.put, zvo, List.set_cons_succ, List.set_cons_zero]
      refine rd 7 fun K hK => ?_
      refine vy yb (by decide) za5 zc5 (by decide) rfl _ _ 185 rfl Tryz.underlying185 (w.heap.size + 1) v3 (l.take k ++ [y]) rfl hr3 ad (cap - (k + 1)) (l.drop (k + 1)) (l.length - (k + 1)) (by simp) (by rfl) (HAD.out _ HB3.out) (by simp; omega) hz4 (fun v4 W4 hr4 hg4 => ?_)
      exact zv6
     ·have hlb : Op.bytesLess y.v x.v = false := by rw [vj]; exact decide_eq_false hls
      rw [if_neg hls] at HFO
      clear hls
      go_wp2_with fail
      go_quiet (fail)
      go_wp2_with fail
      have x0 := za (below_drewN (zvt wc12.heap.size wc12) nq) x0
      have x1 := za (below_drewN (zvt wc12.heap.size wc12) nq) x1
      have x2 := za (below_drewN (zvt wc12.heap.size wc12) nq) x2
      have HRF := zvq (GRow.below HR2.out (below_drewN (zvt wc12.heap.size wc12) nq))
      have HBF := zvq (below_drewN HB2.out nq)
      have hzF : w.heap.size + 1 ≤ (wc12.drewN nq).heap.size := Nat.le_trans hz2 (below_drewN (zvt wc12.heap.size wc12) nq).size
      generalize wc12.drewN nq = WF at *
      have hbN : Below WF.heap.size WF (WF.drew.alloc (.cells #[.int .i64 x.e, .string ⟨x.v.toArray⟩, .int .i64 x.s] 125)) := ((zvt WF.heap.size WF).drew).alloc (zvs _) _
      have HBN := zvr HBF hbN
      have HNW : Hid (∀ j u, (ecE x)[j]? = some u -> (WF.drew.alloc (.cells #[.int .i64 x.e, .string ⟨x.v.toArray⟩, .int .i64 x.s] 125)).cell? ⟨WF.heap.size, j, none⟩ = some u) := zvq (fun j u hu => by show (WF.drew.alloc _).cell? ⟨WF.drew.heap.size, j, none⟩ = _; rw [World.cell?_alloc_new]; simpa [ecE] using hu)
      refine wp_region_held_drew (S := (fun W' => W'.cell? ⟨w.heap.size, 0, none⟩ = some (.int .i64 x.e) /\ W'.cell? ⟨w.heap.size, 1, none⟩ = some (.string ⟨x.v.toArray⟩) /\ W'.cell? ⟨w.heap.size, 2, none⟩ = some (.int .i64 x.s))) (by kernel_rfl) (by (try dsimp only); (try simp only [World.cell?_drew]); exact ⟨x0, x1, x2⟩) (fun hHeld => ?_)
      refine tk 0 ?_
      refine tk 1 ?_
      refine tk 4 ?_
      refine tk 5 ?_
      refine tk 6 ?_
      refine rd 2 fun K hK => ?_
      go_simp
      refine hK.out _ _ ?_ (fun hHeld => ?_)
      ·exact z00
      clear hK K
      try simp only [zvl, zvm, zvn, Act.put, zvo, List.set_cons_succ, List.set_cons_zero]
      refine rd 3 fun K hK => ?_
      refine yu yb (by decide) za5 zc5 (by decide) rfl _ _ 185 rfl Tryz.underlying185 (w.heap.size + 1) ou (l.take k) rfl (GRow.below HRF.out hbN) WF.heap.size x rfl HNW.out (by omega) (by simp; omega) (fun v3 W3 hr3 hg3 => ?_)
      have hgb3 := GRow.block HRF.out
      have HB3 := zvq (HBN.out.trans (zp hg3 hgb3 (by omega) (by simp; omega)))
      have hz4 : w.heap.size + 1 ≤ W3.heap.size := Nat.le_trans (Nat.le_trans hzF hbN.size) hg3.size
      refine hK.out _ _ ?_ (fun hHeld => ?_)
      ·exact zx8
      clear hK K
      try simp only [zvl, zvm, zvn, Act.put, zvo, List.set_cons_succ, List.set_cons_zero]
      refine rd 7 fun K hK => ?_
      refine vy yb (by decide) za5 zc5 (by decide) rfl _ _ 185 rfl Tryz.underlying185 (w.heap.size + 1) v3 (l.take k ++ [x]) rfl hr3 ad (cap - (k + 1)) (l.drop (k + 1)) (l.length - (k + 1)) (by simp) (by rfl) (HAD.out _ HB3.out) (by simp; omega) hz4 (fun v4 W4 hr4 hg4 => ?_)
      exact zv6
    ·have b0 : (z == 0) = false := by simpa using hze
     have HFO : Hid (V.radd n x l = (l.take k ++ [x]) ++ l.drop k) := zvq (by rw [HINV.out.fold, HDR.out, HRA.out, if_neg (show ¬ z < 0 by omega), if_neg hze]; simp)
     obtain ⟨ad, hadE, had⟩ := zo2 HV.out hgw hc k
     have HAD := zvq had
     clear had
     clear HDR HRA HCM HTK HINV HBW HMW HM HSC HXO HOK HYO hze hz0
     go_wp2_with fail
     have HRF := HR2
     have HBF := HB2
     have hzF := hz2
     generalize wc12 = WF at *
     have hbN : Below WF.heap.size WF (WF.drew.alloc (.cells #[.int .i64 x.e, .string ⟨x.v.toArray⟩, .int .i64 x.s] 125)) := ((zvt WF.heap.size WF).drew).alloc (zvs _) _
     have HBN := zvr HBF hbN
     have HNW : Hid (∀ j u, (ecE x)[j]? = some u -> (WF.drew.alloc (.cells #[.int .i64 x.e, .string ⟨x.v.toArray⟩, .int .i64 x.s] 125)).cell? ⟨WF.heap.size, j, none⟩ = some u) := zvq (fun j u hu => by show (WF.drew.alloc _).cell? ⟨WF.drew.heap.size, j, none⟩ = _; rw [World.cell?_alloc_new]; simpa [ecE] using hu)
     refine wp_region_held_drew (S := (fun W' => W'.cell? ⟨w.heap.size, 0, none⟩ = some (.int .i64 x.e) /\ W'.cell? ⟨w.heap.size, 1, none⟩ = some (.string ⟨x.v.toArray⟩) /\ W'.cell? ⟨w.heap.size, 2, none⟩ = some (.int .i64 x.s))) (by kernel_rfl) (by (try dsimp only); (try simp only [World.cell?_drew]); exact ⟨x0, x1, x2⟩) (fun hHeld => ?_)
     refine tk 0 ?_
     refine tk 1 ?_
     refine tk 4 ?_
     refine tk 5 ?_
     refine tk 6 ?_
     refine rd 2 fun K hK => ?_
     go_simp
     refine hK.out _ _ ?_ (fun hHeld => ?_)
     ·exact z00
     clear hK K
     try simp only [zvl, zvm, zvn, Act.put, zvo, List.set_cons_succ, List.set_cons_zero]
     refine rd 3 fun K hK => ?_
     refine yu yb (by decide) za5 zc5 (by decide) rfl _ _ 185 rfl Tryz.underlying185 (w.heap.size + 1) ou (l.take k) rfl (GRow.below HRF.out hbN) WF.heap.size x rfl HNW.out (by omega) (by simp; omega) (fun v3 W3 hr3 hg3 => ?_)
     have hgb3 := GRow.block HRF.out
     have HB3 := zvq (HBN.out.trans (zp hg3 hgb3 (by omega) (by simp; omega)))
     have hz4 : w.heap.size + 1 ≤ W3.heap.size := Nat.le_trans (Nat.le_trans hzF hbN.size) hg3.size
     refine hK.out _ _ ?_ (fun hHeld => ?_)
     ·exact zx8
     clear hK K
     try simp only [zvl, zvm, zvn, Act.put, zvo, List.set_cons_succ, List.set_cons_zero]
     refine rd 7 fun K hK => ?_
     refine vy yb (by decide) za5 zc5 (by decide) rfl _ _ 185 rfl Tryz.underlying185 (w.heap.size + 1) v3 (l.take k ++ [x]) rfl hr3 ad (cap - k) (l.drop k) (l.length - k) (by simp) (by rfl) (HAD.out _ HB3.out) (by simp; omega) hz4 (fun v4 W4 hr4 hg4 => ?_)
     exact zv6
  ·obtain rfl : k = l.length := by omega
   go_wp2_with fail
   refine wp_region_held_drew (S := (fun W' => zg W' /\ W'.cell? ⟨w.heap.size, 0, none⟩ = some (.int .i64 x.e) /\ W'.cell? ⟨w.heap.size, 1, none⟩ = some (.string ⟨x.v.toArray⟩) /\ W'.cell? ⟨w.heap.size, 2, none⟩ = some (.int .i64 x.s))) (by kernel_rfl) (by (try dsimp only); (try simp only [World.cell?_drew]); exact ⟨HMW.out.below (zvt _ _).drew, x0, x1, x2⟩) (fun hHeld => ?_)
   refine tk 0 ?_
   refine tk 1 ?_
   refine tk 2 ?_
   refine tk 3 ?_
   refine tk 4 ?_
   refine tu 5 ?_
   refine tu 6 ?_
   refine tu 7 ?_
   refine tu 8 ?_
   refine tu 9 ?_
   refine tu 10 ?_
   refine tu 11 ?_
   refine tu 12 ?_
   refine tk 13 ?_
   refine wpAnyH_done (by kernel_rfl) ?_ _
   go_wp2_with fail
   refine wp_region_held_drew (S := (fun W' => zg W' /\ W'.cell? ⟨w.heap.size, 0, none⟩ = some (.int .i64 x.e) /\ W'.cell? ⟨w.heap.size, 1, none⟩ = some (.string ⟨x.v.toArray⟩) /\ W'.cell? ⟨w.heap.size, 2, none⟩ = some (.int .i64 x.s))) (by kernel_rfl) (by (try dsimp only); (try simp only [World.cell?_drew]); exact ⟨HMW.out.below (zvt _ _).drew.drew, x0, x1, x2⟩) (fun hHeld => ?_)
   refine tk 0 ?_
   refine tk 1 ?_
   refine tk 2 ?_
   refine tk 3 ?_
   refine tk 4 ?_
   refine tu 5 ?_
   refine tu 6 ?_
   refine tu 7 ?_
   refine tu 8 ?_
   refine tu 9 ?_
   refine tu 10 ?_
   refine tu 11 ?_
   refine tu 12 ?_
   refine tk 13 ?_
   refine wpAnyH_done (by kernel_rfl) ?_ _
   have hlk : (l.take l.length).length = l.length := by simp
   have HFO : Hid (V.radd n x l = (l.take l.length ++ [x]) ++ l.drop l.length) := zvq (by have := HINV.out.fold; rw [List.drop_length] at this; rw [this, List.drop_length]; simp [V.radd])
   obtain ⟨ad, hadE, had⟩ := zo2 HV.out hgw hc l.length
   have HAD := zvq had
   clear had
   have hbz : Below wr.heap.size wr wr.drew.drew := (zvt wr.heap.size wr).drew.drew
   have x0 := za hbz x0
   have x1 := za hbz x1
   have x2 := za hbz x2
   have HRF := zvq (GRow.below HINV.out.row hbz)
   have HBF := zvr HBW hbz
   have hzF : w.heap.size + 1 ≤ wr.drew.drew.heap.size := hzs
   go_wp2_with fail
   generalize wr.drew.drew = WF at *
   have hbN : Below WF.heap.size WF (WF.drew.alloc (.cells #[.int .i64 x.e, .string ⟨x.v.toArray⟩, .int .i64 x.s] 125)) := ((zvt WF.heap.size WF).drew).alloc (zvs _) _
   have HBN := zvr HBF hbN
   have HNW : Hid (∀ j u, (ecE x)[j]? = some u -> (WF.drew.alloc (.cells #[.int .i64 x.e, .string ⟨x.v.toArray⟩, .int .i64 x.s] 125)).cell? ⟨WF.heap.size, j, none⟩ = some u) := zvq (fun j u hu => by show (WF.drew.alloc _).cell? ⟨WF.drew.heap.size, j, none⟩ = _; rw [World.cell?_alloc_new]; simpa [ecE] using hu)
   refine wp_region_held_drew (S := (fun W' => W'.cell? ⟨w.heap.size, 0, none⟩ = some (.int .i64 x.e) /\ W'.cell? ⟨w.heap.size, 1, none⟩ = some (.string ⟨x.v.toArray⟩) /\ W'.cell? ⟨w.heap.size, 2, none⟩ = some (.int .i64 x.s))) (by kernel_rfl) (by (try dsimp only); (try simp only [World.cell?_drew]); exact ⟨x0, x1, x2⟩) (fun hHeld => ?_)
   refine tk 0 ?_
   refine tk 1 ?_
   refine tk 4 ?_
   refine tk 5 ?_
   refine tk 6 ?_
   refine rd 2 fun K hK => ?_
   go_simp
   refine hK.out _ _ ?_ (fun hHeld => ?_)
   ·exact z00
   clear hK K
   try simp only [zvl, zvm, zvn, Act.put, zvo, List.set_cons_succ, List.set_cons_zero]
   refine rd 3 fun K hK => ?_
   refine yu yb (by decide) za5 zc5 (by decide) rfl _ _ 185 rfl Tryz.underlying185 (w.heap.size + 1) ou (l.take l.length) rfl (GRow.below HRF.out hbN) WF.heap.size x rfl HNW.out (by omega) (by simp; omega) (fun v3 W3 hr3 hg3 => ?_)
   have hgb3 := GRow.block HRF.out
   have HB3 := zvq (HBN.out.trans (zp hg3 hgb3 (by omega) (by simp; omega)))
   have hz4 : w.heap.size + 1 ≤ W3.heap.size := Nat.le_trans (Nat.le_trans hzF hbN.size) hg3.size
   refine hK.out _ _ ?_ (fun hHeld => ?_)
   ·exact zx8
   clear hK K
   try simp only [zvl, zvm, zvn, Act.put, zvo, List.set_cons_succ, List.set_cons_zero]
   refine rd 7 fun K hK => ?_
   refine vy yb (by decide) za5 zc5 (by decide) rfl _ _ 185 rfl Tryz.underlying185 (w.heap.size + 1) v3 (l.take l.length ++ [x]) rfl hr3 ad (cap - l.length) (l.drop l.length) 0 (by simp) (by rfl) (HAD.out _ HB3.out) (by simp; omega) hz4 (fun v4 W4 hr4 hg4 => ?_)
   exact zv6
end Go.Proofs.YtiloljoancdcbaaGreatDoor
