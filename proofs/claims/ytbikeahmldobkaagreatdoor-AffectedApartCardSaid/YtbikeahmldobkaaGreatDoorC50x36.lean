/-
  Lemmas for the law.
-/
import Derived.Test.YtbikeahmldobkaaGreatDoorC50x35
import Derived.Test.YtbikeahmldobkaaGreatDoorC50x20
import Derived.Test.YtbikeahmldobkaaGreatDoorC50x34
import Derived.Test.YtbikeahmldobkaaGreatDoorC50x19
set_option linter.all false
set_option maxRecDepth 100000
set_option maxHeartbeats 6400000
namespace Go.Proofs.YtbikeahmldobkaaGreatDoor
open Go.RowKit
def kq (o : Int) (a b : Bool) : Bool := if o = 0 then !a else if o = 1 then a || b else if o = 2 then a && b else a && !b
theorem zxl {P : Prop} (h : P := by
 rcases a with _ | _ <;> rcases b with _ | _
 all_goals
  go_enter Tryz.func204, Tryz.ntmps204
  go_wp2
  go_ret
  exact ⟨rfl, zwj _ _⟩) : P := h
theorem zhx (o : Int) (a b : Bool) (w : World) : Calls Tryz.prog 204 #[.int .i64 o, .bool a, .bool b] w fun e w' => e = .returned (.bool (kq o a b)) /\ Below w.heap.size w w' := by
 have HF : Hid (∀ a b, kq o a b = if o = 0 then !a else if o = 1 then a || b else if o = 2 then a && b else a && !b) := zwg (fun _ _ => rfl)
 by_cases h0 : o = 0
 ·subst h0
  exact zxl
 ·by_cases h1 : o = 1
  ·subst h1
   exact zxl
  ·by_cases h2 : o = 2
   ·subst h2
    exact zxl
   ·have b0 : (o == 0) = false := by simpa using h0
    have b1 : (o == 1) = false := by simpa using h1
    have b2 : (o == 2) = false := by simpa using h2
    have HG : Hid (∀ a b, kq o a b = (a && !b)) := zwg (fun a b => by rw [HF.out, if_neg h0, if_neg h1, if_neg h2])
    clear h0 h1 h2 HF
    rcases a with _ | _ <;> rcases b with _ | _
    all_goals
     go_enter Tryz.func204, Tryz.ntmps204
     go_wp2
     go_ret
     exact ⟨zg (by rw [HG.out]; rfl), zwj _ _⟩
theorem zb8 (w : World) (a b c d : Obj) : Below w.heap.size w ((((w.alloc a).alloc b).alloc c).alloc d) := ((((zwj _ _).alloc (zwi _) _).alloc (by simp) _).alloc (by simp; omega) _).alloc (by simp; omega) _
theorem zvy (a b : V.Ec) : itvV (V.btw a b) = .agg #[.string ⟨(if a.e = 0 then a.v else []).toArray⟩, .int .i64 (if a.e = 0 then 1 + a.s else 0), .string ⟨(if b.e = 0 then b.v else []).toArray⟩, .int .i64 (if b.e = 0 then 2 - b.s else 0)] := rfl
theorem zxk {P : Prop} (h : P := by
 go_enter Tryz.func206, Tryz.ntmps206
 go_wp2
 go_region
 all_goals rename_i hK
 all_goals refine hK _ _ ?_
 all_goals clear hK
 go_wp2
 all_goals exact bodyPost_ret (v := .agg #[_, _, _, _]) (by simp [results, Tryz.results206, go_sem]) rfl ⟨rfl, (zb8 _ _ _ _ _).drew⟩) : P := h
theorem ze8 (a b : V.Ec) (w : World) (ha : 0 ≤ a.s /\ a.s ≤ 1) (hb : 0 ≤ b.s /\ b.s ≤ 1) :
  Calls Tryz.prog 206 #[ecV a, ecV b] w fun e w' => e = .returned (itvV (V.btw a b)) /\ Below w.heap.size w w' := by
 rw [zvy]
 obtain ⟨ae, av, asd⟩ := a
 obtain ⟨be, bv, bs⟩ := b
 obtain ⟨g0, g1⟩ := ha
 obtain ⟨hb1, hb2⟩ := hb
 simp only at g0 g1 hb1 hb2 ⊢
 have g2 : IntKind.i64.wrap (1 + asd) = 1 + asd := by rw [IntKind.wrap_i64]; omega
 have g3 : IntKind.i64.wrap (2 - bs) = 2 - bs := by rw [IntKind.wrap_i64]; omega
 unfold ecV
 by_cases h1 : ae = 0
 ·by_cases h2 : be = 0
  ·subst h1 h2
   rw [if_pos rfl, if_pos rfl, if_pos rfl, if_pos rfl]
   go_enter Tryz.func206, Tryz.ntmps206
   go_wp2
   go_region
   all_goals rename_i hK
   all_goals refine hK _ _ ?_
   all_goals clear hK
   go_wp2
   go_region
   all_goals rename_i hK
   all_goals refine hK _ _ ?_
   all_goals clear hK
   go_wp2
   all_goals exact bodyPost_ret (v := .agg #[_, _, _, _]) (by simp [results, Tryz.results206, go_sem]) rfl ⟨rfl, (zb8 _ _ _ _ _).drew.drew⟩
  ·have b0 : (be == 0) = false := by simpa using h2
   subst h1
   rw [if_pos rfl, if_pos rfl, if_neg h2, if_neg h2]
   clear h2
   exact zxk
 ·have a0 : (ae == 0) = false := by simpa using h1
  rw [if_neg h1, if_neg h1]
  clear h1
  by_cases h2 : be = 0
  ·subst h2
   rw [if_pos rfl, if_pos rfl]
   exact zxk
  ·have b0 : (be == 0) = false := by simpa using h2
   rw [if_neg h2, if_neg h2]
   clear h2
   go_enter Tryz.func206, Tryz.ntmps206
   go_wp2
   exact bodyPost_ret (v := .agg #[_, _, _, _]) (by simp [results, Tryz.results206, go_sem]) rfl ⟨rfl, zb8 _ _ _ _ _⟩
def ecE (x : V.Ec) : List Value := [.int .i64 x.e, .string ⟨x.v.toArray⟩, .int .i64 x.s]
def ecC (x : V.Ec) : Array Value := #[.int .i64 x.e, .string ⟨x.v.toArray⟩, .int .i64 x.s]
theorem xy (x : V.Ec) : (ecE x).length = 3 := rfl
theorem zav (x : V.Ec) : ∀ u ∈ ecE x, u.oneCell' = true := by
 intro u hu
 simp [ecE] at hu
 rcases hu with rfl | rfl | rfl <;> rfl
theorem ecC_all (x : V.Ec) : (ecC x).all (·.oneCell') = true := by simp [ecC, Value.oneCell']
theorem zc6 : jp 168 3 32 := by
 have h : (match Tryz.prog.info? 168 with | some i => i.size == 3 && (i.bytes == 32 && (match i.zero with | some z => z.cells.size == 3 | none => false)) | none => false) = true := by kernel_rfl
 unfold jp
 cases hq : Tryz.prog.info? 168 with
 | none => rw [hq] at h; cases h
 | some i =>
  exact zwv
theorem ecSize : (Tryz.prog.info? 168).map (·.size) = some 3 := by kernel_rfl
def zdr (w : World) (N : Nat) (v : Value) (l : List V.Ec) : Prop := GRow 168 3 ecE w N v l
theorem GRow.weaken {α : Type} {enc : α -> List Value} {k : Nat} {T : TypeId} {w : World} {N N' : Nat} {v : Value} {l : List α} (h : GRow T k enc w N v l) (hN : N' ≤ N) : GRow T k enc w N' v l := by
 refine ⟨h.1, ?_⟩
 rcases h.2 with h | ⟨g, cap, cur, e, hb, rest⟩
 ·exact .inl h
 ·exact .inr ⟨g, cap, cur, e, Nat.le_trans hN hb, rest⟩
theorem zpn {w : World} {g o : Nat} {x : V.Ec} (h : ∀ i u, (ecE x)[i]? = some u -> w.cell? ⟨g, o + i, none⟩ = some u) : w.cell? ⟨g, o, none⟩ = some (.int .i64 x.e) /\ w.cell? ⟨g, o + 1, none⟩ = some (.string ⟨x.v.toArray⟩) /\ w.cell? ⟨g, o + 2, none⟩ = some (.int .i64 x.s) :=
 ⟨h 0 _ rfl, h 1 _ rfl, h 2 _ rfl⟩
theorem ec_box {w : World} {g : Nat} {x : V.Ec} {t : TypeId} {fr : Nat × Nat} (h : w.heap[g]? = some (.cells (ecC x) t fr)) : w.cell? ⟨g, 0, none⟩ = some (.int .i64 x.e) /\ w.cell? ⟨g, 1, none⟩ = some (.string ⟨x.v.toArray⟩) /\ w.cell? ⟨g, 2, none⟩ = some (.int .i64 x.s) :=
 ⟨by rw [zem h]; rfl, by rw [zem h]; rfl, by rw [zem h]; rfl⟩
theorem znz {w : World} {g off cap : Nat} {l : List V.Ec} (hv : GSl 3 ecE w (.slice (some ⟨g, off, none⟩) l.length cap) l) (hg : g < w.heap.size) (hc : l.length ≤ cap) (i : Nat) :
  ∃ ad : Addr, (if cap = i then some (⟨g, off, none⟩ : Addr) else some ⟨g, off + i * 3, none⟩) = some ad /\ ∀ W : World, Below w.heap.size w W -> ∀ j u, ((l.drop i).flatMap ecE)[j]? = some u -> W.cell? (ad.add j) = some u := by
 by_cases h : cap = i
 ·exact zy0
 ·refine ⟨_, if_neg h, fun W hW j u hu => ?_⟩
  rw [Addr.add_mid]
  exact (hW.cell (p := ⟨g, off + i * 3 + j, none⟩) hg).trans (GSl.cells xy hv i j u hu)
structure AInv (n : Int) (x : V.Ec) (l : List V.Ec) (w : World) (k : Nat) (u : Value) (W : World) : Prop where
 row : zdr W (w.heap.size + 1) u (l.take k)
 box : W.heap[w.heap.size]? = some (.cells (ecC x) 168 (0, 0))
 below : Below w.heap.size w W
 size : w.heap.size + 1 ≤ W.heap.size
 fold : V.radd n x l = l.take k ++ V.radd n x (l.drop k)
theorem zww {P : Prop} (h : P := by
 refine hK.out _ _ ?_ (fun hHeld => ?_)
 ·(try dsimp only); exact ⟨zl hg4 (GRow.block hr3) (by omega) (zl hg3 hgb3 (by omega) (ze hbN x0)), zl hg4 (GRow.block hr3) (by omega) (zl hg3 hgb3 (by omega) (ze hbN x1)), zl hg4 (GRow.block hr3) (by omega) (zl hg3 hgb3 (by omega) (ze hbN x2))⟩
 clear hK K
 try simp only [zwb, zwc, zwd, Act.put, zwe, List.set_cons_succ, List.set_cons_zero]
 refine tk 8 ?_
 refine wpAnyH_done (by kernel_rfl) ?_ _
 have HB4 := zwg (HB3.out.trans (zx hg4 (GRow.block hr3) (by omega) hz4))
 have HR4 := zwg (GRow.weaken hr4 (Nat.le_succ _))
 rw [← HFO.out] at HR4
 clear hr3 hg3 hr4 hg4 hHeld hbN HNW
 go_wp2
 go_ret
 exact ⟨_, rfl, HR4.out, HB4.out⟩) : P := h
theorem zxo {P : Prop} (h : P := by
 (try dsimp only); exact ⟨zl hg3 hgb3 (by omega) (ze hbN x0), zl hg3 hgb3 (by omega) (ze hbN x1), zl hg3 hgb3 (by omega) (ze hbN x2)⟩) : P := h
theorem zzr {P : Prop} (h : P := by
 (try dsimp only); go_split_ands; exact ⟨zj.below (by assumption) hbc11, zwm hbc11, zwm hbc11, zwm hbc11, zwm hbc11, zwm hbc11, zwm hbc11⟩) : P := h
theorem zz7 {P : Prop} (h : P := by
 (try dsimp only); exact ⟨ze hbN x0, ze hbN x1, ze hbN x2⟩) : P := h
theorem zma (n : Int) (x : V.Ec) (g off cap : Nat) (l : List V.Ec) (w : World) (hm : zj w) (hn : V.scheme n = true) (hx : V.EcOk n x) (hv : GSl 3 ecE w (.slice (some ⟨g, off, none⟩) l.length cap) l) (hok : ∀ y ∈ l, V.EcOk n y) (h0 : 0 < l.length) (hc : l.length ≤ cap) (hl : l.length ≤ 1000) :
  Calls Tryz.prog 203 #[.int .i64 n, .slice (some ⟨g, off, none⟩) l.length cap, ecV x] w fun e w' => ∃ u, e = .returned u /\ zdr w' w.heap.size u (V.radd n x l) /\ Below w.heap.size w w' := by
 have HV := zwg hv
 have HSC := zwg hn
 have h6 := zwg hx
 have HOK := zwg hok
 have HM := zwg hm
 have h8 : g < w.heap.size := by
  obtain ⟨g', off', e, hg, _⟩ := hv.at 0 h0
  cases e
  exact hg
 have HI : Hid (AInv n x l w 0 (.slice none 0 0) (w.alloc (.cells #[.int .i64 x.e, .string ⟨x.v.toArray⟩, .int .i64 x.s] 168))) := zwg ⟨GRow.nil _ _, by rw [heap_alloc, if_pos rfl]; rfl, (zwj _ w).alloc (zwi _) _, by simp, rfl⟩
 clear hv hn hx hok hm
 unfold ecV
 go_enter Tryz.func203, Tryz.ntmps203
 go_wp2
 generalize w.alloc (.cells #[.int .i64 x.e, .string ⟨x.v.toArray⟩, .int .i64 x.s] 168) = w0 at *
 go_loopw [7, 8] (fun ov iv wx => ∃ (k : Nat) (u : Value), k ≤ l.length /\ iv = .int .i64 k /\ u = ov /\ AInv n x l w k u wx) (fun _ iv _ => l.length - (intOf iv).toNat)
 case atStart => exact ⟨0, _, Nat.zero_le _, rfl, rfl, HI.out⟩
 case round =>
  obtain ⟨k, ou, hk, rfl, rfl, g3⟩ := hrel
  have g2 := zwg g3
  have HBW := zwg g3.below
  have g8 := zwg (HM.out.below g3.below)
  obtain ⟨x0, x1, x2⟩ := ec_box g3.box
  have h9 := g3.size
  clear g3
  by_cases hlt : k < l.length
  ·obtain ⟨g', off', e, j9, h2⟩ := HV.out.at k hlt
   cases e
   obtain ⟨y0, y1, y2⟩ := zpn h2
   have y0 := ze HBW.out y0
   have y1 := ze HBW.out y1
   have y2 := ze HBW.out y2
   have k0 : (0 : Int) ≤ (k : Int) := by omega
   have k1 : (k : Int) < (l.length : Int) := by omega
   have HYO : Hid (V.EcOk n l[k]) := zwg (HOK.out _ (List.getElem_mem hlt))
   have HTK : Hid (l.take (k + 1) = l.take k ++ [l[k]]) := zwg (List.take_succ_eq_append_getElem hlt)
   have h3 : Hid (l.drop k = l[k] :: l.drop (k + 1)) := zwg (List.drop_eq_getElem_cons hlt)
   have j6 : (l.take k).length = k := by rw [List.length_take]; omega
   clear h2
   generalize l[k] = y at *
   obtain ⟨z, hz⟩ : ∃ z, z = V.ecmp n y x := ⟨_, rfl⟩
   have h4 := zwg (yq n y x)
   have h5 : Hid (V.radd n x (y :: l.drop (k + 1)) = if z < 0 then y :: V.radd n x (l.drop (k + 1)) else if z = 0 then (if V.cb y.v x.v < 0 then y else x) :: l.drop (k + 1) else x :: y :: l.drop (k + 1)) := zwg (by rw [hz]; rfl)
   rw [← hz] at h4
   clear hz
   go_wp2_with fail
   refine wp_region_held_drew (S := (fun W' => zj W' /\ W'.cell? ⟨w.heap.size, 0, none⟩ = some (.int .i64 x.e) /\ W'.cell? ⟨w.heap.size, 1, none⟩ = some (.string ⟨x.v.toArray⟩) /\ W'.cell? ⟨w.heap.size, 2, none⟩ = some (.int .i64 x.s) /\ W'.cell? ⟨g, off + k * 3, none⟩ = some (.int .i64 y.e) /\ W'.cell? ⟨g, off + k * 3 + 1, none⟩ = some (.string ⟨y.v.toArray⟩) /\ W'.cell? ⟨g, off + k * 3 + 2, none⟩ = some (.int .i64 y.s))) (by kernel_rfl) (by (try dsimp only); (try simp only [World.cell?_drew]); exact ⟨g8.out.below (zwj _ _).drew, x0, x1, x2, y0, y1, y2⟩) (fun hHeld => ?_)
   refine tk 0 ?_
   refine tk 1 ?_
   refine tk 2 ?_
   refine tk 3 ?_
   refine tk 4 ?_
   refine tk 5 ?_
   refine tk 6 ?_
   refine tk 7 ?_
   refine tk 8 ?_
   refine tk 9 ?_
   refine tk 10 ?_
   refine rd 11 fun K hK => ?_
   go_simp
   refine (h4.out _ (by first | assumption | exact And.left (by assumption)) HSC.out HYO.out h6.out).mono ?_
   rintro e wc11 ⟨rfl, hbc11⟩
   try dsimp only
   refine hK.out _ _ ?_ (fun hHeld => ?_)
   ·exact zzr
   clear hK K
   try simp only [zwb, zwc, zwd, Act.put, zwe, List.set_cons_succ, List.set_cons_zero]
   refine tk 12 ?_
   refine tk 13 ?_
   refine wpAnyH_done (by kernel_rfl) ?_ _
   have g0 : Below wr.heap.size wr wc11 := (zwj wr.heap.size wr).drew.trans (show Below wr.heap.size wr.drew wc11 from hbc11)
   have y0 := ze g0 y0
   have y1 := ze g0 y1
   have y2 := ze g0 y2
   have x0 := ze g0 x0
   have x1 := ze g0 x1
   have x2 := ze g0 x2
   have j0 := zwg (GRow.below g2.out.row g0)
   have HBX : Hid (wc11.heap[w.heap.size]? = some (.cells (ecC x) 168 (0, 0))) := zwg ((g0.block _ (by omega)).trans g2.out.box)
   have HB1 := zwh HBW g0
   have j3 := zwg (g8.out.below g0)
   have j7 : w.heap.size + 1 ≤ wc11.heap.size := Nat.le_trans h9 g0.size
   clear g0 hbc11 hHeld h9
   by_cases hz0 : z < 0
   ·have HFO : Hid (V.radd n x l = l.take (k + 1) ++ V.radd n x (l.drop (k + 1))) := zwg (by rw [g2.out.fold, h3.out, h5.out, if_pos hz0, HTK.out]; simp)
    have hbC : Below wc11.heap.size wc11 (wc11.alloc (.cells #[.int .i64 y.e, .string ⟨y.v.toArray⟩, .int .i64 y.s] 168)) := (zwj _ wc11).alloc (zwi _) _
    have g4 := zwg (GRow.below j0.out hbC)
    have HB2 := zwh HB1 hbC
    have h1 := zwg ((hbC.block _ (show w.heap.size < wc11.heap.size by omega)).trans HBX.out)
    have HNW : Hid (∀ j u, (ecE y)[j]? = some u -> (wc11.alloc (.cells #[.int .i64 y.e, .string ⟨y.v.toArray⟩, .int .i64 y.s] 168)).cell? ⟨wc11.heap.size, j, none⟩ = some u) := zwg (fun j u hu => by rw [World.cell?_alloc_new]; simpa [ecE] using hu)
    clear hbC x0 x1 x2
    go_wp2_with (first | (refine yf xy (by decide) zav zc6 (by decide) rfl _ _ 231 rfl Tryz.underlying231 (w.heap.size + 1) ou (l.take k) rfl g4.out wc11.heap.size y rfl HNW.out (by omega) (by simp; omega) ?_; intro v3 W3 hr3 hg3) | fail)
    have HA : Hid (AInv n x l w (k + 1) v3 W3) := zwg ⟨by rw [HTK.out]; exact hr3, zpv hg3 (GRow.block g4.out) (by omega) h1.out, HB2.out.trans (zx hg3 (GRow.block g4.out) (by omega) (by simp; omega)), Nat.le_trans (by simp; omega) hg3.size, HFO.out⟩
    clear hr3 hg3
    go_wp2
    go_roundw
    case rel => exact ⟨k + 1, _, by omega, by go_num, rfl, HA.out⟩
    case measure => simp [intOf]; omega
   ·go_wp2_with fail
    refine wp_region_held_drew (S := (fun W' => zj W' /\ W'.cell? ⟨w.heap.size, 0, none⟩ = some (.int .i64 x.e) /\ W'.cell? ⟨w.heap.size, 1, none⟩ = some (.string ⟨x.v.toArray⟩) /\ W'.cell? ⟨w.heap.size, 2, none⟩ = some (.int .i64 x.s) /\ W'.cell? ⟨g, off + k * 3, none⟩ = some (.int .i64 y.e) /\ W'.cell? ⟨g, off + k * 3 + 1, none⟩ = some (.string ⟨y.v.toArray⟩) /\ W'.cell? ⟨g, off + k * 3 + 2, none⟩ = some (.int .i64 y.s))) (by kernel_rfl) (by (try dsimp only); (try simp only [World.cell?_drew]); exact ⟨j3.out.below (zwj _ _).drew, x0, x1, x2, y0, y1, y2⟩) (fun hHeld => ?_)
    refine tk 0 ?_
    refine tk 1 ?_
    refine tk 2 ?_
    refine tk 3 ?_
    refine tk 4 ?_
    refine tk 5 ?_
    refine tk 6 ?_
    refine tk 7 ?_
    refine tk 8 ?_
    refine tk 9 ?_
    refine tk 10 ?_
    refine rd 11 fun K hK => ?_
    go_simp
    refine (h4.out _ (by first | assumption | exact And.left (by assumption)) HSC.out HYO.out h6.out).mono ?_
    rintro e wc12 ⟨rfl, g1⟩
    try dsimp only
    refine hK.out _ _ ?_ (fun hHeld => ?_)
    ·(try dsimp only); go_split_ands; exact ⟨zj.below (by assumption) g1, zwm g1, zwm g1, zwm g1, zwm g1, zwm g1, zwm g1⟩
    clear hK K
    try simp only [zwb, zwc, zwd, Act.put, zwe, List.set_cons_succ, List.set_cons_zero]
    refine tk 12 ?_
    refine tk 13 ?_
    refine wpAnyH_done (by kernel_rfl) ?_ _
    have g0 : Below wc11.heap.size wc11 wc12 := (zwj wc11.heap.size wc11).drew.trans (show Below wc11.heap.size wc11.drew wc12 from g1)
    have y0 := ze g0 y0
    have y1 := ze g0 y1
    have y2 := ze g0 y2
    have x0 := ze g0 x0
    have x1 := ze g0 x1
    have x2 := ze g0 x2
    have g4 := zwg (GRow.below j0.out g0)
    have h1 : Hid (wc12.heap[w.heap.size]? = some (.cells (ecC x) 168 (0, 0))) := zwg ((g0.block _ (by omega)).trans HBX.out)
    have HB2 := zwh HB1 g0
    have h7 : w.heap.size + 1 ≤ wc12.heap.size := Nat.le_trans j7 g0.size
    clear g0 g1 hHeld HBX j0 j3
    by_cases hze : z = 0
    ·have b0 : (z == 0) = true := by simpa using hze
     have HFO : Hid (V.radd n x l = (l.take k ++ [if V.cb y.v x.v < 0 then y else x]) ++ l.drop (k + 1)) := zwg (by rw [g2.out.fold, h3.out, h5.out, if_neg (show ¬ z < 0 by omega), if_pos hze]; simp)
     obtain ⟨ad, j1, g5⟩ := znz HV.out h8 hc (k + 1)
     have g9 := zwg g5
     clear g5
     clear h3 h5 h4 HTK g2 HBW g8 HM HSC h6 HOK HYO hze hz0
     have k2 : (0 : Int) ≤ (k : Int) + 1 := by omega
     have k3 : (k : Int) + 1 ≤ (l.length : Int) := by omega
     have k4 : ((k : Int) + 1).toNat = k + 1 := by omega
     have k5 : (l.length : Int) - ((k : Int) + 1) = ((l.length - (k + 1) : Nat) : Int) := by omega
     by_cases hls : V.cb y.v x.v < 0
     ·have j8 : Op.bytesLess y.v x.v = true := by rw [zcx]; exact decide_eq_true hls
      rw [if_pos hls] at HFO
      clear hls
      go_wp2_with fail
      go_quiet (fail)
      have y0 := ze (below_drewN (zwj wc12.heap.size wc12) nq) y0
      have y1 := ze (below_drewN (zwj wc12.heap.size wc12) nq) y1
      have y2 := ze (below_drewN (zwj wc12.heap.size wc12) nq) y2
      have j4 := zwg (GRow.below g4.out (below_drewN (zwj wc12.heap.size wc12) nq))
      have HB3 := zwg (below_drewN HB2.out nq)
      have j2 := zwg (((below_drewN (zwj wc12.heap.size wc12) nq).block _ (by omega)).trans h1.out)
      have j5 : w.heap.size + 1 ≤ (wc12.drewN nq).heap.size := Nat.le_trans h7 (below_drewN (zwj wc12.heap.size wc12) nq).size
      clear x0 x1 x2 g4 HB2 h1 h7
      generalize wc12.drewN nq = WD at *
      go_wp2_with (first | (refine zy rfl _ _ _ rfl w.heap.size (ecC x) _ j2.out rfl (ecC y) rfl rfl ecSize (ecC_all _) ?_; intro WF hp2) | fail)
      obtain ⟨x0, x1, x2⟩ := ec_box hp2.here
      have HRF := zwg (hp2.row j4.out (by omega))
      have HBF := zwg (hp2.below HB3.out (zwi _))
      have g6 : w.heap.size + 1 ≤ WF.heap.size := by rw [hp2.size]; exact j5
      clear hp2 y0 y1 y2 j4 HB3 j2 j5
      have hbN : Below WF.heap.size WF (WF.drew.alloc (.cells #[.int .i64 y.e, .string ⟨y.v.toArray⟩, .int .i64 y.s] 168)) := ((zwj WF.heap.size WF).drew).alloc (zwi _) _
      have g7 := zwh HBF hbN
      have HNW : Hid (∀ j u, (ecE y)[j]? = some u -> (WF.drew.alloc (.cells #[.int .i64 y.e, .string ⟨y.v.toArray⟩, .int .i64 y.s] 168)).cell? ⟨WF.heap.size, j, none⟩ = some u) := zwg (fun j u hu => by show (WF.drew.alloc _).cell? ⟨WF.drew.heap.size, j, none⟩ = _; rw [World.cell?_alloc_new]; simpa [ecE] using hu)
      refine wp_region_held_drew (S := (fun W' => W'.cell? ⟨w.heap.size, 0, none⟩ = some (.int .i64 y.e) /\ W'.cell? ⟨w.heap.size, 1, none⟩ = some (.string ⟨y.v.toArray⟩) /\ W'.cell? ⟨w.heap.size, 2, none⟩ = some (.int .i64 y.s))) (by kernel_rfl) (by (try dsimp only); (try simp only [World.cell?_drew]); exact ⟨x0, x1, x2⟩) (fun hHeld => ?_)
      refine tk 0 ?_
      refine tk 1 ?_
      refine tk 4 ?_
      refine tk 5 ?_
      refine tk 6 ?_
      refine rd 2 fun K hK => ?_
      go_simp
      refine hK.out _ _ ?_ (fun hHeld => ?_)
      ·exact zz7
      clear hK K
      try simp only [zwb, zwc, zwd, Act.put, zwe, List.set_cons_succ, List.set_cons_zero]
      refine rd 3 fun K hK => ?_
      refine ja xy (by decide) zav zc6 (by decide) rfl _ _ 231 rfl Tryz.underlying231 (w.heap.size + 1) ou (l.take k) rfl (GRow.below HRF.out hbN) WF.heap.size y rfl HNW.out (by omega) (by simp; omega) (fun v3 W3 hr3 hg3 => ?_)
      have hgb3 := GRow.block HRF.out
      have HB3 := zwg (g7.out.trans (zx hg3 hgb3 (by omega) (by simp; omega)))
      have hz4 : w.heap.size + 1 ≤ W3.heap.size := Nat.le_trans (Nat.le_trans g6 hbN.size) hg3.size
      refine hK.out _ _ ?_ (fun hHeld => ?_)
      ·exact zxo
      clear hK K
      try simp only [zwb, zwc, zwd, Act.put, zwe, List.set_cons_succ, List.set_cons_zero]
      refine rd 7 fun K hK => ?_
      refine kg xy (by decide) zav zc6 (by decide) rfl _ _ 231 rfl Tryz.underlying231 (w.heap.size + 1) v3 (l.take k ++ [y]) rfl hr3 ad (cap - (k + 1)) (l.drop (k + 1)) (l.length - (k + 1)) (by simp) (by rfl) (g9.out _ HB3.out) (by simp; omega) hz4 (fun v4 W4 hr4 hg4 => ?_)
      exact zww
     ·have j8 : Op.bytesLess y.v x.v = false := by rw [zcx]; exact decide_eq_false hls
      rw [if_neg hls] at HFO
      clear hls
      go_wp2_with fail
      go_quiet (fail)
      go_wp2_with fail
      have x0 := ze (below_drewN (zwj wc12.heap.size wc12) nq) x0
      have x1 := ze (below_drewN (zwj wc12.heap.size wc12) nq) x1
      have x2 := ze (below_drewN (zwj wc12.heap.size wc12) nq) x2
      have HRF := zwg (GRow.below g4.out (below_drewN (zwj wc12.heap.size wc12) nq))
      have HBF := zwg (below_drewN HB2.out nq)
      have g6 : w.heap.size + 1 ≤ (wc12.drewN nq).heap.size := Nat.le_trans h7 (below_drewN (zwj wc12.heap.size wc12) nq).size
      generalize wc12.drewN nq = WF at *
      have hbN : Below WF.heap.size WF (WF.drew.alloc (.cells #[.int .i64 x.e, .string ⟨x.v.toArray⟩, .int .i64 x.s] 168)) := ((zwj WF.heap.size WF).drew).alloc (zwi _) _
      have g7 := zwh HBF hbN
      have HNW : Hid (∀ j u, (ecE x)[j]? = some u -> (WF.drew.alloc (.cells #[.int .i64 x.e, .string ⟨x.v.toArray⟩, .int .i64 x.s] 168)).cell? ⟨WF.heap.size, j, none⟩ = some u) := zwg (fun j u hu => by show (WF.drew.alloc _).cell? ⟨WF.drew.heap.size, j, none⟩ = _; rw [World.cell?_alloc_new]; simpa [ecE] using hu)
      refine wp_region_held_drew (S := (fun W' => W'.cell? ⟨w.heap.size, 0, none⟩ = some (.int .i64 x.e) /\ W'.cell? ⟨w.heap.size, 1, none⟩ = some (.string ⟨x.v.toArray⟩) /\ W'.cell? ⟨w.heap.size, 2, none⟩ = some (.int .i64 x.s))) (by kernel_rfl) (by (try dsimp only); (try simp only [World.cell?_drew]); exact ⟨x0, x1, x2⟩) (fun hHeld => ?_)
      refine tk 0 ?_
      refine tk 1 ?_
      refine tk 4 ?_
      refine tk 5 ?_
      refine tk 6 ?_
      refine rd 2 fun K hK => ?_
      go_simp
      refine hK.out _ _ ?_ (fun hHeld => ?_)
      ·exact zz7
      clear hK K
      try simp only [zwb, zwc, zwd, Act.put, zwe, List.set_cons_succ, List.set_cons_zero]
      refine rd 3 fun K hK => ?_
      refine ja xy (by decide) zav zc6 (by decide) rfl _ _ 231 rfl Tryz.underlying231 (w.heap.size + 1) ou (l.take k) rfl (GRow.below HRF.out hbN) WF.heap.size x rfl HNW.out (by omega) (by simp; omega) (fun v3 W3 hr3 hg3 => ?_)
      have hgb3 := GRow.block HRF.out
      have HB3 := zwg (g7.out.trans (zx hg3 hgb3 (by omega) (by simp; omega)))
      have hz4 : w.heap.size + 1 ≤ W3.heap.size := Nat.le_trans (Nat.le_trans g6 hbN.size) hg3.size
      refine hK.out _ _ ?_ (fun hHeld => ?_)
      ·exact zxo
      clear hK K
      try simp only [zwb, zwc, zwd, Act.put, zwe, List.set_cons_succ, List.set_cons_zero]
      refine rd 7 fun K hK => ?_
      refine kg xy (by decide) zav zc6 (by decide) rfl _ _ 231 rfl Tryz.underlying231 (w.heap.size + 1) v3 (l.take k ++ [x]) rfl hr3 ad (cap - (k + 1)) (l.drop (k + 1)) (l.length - (k + 1)) (by simp) (by rfl) (g9.out _ HB3.out) (by simp; omega) hz4 (fun v4 W4 hr4 hg4 => ?_)
      exact zww
    ·have b0 : (z == 0) = false := by simpa using hze
     have HFO : Hid (V.radd n x l = (l.take k ++ [x]) ++ l.drop k) := zwg (by rw [g2.out.fold, h3.out, h5.out, if_neg (show ¬ z < 0 by omega), if_neg hze]; simp)
     obtain ⟨ad, j1, g5⟩ := znz HV.out h8 hc k
     have g9 := zwg g5
     clear g5
     clear h3 h5 h4 HTK g2 HBW g8 HM HSC h6 HOK HYO hze hz0
     go_wp2_with fail
     have HRF := g4
     have HBF := HB2
     have g6 := h7
     generalize wc12 = WF at *
     have hbN : Below WF.heap.size WF (WF.drew.alloc (.cells #[.int .i64 x.e, .string ⟨x.v.toArray⟩, .int .i64 x.s] 168)) := ((zwj WF.heap.size WF).drew).alloc (zwi _) _
     have g7 := zwh HBF hbN
     have HNW : Hid (∀ j u, (ecE x)[j]? = some u -> (WF.drew.alloc (.cells #[.int .i64 x.e, .string ⟨x.v.toArray⟩, .int .i64 x.s] 168)).cell? ⟨WF.heap.size, j, none⟩ = some u) := zwg (fun j u hu => by show (WF.drew.alloc _).cell? ⟨WF.drew.heap.size, j, none⟩ = _; rw [World.cell?_alloc_new]; simpa [ecE] using hu)
     refine wp_region_held_drew (S := (fun W' => W'.cell? ⟨w.heap.size, 0, none⟩ = some (.int .i64 x.e) /\ W'.cell? ⟨w.heap.size, 1, none⟩ = some (.string ⟨x.v.toArray⟩) /\ W'.cell? ⟨w.heap.size, 2, none⟩ = some (.int .i64 x.s))) (by kernel_rfl) (by (try dsimp only); (try simp only [World.cell?_drew]); exact ⟨x0, x1, x2⟩) (fun hHeld => ?_)
     refine tk 0 ?_
     refine tk 1 ?_
     refine tk 4 ?_
     refine tk 5 ?_
     refine tk 6 ?_
     refine rd 2 fun K hK => ?_
     go_simp
     refine hK.out _ _ ?_ (fun hHeld => ?_)
     ·exact zz7
     clear hK K
     try simp only [zwb, zwc, zwd, Act.put, zwe, List.set_cons_succ, List.set_cons_zero]
     refine rd 3 fun K hK => ?_
     refine ja xy (by decide) zav zc6 (by decide) rfl _ _ 231 rfl Tryz.underlying231 (w.heap.size + 1) ou (l.take k) rfl (GRow.below HRF.out hbN) WF.heap.size x rfl HNW.out (by omega) (by simp; omega) (fun v3 W3 hr3 hg3 => ?_)
     have hgb3 := GRow.block HRF.out
     have HB3 := zwg (g7.out.trans (zx hg3 hgb3 (by omega) (by simp; omega)))
     have hz4 : w.heap.size + 1 ≤ W3.heap.size := Nat.le_trans (Nat.le_trans g6 hbN.size) hg3.size
     refine hK.out _ _ ?_ (fun hHeld => ?_)
     ·exact zxo
     clear hK K
     try simp only [zwb, zwc, zwd, Act.put, zwe, List.set_cons_succ, List.set_cons_zero]
     refine rd 7 fun K hK => ?_
     refine kg xy (by decide) zav zc6 (by decide) rfl _ _ 231 rfl Tryz.underlying231 (w.heap.size + 1) v3 (l.take k ++ [x]) rfl hr3 ad (cap - k) (l.drop k) (l.length - k) (by simp) (by rfl) (g9.out _ HB3.out) (by simp; omega) hz4 (fun v4 W4 hr4 hg4 => ?_)
     exact zww
  ·obtain rfl : k = l.length := by omega
   go_wp2_with fail
   refine wp_region_held_drew (S := (fun W' => zj W' /\ W'.cell? ⟨w.heap.size, 0, none⟩ = some (.int .i64 x.e) /\ W'.cell? ⟨w.heap.size, 1, none⟩ = some (.string ⟨x.v.toArray⟩) /\ W'.cell? ⟨w.heap.size, 2, none⟩ = some (.int .i64 x.s))) (by kernel_rfl) (by (try dsimp only); (try simp only [World.cell?_drew]); exact ⟨g8.out.below (zwj _ _).drew, x0, x1, x2⟩) (fun hHeld => ?_)
   refine tk 0 ?_
   refine tk 1 ?_
   refine tk 2 ?_
   refine tk 3 ?_
   refine tk 4 ?_
   refine tu 5 ?_
   refine tu 6 ?_
   refine tu 7 ?_
   refine tu 8 ?_
   refine tu 9 ?_
   refine tu 10 ?_
   refine tu 11 ?_
   refine tu 12 ?_
   refine tk 13 ?_
   refine wpAnyH_done (by kernel_rfl) ?_ _
   go_wp2_with fail
   refine wp_region_held_drew (S := (fun W' => zj W' /\ W'.cell? ⟨w.heap.size, 0, none⟩ = some (.int .i64 x.e) /\ W'.cell? ⟨w.heap.size, 1, none⟩ = some (.string ⟨x.v.toArray⟩) /\ W'.cell? ⟨w.heap.size, 2, none⟩ = some (.int .i64 x.s))) (by kernel_rfl) (by (try dsimp only); (try simp only [World.cell?_drew]); exact ⟨g8.out.below (zwj _ _).drew.drew, x0, x1, x2⟩) (fun hHeld => ?_)
   refine tk 0 ?_
   refine tk 1 ?_
   refine tk 2 ?_
   refine tk 3 ?_
   refine tk 4 ?_
   refine tu 5 ?_
   refine tu 6 ?_
   refine tu 7 ?_
   refine tu 8 ?_
   refine tu 9 ?_
   refine tu 10 ?_
   refine tu 11 ?_
   refine tu 12 ?_
   refine tk 13 ?_
   refine wpAnyH_done (by kernel_rfl) ?_ _
   have j6 : (l.take l.length).length = l.length := by simp
   have HFO : Hid (V.radd n x l = (l.take l.length ++ [x]) ++ l.drop l.length) := zwg (by have := g2.out.fold; rw [List.drop_length] at this; rw [this, List.drop_length]; simp [V.radd])
   obtain ⟨ad, j1, g5⟩ := znz HV.out h8 hc l.length
   have g9 := zwg g5
   clear g5
   have g0 : Below wr.heap.size wr wr.drew.drew := (zwj wr.heap.size wr).drew.drew
   have x0 := ze g0 x0
   have x1 := ze g0 x1
   have x2 := ze g0 x2
   have HRF := zwg (GRow.below g2.out.row g0)
   have HBF := zwh HBW g0
   have g6 : w.heap.size + 1 ≤ wr.drew.drew.heap.size := h9
   go_wp2_with fail
   generalize wr.drew.drew = WF at *
   have hbN : Below WF.heap.size WF (WF.drew.alloc (.cells #[.int .i64 x.e, .string ⟨x.v.toArray⟩, .int .i64 x.s] 168)) := ((zwj WF.heap.size WF).drew).alloc (zwi _) _
   have g7 := zwh HBF hbN
   have HNW : Hid (∀ j u, (ecE x)[j]? = some u -> (WF.drew.alloc (.cells #[.int .i64 x.e, .string ⟨x.v.toArray⟩, .int .i64 x.s] 168)).cell? ⟨WF.heap.size, j, none⟩ = some u) := zwg (fun j u hu => by show (WF.drew.alloc _).cell? ⟨WF.drew.heap.size, j, none⟩ = _; rw [World.cell?_alloc_new]; simpa [ecE] using hu)
   refine wp_region_held_drew (S := (fun W' => W'.cell? ⟨w.heap.size, 0, none⟩ = some (.int .i64 x.e) /\ W'.cell? ⟨w.heap.size, 1, none⟩ = some (.string ⟨x.v.toArray⟩) /\ W'.cell? ⟨w.heap.size, 2, none⟩ = some (.int .i64 x.s))) (by kernel_rfl) (by (try dsimp only); (try simp only [World.cell?_drew]); exact ⟨x0, x1, x2⟩) (fun hHeld => ?_)
   refine tk 0 ?_
   refine tk 1 ?_
   refine tk 4 ?_
   refine tk 5 ?_
   refine tk 6 ?_
   refine rd 2 fun K hK => ?_
   go_simp
   refine hK.out _ _ ?_ (fun hHeld => ?_)
   ·exact zz7
   clear hK K
   try simp only [zwb, zwc, zwd, Act.put, zwe, List.set_cons_succ, List.set_cons_zero]
   refine rd 3 fun K hK => ?_
   refine ja xy (by decide) zav zc6 (by decide) rfl _ _ 231 rfl Tryz.underlying231 (w.heap.size + 1) ou (l.take l.length) rfl (GRow.below HRF.out hbN) WF.heap.size x rfl HNW.out (by omega) (by simp; omega) (fun v3 W3 hr3 hg3 => ?_)
   have hgb3 := GRow.block HRF.out
   have HB3 := zwg (g7.out.trans (zx hg3 hgb3 (by omega) (by simp; omega)))
   have hz4 : w.heap.size + 1 ≤ W3.heap.size := Nat.le_trans (Nat.le_trans g6 hbN.size) hg3.size
   refine hK.out _ _ ?_ (fun hHeld => ?_)
   ·exact zxo
   clear hK K
   try simp only [zwb, zwc, zwd, Act.put, zwe, List.set_cons_succ, List.set_cons_zero]
   refine rd 7 fun K hK => ?_
   refine kg xy (by decide) zav zc6 (by decide) rfl _ _ 231 rfl Tryz.underlying231 (w.heap.size + 1) v3 (l.take l.length ++ [x]) rfl hr3 ad (cap - l.length) (l.drop l.length) 0 (by simp) (by rfl) (g9.out _ HB3.out) (by simp; omega) hz4 (fun v4 W4 hr4 hg4 => ?_)
   exact zww
end Go.Proofs.YtbikeahmldobkaaGreatDoor
