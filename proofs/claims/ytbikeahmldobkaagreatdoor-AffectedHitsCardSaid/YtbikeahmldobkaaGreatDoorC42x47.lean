/-
  Lemmas for the law.
-/
import Derived.Test.YtbikeahmldobkaaGreatDoorC42x46
import Derived.Test.YtbikeahmldobkaaGreatDoorC42x45
import Derived.Test.YtbikeahmldobkaaGreatDoorC42x21
set_option linter.all false
set_option maxRecDepth 100000
set_option maxHeartbeats 6400000
namespace Go.Proofs.YtbikeahmldobkaaGreatDoor
open Go.RowKit
theorem zgd {ops : Array Oper} {o : Oper} {a : Act} {w : World} {K : Act -> World -> Prop} {Q : Exit -> Act -> World -> Prop} {E : Prop} (g0 : o.guard = none) (v : Value) (he : (execOp a.eval o).run Tryz.prog w = .ok (.value v) w)
  (h : K (a.put o.dst v) w) : if Region.wanted o (yielded ops a.tmps) = true then Oper.wp Tryz.prog o a w K Q else E := by
 rw [if_pos (by simp [Region.wanted, g0])]
 unfold Oper.wp
 rw [he]
 exact h
theorem zge {ops : Array Oper} {o : Oper} {a : Act} {w : World} {K : Act -> World -> Prop} {Q : Exit -> Act -> World -> Prop} {E : Prop} (g0 : o.guard = none) (ty : TypeId) (x y : Operand) (ho : o.op = .store ty x y)
  (b off : Nat) (hx : a.eval x = .pointer (some ⟨b, off, none⟩)) (v : Value) (hy : a.eval y = v) (u : Value) (hc : w.cell? ⟨b, off, none⟩ = some u) (hf : w.frozen? ⟨b, off, none⟩ = false) (hi : (Tryz.prog.info? ty).map (·.size) = some 1) (h1 : v.oneCell' = true)
  (h : K (a.put o.dst undef) (w.setCell ⟨b, off, none⟩ v)) : if Region.wanted o (yielded ops a.tmps) = true then Oper.wp Tryz.prog o a w K Q else E := by
 rw [if_pos (by simp [Region.wanted, g0])]
 unfold Oper.wp execOp
 simp only [ho, hx, hy, Instr.storeAt, Instr.sureAddr, Sem.run_bind, Sem.run_pure, Result.andThen_ok, run_set hc hf hi h1]
 exact h
theorem qp {W W' : World} {row : Option Nat} {b o : Nat} {u : Value} (hg : W.grownBy W' row) (hb : row ≠ some b) (h : W.cell? ⟨b, o, none⟩ = some u) : W'.cell? ⟨b, o, none⟩ = some u := hg.cell h (fun e => hb e.symm)
theorem VInv.fin {V0 : World} {N0 O : Nat} {i r s v : Value} {us : List Fs} {W w8 : World} {p : Fs} {v8 : Value} (h : VInv V0 N0 O i r s v us W) (hr8 : GRow 70 4 fE w8 O v8 (us ++ [p])) (hg8 : W.grownBy w8 v.ownBlock) (ho8 : v8.ownBlock = v.ownBlock ∨ v8.ownBlock = some W.heap.size) (hp : FOk W v p) (how : ∀ c, p.2.v.ownBlock = some c -> O < c) :
  ∃ va vc, v8 = .slice va (us.length + 1) vc /\ w8.cell? ⟨O, 3, none⟩ = some v /\ w8.frozen? ⟨O, 3, none⟩ = false /\ VInv V0 N0 O i r s v8 (us ++ [p]) (w8.setCell ⟨O, 3, none⟩ v8) := by
 have g0 := h.invKept hg8
 have g1 := h.row.add hr8 hg8 ho8 hp
 obtain ⟨va, vc, e⟩ := g1.slice
 exact ⟨va, vc, by rw [e]; simp, (zaw g0).2.2.2, kg g0, h.append g1 hg8 how⟩
theorem VInv.tape {V0 W W' : World} {N0 O b : Nat} {i r s : Value} {v : Value} {us : List Fs} (h : VInv V0 N0 O i r s v us W) (hg : W.grownBy W' (some b)) (hb : b < N0) : VInv W' N0 O i r s v us W' := by
 have g0 := h.base
 exact ⟨h.row.kept hg (fun e => by have := GRow.block h.row.row _ e; omega) (fun p hp c hc => by have := h.own p hp c hc; omega), (hg.block O h.lt (by intro e; cases e; omega)).trans h.inv, (hg.block N0 (Array.getElem?_eq_some_iff.1 h.zero).1 (by intro e; cases e; omega)).trans h.zero, h.own, zv5 _ _, g0⟩
section
variable {α : Type} {enc : α -> List Value} {k : Nat} {T : TypeId}
theorem GRow.kept2 {w w' : World} {N g : Nat} {v : Value} {l : List α} {row : Option Nat} (h : GRow T k enc w N v l) (hv : ∀ c, v.ownBlock = some c -> c = g) (hg : w.grownBy w' row) (hr : row ≠ some g) : GRow T k enc w' N v l := by
 refine ⟨h.1, ?_⟩
 rcases h.2 with h | ⟨g', cap, cur, rfl, hb, hgg, rest⟩
 ·exact .inl h
 ·refine .inr ⟨g', cap, cur, rfl, hb, ?_, rest⟩
  have : g' = g := hv _ rfl
  subst this
  rw [hg.block g' (Array.getElem?_eq_some_iff.1 hgg).1 (fun e => hr e.symm)]
  exact hgg
end
theorem GRow.heap {α : Type} {enc : α -> List Value} {k : Nat} {T : TypeId} {w : World} {N g n c : Nat} {l : List α} (h : GRow T k enc w N (.slice (some ⟨g, 0, none⟩) n c) l) : ∃ cur fr, w.heap[g]? = some (.cells cur T fr) := by
 rcases h.2 with ⟨h, _⟩ | ⟨g', cap, cur, e, hb, hgg, _⟩
 ·cases h
 ·cases e
  exact ⟨_, _, hgg⟩
theorem yx {w w6 W7 : World} {b : Nat} {row : Option Nat} (h : w.grownBy w6 (some b)) (k : w6.grownBy W7 row) (hr : ∀ c, row = some c -> w.heap.size ≤ c) : w.grownBy W7 (some b) :=
 ⟨k.os.trans h.os, k.tape.trans h.tape, k.output.trans h.output, Nat.le_trans h.size k.size, fun i hi hq => (k.block i (Nat.lt_of_lt_of_le hi h.size) (fun e => by have := hr i e.symm; omega)).trans (h.block i hi hq)⟩
def zce : List V.Bs := [[122, 108, 105, 98], [115, 115, 108], [108, 105, 98, 115, 47, 112, 110, 103], [97]]
def PkOk (p : Int × V.Bs) : Prop := V.scheme p.1 = true /\ p.2 ∈ zce
theorem zlj {s : V.Bs} (h : s ∈ zce) : V.jp s = true /\ s.length ≤ 8 := by
 simp only [zce, List.mem_cons, List.not_mem_nil, or_false] at h
 rcases h with e | e | e | e <;> (rw [e]; decide)
theorem PkOk.sound {p : Int × V.Bs} (h : PkOk p) {its : List V.Itv} (ho : V.okR p.1 its = true) (hl : 1 ≤ its.length) : V.xh ⟨p.1, p.2, p.1, its⟩ = true := by
 unfold V.xh V.zc5
 simp only [(zlj h.2).1, ho, Bool.true_and, Bool.and_true, decide_true, decide_eq_true_eq]
 exact hl
def AdvPostG (b k : Nat) (w : World) (e : Ending) (w' : World) : Prop :=
 ∃ x u, ∃ us : List Fs, e = .returned (advV x u) /\ V.MadeV x /\ x.aff = us.map (·.1) /\ (∀ W, w'.grownBy W (some b) -> FRow w.heap.size W u us) /\ (∀ p ∈ us, ∀ c, p.2.v.ownBlock = some c -> w.heap.size ≤ c) /\ Tape w' b (k + 30) /\ w.grownBy w' (some b)
theorem zv9 {P : Prop} (h : P := by
 clear hK K
 refine rd 21 fun K hK => ?_
 refine zbq zn2 (by decide) zrp affGI (by decide) rfl _ _ 52 rfl Tryz.underlying52 O (.slice vao us.length vco) us rfl HA.out.row.row w7.heap.size ((⟨p.1, p.2, p.1, its⟩, ⟨up, its.length, uq⟩) : Fs) rfl HNW.out (by have := HUL.out; omega) (Nat.le_of_lt HA.out.lt) ?_
 intro v8 w8 hr8 hg8 ho8
 obtain ⟨va8, vc8, rfl, hc8, hf8, hM9⟩ := HA.out.fin hr8 hg8 ho8 HP8.out HOW8.out
 try dsimp only
 refine hK.out _ _ ?_ (fun hHeld => nx ?_)
 ·(try dsimp only); exact ⟨qp hg8 HN1.out hHeld.1, qp hg8 HN1.out hHeld.2⟩
 clear hK K
 refine tk 22 ?_
 refine rd 23 fun K hK => ?_
 refine zge rfl 52 _ _ rfl O 3 rfl (.slice va8 (us.length + 1) vc8) rfl _ hc8 hf8 zgm rfl ?_
 have hgs := js w8 O 3 (.slice va8 (us.length + 1) vc8)
 generalize w8.setCell ⟨O, 3, none⟩ (.slice va8 (us.length + 1) vc8) = w9 at *
 try dsimp only
 refine hK.out _ _ ?_ (fun hHeld => nx ?_)
 ·(try dsimp only); exact ⟨qp hgs HN2.out hHeld.1, qp hgs HN2.out hHeld.2⟩
 clear hK K
 refine wpAnyH_done (by kernel_rfl) ?_ _
 have HT9 := zv2 ((HT8.out.grown hg8 HN3.out HN4.out).grown hgs HN5.out HN6.out)
 have HR9 := zv2 (((GRow.below (HRD.out.kept HG7.out (fun c e => by cases e; omega)) ((zv5 _ _).alloc (zv4 _) _)).kept2 HVG.out hg8 HN1.out).kept2 HVG.out hgs HN2.out)
 have HG9 := zv2 (yx (yx ((HGD.out.trans HG7.out).trans (zq ((zv5 _ _).alloc (zv4 _) _) (some b))) hg8 HN7.out) hgs HN8.out)
 clear hHeld hO3 hgs hg8 hr8 ho8 hg7 ht7 hu how hok hl1
 go_wp2
 go_roundw
 case rel => exact ⟨j + 1, _, us ++ [((⟨p.1, p.2, p.1, its⟩, ⟨up, its.length, uq⟩) : Fs)], _, by omega, by rw [List.length_append, HUS.out]; rfl, by go_num, by rw [List.map_append, HMP.out, HTK.out]; rfl, fun q hq => by rcases List.mem_append.1 hq with h | h; exact HSN.out q h; (rw [List.mem_singleton.1 h]; exact HPKp.out.sound HSO.out.1 HSO.out.2), HR9.out, HT9.out.le (by omega), HG9.out, hM9⟩
 case measure => simp [intOf]; omega) : P := h
theorem zya {P : Prop} (h : P := by
 (try dsimp only); exact ⟨zg ((zv5 _ _).alloc (zv4 _) _) hHeld.1, zg ((zv5 _ _).alloc (zv4 _) _) hHeld.2⟩) : P := h
theorem zmy (b k : Nat) (w : World) (hm : zk w) (h : Tape w b k) (hk : k ≤ 800000) :
  Calls Tryz.prog 33 #[.pointer (some ⟨b, 0, none⟩)] w (AdvPostG b k w) := by
 obtain ⟨h2, k7, k8⟩ := adv_zero w
 have k9 := zv2 (hm.below h2)
 have h4 := zv2 (h.below h2)
 have q0 := zv2 k7
 have HZ0 := zv2 k8
 have q1 := zv2 (zq h2 (some b))
 have HBB := zv2 h.lt
 have q2 : Hid (∀ W, w.grownBy W (some b) -> zk W) := zv2 (fun W hg => hm.tape h hg)
 clear h2 k7 k8 hm h
 go_enter Tryz.func33, Tryz.ntmps33
 go_wp2_with fail
 generalize w.alloc (.cells #[.string ⟨#[]⟩, .int .i64 0, .int .i64 0, .slice none 0 0] 54) = w0 at *
 refine (zsg w0).mono ?_
 rintro e w1 ⟨rfl, j5⟩
 have hb1 : Below w0.heap.size w0 w1 := by rw [j5]; exact (zv5 _ w0).alloc (zv4 _) _
 have hc1 : ∀ j, j < 3 -> w1.cell? ⟨w0.heap.size, 0 + j, none⟩ = some (.string ⟨(V.zia.getD j []).toArray⟩) := fun j hj => by
  rw [j5, World.cell?_alloc_new, Nat.zero_add]
  have h3 : j = 0 ∨ j = 1 ∨ j = 2 := by omega
  rcases h3 with rfl | rfl | rfl <;> rfl
 clear j5
 go_wp2_with fail
 refine (zay b k w1 ⟨w0.heap.size, 0, none⟩ 3 V.zia (h4.out.below hb1) (by omega) (by decide) (by decide) (by have := h4.out.lt; have := HBB.out; have := HZ0.out; simp; omega) rfl hc1).mono ?_
 rintro e w2 ⟨id, q3, rfl, q4, h5⟩
 have q5 := zv2 (V.madeId q3)
 have q6 := zv2 ((k9.out.below hb1).tape (h4.out.below hb1) h5)
 have j6 := zv2 q4
 have q7 := zv2 ((q1.out.trans (zq hb1 (some b))).trans h5)
 have j7 := zv2 ((zq hb1 (some b)).trans h5)
 clear hb1 hc1 q3 q4 h5 k9 h4
 go_wp2_with fail
 refine (kh b (k + 1) 3 w2 j6.out (by omega) (by decide) (by decide)).mono ?_
 rintro e w3 ⟨r1, J5, rfl, q8, hg3⟩
 have q9 := zv2 (q6.out.tape j6.out hg3)
 have j8 := zv2 q8
 have v0 := zv2 (q7.out.trans hg3)
 have j9 := zv2 (j7.out.trans hg3)
 have e1 : IntKind.i64.wrap (1 + (r1 : Int)) = 1 + (r1 : Int) := IntWalk.i64_in _ (by omega)
 clear q8 hg3 q6 j6 q7 j7
 go_wp2_with fail
 refine (kh b (k + 2) 10 w3 j8.out (by omega) (by decide) (by decide)).mono ?_
 rintro e w4 ⟨r2, J6, rfl, v1, hg4⟩
 have v2 := zv2 (q9.out.tape j8.out hg4)
 have v3 := zv2 v1
 have HG4 := zv2 (v0.out.trans hg4)
 have h0 := zv2 (j9.out.trans hg4)
 have e2 : IntKind.i64.wrap (1 + (r2 : Int)) = 1 + (r2 : Int) := IntWalk.i64_in _ (by omega)
 clear v1 hg4 q9 j8 v0 j9
 have k0 : Hid ((r1 : Int) < 3 /\ (r2 : Int) < 10) := zv2 ⟨J5, J6⟩
 have v4 : w4.heap[w.heap.size]? = some (.cells #[.string ⟨#[]⟩, .int .i64 0, .int .i64 0, .slice none 0 0] 54 (0, 0)) := (h0.out.block _ (by have := HZ0.out; omega) (by intro e; cases e; have := HBB.out; omega)).trans q0.out
 have hz4 : w.heap.size + 1 ≤ w4.heap.size := by have := h0.out.size; have := HZ0.out; omega
 have hb5 : Below w4.heap.size w4 (w4.alloc (.cells #[.string ⟨id.toArray⟩, .int .i64 (1 + (r1 : Int)), .int .i64 (1 + (r2 : Int)), .slice none 0 0] 54)) := (zv5 _ w4).alloc (zv4 _) _
 have v5 : Hid (VInv w4 w.heap.size w4.heap.size (.string ⟨id.toArray⟩) (.int .i64 (1 + (r1 : Int))) (.int .i64 (1 + (r2 : Int))) (.slice none 0 0) [] (w4.alloc (.cells #[.string ⟨id.toArray⟩, .int .i64 (1 + (r1 : Int)), .int .i64 (1 + (r2 : Int)), .slice none 0 0] 54))) := zv2 ⟨FRow.nil _ _, heap_alloc_new w4 _, (hb5.block _ (by omega)).trans v4, (fun p hp => by simp at hp), hb5, hz4⟩
 have v6 := zv2 (v2.out.below hb5)
 have k1 := zv2 (v3.out.below hb5)
 have v7 := zv2 (HG4.out.trans (zq hb5 (some b)))
 clear hb5 v4 v2 v3 HG4 h0 q0 q1 HZ0
 go_wp2_with fail
 clear e1 e2
 generalize w4.alloc (.cells #[.string ⟨id.toArray⟩, .int .i64 (1 + (r1 : Int)), .int .i64 (1 + (r2 : Int)), .slice none 0 0] 54) = w5 at *
 generalize w4.heap.size = O at *
 refine (kh b (k + 3) 4 w5 k1.out (by omega) (by decide) (by decide)).mono ?_
 rintro e w6 ⟨r3, hr3, rfl, v8, h6⟩
 have v9 := zv2 (v6.out.tape k1.out h6)
 have y2 := zv2 v8
 have y3 := zv2 (v7.out.trans h6)
 have y4 := zv2 (v5.out.tape h6 HBB.out)
 clear v8 h6 v6 k1 v7 v5 hz4
 go_wp2_with fail
 go_loopw [4, 5] (fun lv nv W => ∃ (j : Nat) (l : List (Int × V.Bs)) (V0 : World), j ≤ 3 /\ nv = .int .i64 j /\ l.length + j ≤ 3 /\ V.Asc l /\ (∀ p ∈ l, PkOk p) /\ GRow 100 2 pE W (b + 1) lv l /\ Tape W b (k + 10 - 2 * j) /\ w.grownBy W (some b) /\ zk W /\ VInv V0 w.heap.size O (.string ⟨id.toArray⟩) (.int .i64 (1 + (r1 : Int))) (.int .i64 (1 + (r2 : Int))) (.slice none 0 0) [] W) (fun _ nv _ => (intOf nv).toNat)
 case atStart => exact ⟨r3, [], w6, by omega, rfl, by simp; omega, List.Pairwise.nil, (fun p hp => by simp at hp), GRow.nil _ _, y2.out.le (by omega), y3.out, v9.out, y4.out⟩
 case round =>
  obtain ⟨j, l, V0, hj, rfl, y5, k2, y6, g0, ht, hg, y7, g3⟩ := hrel
  have k3 := zv2 k2
  have HPK := zv2 y6
  have h7 := zv2 g0
  have HT := zv2 ht
  have HG := zv2 hg
  have HM := zv2 y7
  have h8 := zv2 g3
  have h9 := zv2 y5
  obtain ⟨la, lc, J7⟩ := g0.slice
  subst J7
  clear k2 y6 g0 ht hg y7 g3 y5 v9 y2 y3 y4
  by_cases hpos : 0 < j
  ·have i1 : (0 : Int) < (j : Int) := by omega
   have wr1 : IntKind.i64.wrap ((j : Int) - 1) = (j : Int) - 1 := IntWalk.i64_in _ (by omega)
   go_wp2_with fail
   refine (kh b _ 3 wr HT.out (by omega) (by decide) (by decide)).mono ?_
   rintro e wa ⟨ra, J8, rfl, y8, g8⟩
   have j0 := zv2 y8
   have y9 := zv2 (HM.out.tape HT.out g8)
   have z4 := zv2 (HG.out.trans g8)
   have z5 := zv2 (h8.out.tape g8 HBB.out)
   have z6 := zv2 (h7.out.kept g8 (fun c e => by cases e; omega))
   have e1 : IntKind.i64.wrap (1 + (ra : Int)) = 1 + (ra : Int) := IntWalk.i64_in _ (by omega)
   have HSC : Hid (V.scheme (1 + (ra : Int)) = true) := zv2 (by
     have h3 : ra = 0 ∨ ra = 1 ∨ ra = 2 := by omega
     rcases h3 with rfl | rfl | rfl <;> rfl)
   clear y8 g8 HT HM HG h8 h7 J8
   go_wp2_with fail
   refine (zo1 wa).mono ?_
   rintro e wb ⟨rfl, k4⟩
   have hbb : Below wa.heap.size wa wb := by rw [k4]; exact (zv5 _ wa).alloc (zv4 _) _
   have z7 : ∀ j, j < 4 -> wb.cell? ⟨wa.heap.size, 0 + j, none⟩ = some (.string ⟨(zce.getD j []).toArray⟩) := fun j hj => by
    rw [k4, World.cell?_alloc_new, Nat.zero_add]
    exact z0d
   clear k4
   go_wp2_with fail
   refine (zay b _ wb ⟨wa.heap.size, 0, none⟩ 4 zce (j0.out.below hbb) (by omega) (by decide) (by decide) (by have := j0.out.lt; simp; omega) rfl z7).mono ?_
   rintro e wc ⟨nm, z8, rfl, k5, g9⟩
   have z9 := zv2 k5
   have G0 := zv2 ((y9.out.below hbb).tape (j0.out.below hbb) g9)
   have G1 := zv2 ((z4.out.trans (zq hbb (some b))).trans g9)
   have G2 := zv2 ((z5.out.call hbb).tape g9 HBB.out)
   have G3 := zv2 ((GRow.below z6.out hbb).kept g9 (fun c e => by cases e; omega))
   have J9 := zv2 z8
   have Q0 : b < wc.heap.size := k5.lt
   clear k5 g9 z8 hbb z7 j0 y9 z4 z5 z6
   go_wp2_with fail
   refine (zrm (.slice la l.length lc) l (1 + (ra : Int), nm) wc (GRow.gsl ze3 G3.out) (by have := h9.out; omega)).mono ?_
   rintro e wd ⟨u, rfl, G4, g1⟩
   have j1 := zv2 (z9.out.below g1)
   have Q1 := zv2 (G0.out.below g1)
   have HGD := zv2 (G1.out.trans (zq g1 (some b)))
   have Q2 := zv2 (G2.out.call g1)
   have HRD := zv2 (GRow.weaken G4 (show b + 1 ≤ wc.heap.size by omega))
   have Q3 := zv2 (V.addP_asc (p := (1 + (ra : Int), nm)) k3.out)
   have Q4 : Hid (∀ p ∈ V.addP (1 + (ra : Int), nm) l, PkOk p) := zv2 (fun p hp => by
     rcases V.addP_mem hp with h | h
     · exact HPK.out p h
     · rw [h]; exact ⟨HSC.out, J9.out⟩)
   have HLD := zv2 (V.addP_len (p := (1 + (ra : Int), nm)) (l := l))
   clear G4 g1 z9 G0 G1 G2 G3 k3 HPK Q0
   go_wp2
   go_roundw
   case rel => exact ⟨j - 1, _, _, by omega, by rw [show ((j - 1 : Nat) : Int) = (j : Int) - 1 by omega], by have := HLD.out; have := h9.out; omega, Q3.out, Q4.out, HRD.out, j1.out.le (by omega), HGD.out, Q1.out, Q2.out⟩
   case measure => simp [intOf]; omega
  ·have U1 : Hid (j = 0) := zv2 (by omega)
   have i1 : ¬ (0 : Int) < (j : Int) := by omega
   have G5 : j = 0 := by omega
   rw [G5] at HT h9
   clear hpos hj G5
   obtain ⟨jj, G6⟩ : ∃ jj : Int, jj = (j : Int) := ⟨_, rfl⟩
   rw [← G6] at i1 ⊢
   clear G6
   have j2 : Hid (l.length ≤ 3) := zv2 (by have := h9.out; omega)
   have G7 := h8.out
   go_wp2_with fail
   go_loopw [6] (fun iv W => ∃ (j : Nat) (vo : Value) (us : List Fs) (V1 : World), j ≤ l.length /\ us.length = j /\ iv = .int .i64 j /\ us.map (fun q => V.pk q.1) = l.take j /\ (∀ q ∈ us, V.xh q.1 = true) /\ GRow 100 2 pE W (b + 1) (.slice la l.length lc) l /\ Tape W b (k + 10 + 3 * j) /\ w.grownBy W (some b) /\ VInv V1 w.heap.size O (.string ⟨id.toArray⟩) (.int .i64 (1 + (r1 : Int))) (.int .i64 (1 + (r2 : Int))) vo us W) (fun iv _ => l.length - (intOf iv).toNat)
   case atStart => exact ⟨0, _, [], _, Nat.zero_le _, rfl, rfl, by simp, (fun p hp => by simp at hp), h7.out, HT.out.le (by omega), HG.out, G7⟩
   case round =>
    obtain ⟨j, vo, us, V1, hj, G8, rfl, G9, J0, g0, ht, hg, g3⟩ := hrel
    obtain ⟨vao, vco, Q5⟩ := g3.row.slice
    subst Q5
    have HUS := zv2 G8
    have HMP := zv2 G9
    have HSN := zv2 J0
    have HJ : Hid (k ≤ 800000 /\ j ≤ 3) := zv2 ⟨hk, by have := j2.out; omega⟩
    have g2 := zv2 g3
    have J1 := zv2 hg
    clear G7 G8 G9 J0 h7 HT HG HM h8
    by_cases hlt : j < l.length
    ·obtain ⟨g, cap', e, Q6, J2, hc⟩ := GRow.at ze3 g0 j hlt
     cases e
     have y0 : wr.drew.cell? ⟨g, j * 2, none⟩ = some (.int .i64 (l[j]).1) := hc 0 _ rfl
     have y1 : wr.drew.cell? ⟨g, j * 2 + 1, none⟩ = some (.string ⟨(l[j]).2.toArray⟩) := hc 1 _ rfl
     obtain ⟨cur, fr, hgg⟩ := g0.heap
     have HPKp := zv2 (HPK.out l[j] (List.getElem_mem hlt))
     have J3 : Hid ((l[j]).2.length ≤ maxLen) := zv2 (by have := (zlj HPKp.out.2).2; unfold maxLen; omega)
     have HTK : Hid (l.take (j + 1) = l.take j ++ [l[j]]) := zv2 (List.take_succ_eq_append_getElem hlt)
     have g1 : Below wr.heap.size wr wr.drew := (zv5 _ wr).drew
     have g4 := zv2 (g3.call g1)
     have HGD := zv2 (hg.trans (zq g1 (some b)))
     have j1 := zv2 (ht.below g1)
     have HRD := zv2 (GRow.below g0 g1)
     have hO3 := (zaw g4.out.inv).2.2.2
     have g5 : Hid (∀ c, (Value.slice vao us.length vco).ownBlock = some c -> c < wr.drew.heap.size /\ O ≤ c) := zv2 (fun c e => ⟨GRow.lt g4.out.row.row _ e, GRow.block g4.out.row.row _ e⟩)
     have j3 := g3.base
     have hbb := HBB.out
     have HN1 : Hid ((Value.slice vao us.length vco).ownBlock ≠ some g) := zv2 (g4.out.rowNe (g1.block _ J2 |>.trans hgg) (by decide))
     have HN2 : Hid (some O ≠ some g) := zv2 (fun e => by cases e; have h1 := g3.inv; rw [hgg] at h1; cases h1)
     have HN3 : Hid ((Value.slice vao us.length vco).ownBlock ≠ some b) := zv2 (fun e => by have := (g5.out _ e).2; omega)
     have HN4 : Hid (∀ b', (Value.slice vao us.length vco).ownBlock = some b' -> b < b') := zv2 (fun c e => by have := (g5.out _ e).2; omega)
     have HN5 : Hid (some O ≠ some b) := zv2 (fun e => by cases e; omega)
     have HN6 : Hid (∀ b', some O = some b' -> b < b') := zv2 (fun c e => by cases e; omega)
     have HN7 : Hid (∀ c, (Value.slice vao us.length vco).ownBlock = some c -> w.heap.size ≤ c) := zv2 (fun c e => by have := (g5.out _ e).2; omega)
     have HN8 : Hid (∀ c, some O = some c -> w.heap.size ≤ c) := zv2 (fun c e => by cases e; omega)
     have j4 : Hid (some b ≠ some g) := zv2 (fun e => by cases e; omega)
     have HVG : Hid (∀ c, (Value.slice (some ⟨g, 0, none⟩) l.length lc).ownBlock = some c -> c = g) := zv2 (fun c hc => by simp [Value.ownBlock] at hc; exact hc.symm)
     have HUL : Hid (us.length ≤ 900000) := zv2 (by have := HUS.out; have := j2.out; omega)
     have i1 : (0 : Int) ≤ (j : Int) := by omega
     have i2 : (j : Int) < (l.length : Int) := by omega
     have wr1 : IntKind.i64.wrap ((j : Int) + 1) = (j : Int) + 1 := IntWalk.i64_in _ (by have := j2.out; omega)
     generalize l[j] = p at *
     clear hc hgg g1 g0 ht hg g3 j3 hbb Q6 J2 g2 J1
     go_wp2_with fail
     refine wp_region_held_drew (S := (fun W' => W'.cell? ⟨g, j * 2, none⟩ = some (.int .i64 p.1) /\ W'.cell? ⟨g, j * 2 + 1, none⟩ = some (.string ⟨p.2.toArray⟩))) (by kernel_rfl) (⟨y0, y1⟩) (fun hHeld => ?_)
     generalize wr.drew = wd at *
     refine tk 0 ?_
     refine tk 2 ?_
     refine tk 3 ?_
     refine tk 4 ?_
     refine tk 5 ?_
     refine tk 6 ?_
     refine tk 7 ?_
     refine tk 8 ?_
     refine tk 9 ?_
     refine tk 10 ?_
     refine tk 11 ?_
     refine tk 12 ?_
     refine tk 13 ?_
     refine tk 14 ?_
     refine tk 15 ?_
     refine tk 16 ?_
     refine tk 17 ?_
     refine wpAnyH_ready (rs := [1, 18]) (by kernel_rfl) (by simp) ?_
     refine (AllReadyH.cons (o := _) rfl (fun K hK => ?_) (AllReadyH.cons (o := _) rfl (fun K hK => ?_) AllReadyH.nil))
     ·refine zgd rfl (.slice vao us.length vco) (by first | (have := hO3; go_simp; done) | (have := (zaw g7.out.inv).2.2.2; go_simp; done) | (have := (zaw HA.out.inv).2.2.2; go_simp; done)) ?_
      try dsimp only
      refine hK.out _ _ ?_ (fun hHeld => nx ?_)
      ·exact hHeld
      clear hK K
      refine rd 18 fun K hK => ?_
      go_simp
      refine (zjs b (k + 10 + 3 * j) p.1 wd (q2.out _ HGD.out) j1.out (by have := HJ.out; omega) HPKp.out.1).mono ?_
      rintro e w7 ⟨u, its, rfl, hu, hok, hl1, how, ht7, hg7⟩
      obtain ⟨up, uq, rfl⟩ := hu.slice
      unfold setV
      have g7 := zv2 (g4.out.tape hg7 HBB.out)
      have g6 : Below w7.heap.size w7 (w7.alloc (.cells #[.int .i64 p.1, .string ⟨p.2.toArray⟩, .int .i64 p.1, .slice up its.length uq] 70)) := (zv5 _ w7).alloc (zv4 _) _
      have HA := zv2 (g7.out.call g6)
      have Q7 := zv2 hg7.size
      have HP8 : Hid (FOk (w7.alloc (.cells #[.int .i64 p.1, .string ⟨p.2.toArray⟩, .int .i64 p.1, .slice up its.length uq] 70)) (.slice vao us.length vco) ((⟨p.1, p.2, p.1, its⟩, ⟨up, its.length, uq⟩) : Fs)) := zv2 ⟨⟨J3.out, zbk (V.zf5 hok), Nat.le_trans (V.zf5 hok).len (by decide)⟩, rfl, hu.below g6, fun _ c hc e => by have := how c hc; have := (g5.out c e).1; omega⟩
      have HOW8 : Hid (∀ c, (Value.slice up its.length uq).ownBlock = some c -> O < c) := zv2 (fun c hc => by have := how c hc; have := g4.out.lt; omega)
      have HNW : Hid (∀ j u, (fE ((⟨p.1, p.2, p.1, its⟩, ⟨up, its.length, uq⟩) : Fs))[j]? = some u -> (w7.alloc (.cells #[.int .i64 p.1, .string ⟨p.2.toArray⟩, .int .i64 p.1, .slice up its.length uq] 70)).cell? ⟨w7.heap.size, j, none⟩ = some u) := zv2 (fun j u hj => by rw [zh, if_pos rfl]; simpa [fE, Sl.v] using hj)
      have HSO : Hid (V.okR p.1 its = true /\ 1 ≤ its.length) := zv2 ⟨hok, hl1⟩
      have HT8 := zv2 (ht7.below g6)
      have HG7 := zv2 hg7
      try dsimp only
      refine hK.out _ _ ?_ (fun hHeld => nx ?_)
      ·(try dsimp only); exact ⟨qp hg7 j4.out hHeld.1, qp hg7 j4.out hHeld.2⟩
      clear hK K
      refine tk 19 ?_
      refine rd 20 fun K hK => ?_
      go_simp
      refine hK.out _ _ ?_ (fun hHeld => nx ?_)
      ·exact zya
      exact zv9
     ·go_simp
      refine (zjs b (k + 10 + 3 * j) p.1 wd (q2.out _ HGD.out) j1.out (by have := HJ.out; omega) HPKp.out.1).mono ?_
      rintro e w7 ⟨u, its, rfl, hu, hok, hl1, how, ht7, hg7⟩
      obtain ⟨up, uq, rfl⟩ := hu.slice
      unfold setV
      have g7 := zv2 (g4.out.tape hg7 HBB.out)
      have g6 : Below w7.heap.size w7 (w7.alloc (.cells #[.int .i64 p.1, .string ⟨p.2.toArray⟩, .int .i64 p.1, .slice up its.length uq] 70)) := (zv5 _ w7).alloc (zv4 _) _
      have HA := zv2 (g7.out.call g6)
      have Q7 := zv2 hg7.size
      have HP8 : Hid (FOk (w7.alloc (.cells #[.int .i64 p.1, .string ⟨p.2.toArray⟩, .int .i64 p.1, .slice up its.length uq] 70)) (.slice vao us.length vco) ((⟨p.1, p.2, p.1, its⟩, ⟨up, its.length, uq⟩) : Fs)) := zv2 ⟨⟨J3.out, zbk (V.zf5 hok), Nat.le_trans (V.zf5 hok).len (by decide)⟩, rfl, hu.below g6, fun _ c hc e => by have := how c hc; have := (g5.out c e).1; omega⟩
      have HOW8 : Hid (∀ c, (Value.slice up its.length uq).ownBlock = some c -> O < c) := zv2 (fun c hc => by have := how c hc; have := g4.out.lt; omega)
      have HNW : Hid (∀ j u, (fE ((⟨p.1, p.2, p.1, its⟩, ⟨up, its.length, uq⟩) : Fs))[j]? = some u -> (w7.alloc (.cells #[.int .i64 p.1, .string ⟨p.2.toArray⟩, .int .i64 p.1, .slice up its.length uq] 70)).cell? ⟨w7.heap.size, j, none⟩ = some u) := zv2 (fun j u hj => by rw [zh, if_pos rfl]; simpa [fE, Sl.v] using hj)
      have HSO : Hid (V.okR p.1 its = true /\ 1 ≤ its.length) := zv2 ⟨hok, hl1⟩
      have HT8 := zv2 (ht7.below g6)
      have HG7 := zv2 hg7
      try dsimp only
      refine hK.out _ _ ?_ (fun hHeld => nx ?_)
      ·(try dsimp only); exact ⟨qp hg7 j4.out hHeld.1, qp hg7 j4.out hHeld.2⟩
      clear hK K
      refine tk 19 ?_
      refine wpAnyH_ready (rs := [1, 20]) (by kernel_rfl) (by simp) ?_
      refine (AllReadyH.cons (o := _) rfl (fun K hK => ?_) (AllReadyH.cons (o := _) rfl (fun K hK => ?_) AllReadyH.nil))
      ·refine zgd rfl (.slice vao us.length vco) (by first | (have := hO3; go_simp; done) | (have := (zaw g7.out.inv).2.2.2; go_simp; done) | (have := (zaw HA.out.inv).2.2.2; go_simp; done)) ?_
       try dsimp only
       refine hK.out _ _ ?_ (fun hHeld => nx ?_)
       ·exact hHeld
       clear hK K
       refine rd 20 fun K hK => ?_
       go_simp
       refine hK.out _ _ ?_ (fun hHeld => nx ?_)
       ·exact zya
       exact zv9
      ·go_simp
       refine hK.out _ _ ?_ (fun hHeld => nx ?_)
       ·exact zya
       clear hK K
       refine rd 1 fun K hK => ?_
       refine zgd rfl (.slice vao us.length vco) (by first | (have := hO3; go_simp; done) | (have := (zaw g7.out.inv).2.2.2; go_simp; done) | (have := (zaw HA.out.inv).2.2.2; go_simp; done)) ?_
       try dsimp only
       refine hK.out _ _ ?_ (fun hHeld => nx ?_)
       ·exact hHeld
       exact zv9
    ·obtain rfl : j = l.length := by omega
     have Q8 := zaw g2.out.inv
     obtain ⟨z0, z1, z2, z3⟩ := Q8
     have Q9 := zv2 ht
     rw [List.take_length] at HMP
     clear g0 ht hg g3 hlt
     go_wp2_with (first | (refine wl_put4 rfl zp3 _ _ rfl w.heap.size #[.string ⟨#[]⟩, .int .i64 0, .int .i64 0, .slice none 0 0] 54 g2.out.zero rfl (.string ⟨id.toArray⟩) (.int .i64 (1 + (r1 : Int))) (.int .i64 (1 + (r2 : Int))) (.slice vao us.length vco) ⟨rfl, rfl, rfl, rfl⟩ rfl rfl ?_) | fail)
     refine bodyPost_ret (v := .agg #[.string ⟨id.toArray⟩, .int .i64 (1 + (r1 : Int)), .int .i64 (1 + (r2 : Int)), .slice vao us.length vco]) (qr Tryz.results33 rfl (load4 Tryz.underlying54 zp3 (setRow_heap _ _ _ _ _ _ g2.out.zero))) rfl ?_
     have j3 := g2.out.base
     have hbb := HBB.out
     have k6 := qc wr w.heap.size #[.string ⟨id.toArray⟩, .int .i64 (1 + (r1 : Int)), .int .i64 (1 + (r2 : Int)), .slice vao us.length vco]
     have U0 := HUS.out
     have U2 := j2.out
     refine ⟨⟨id, 1 + r1, 1 + r2, us.map (·.1)⟩, .slice vao us.length vco, us, rfl, ⟨q5.out.1, q5.out.2, by show (1 : Int) ≤ 1 + (r1 : Int); omega, by show 1 + (r1 : Int) ≤ 3; have := k0.out.1; omega, by show (1 : Int) ≤ 1 + (r2 : Int); omega, by show 1 + (r2 : Int) ≤ 10; have := k0.out.2; omega, by rw [List.length_map]; omega, fun a ha => ?_, ?_⟩, rfl, ?_, fun p hp c hc => (by have := g2.out.own p hp c hc; omega), ?_, zcz J1.out k6 (zv4 _)⟩
     ·obtain ⟨q, hq, rfl⟩ := List.mem_map.1 ha
      exact HSN.out q hq
     ·show V.Asc ((us.map (·.1)).map V.pk)
      rw [List.map_map]
      have h := HMP.out
      rw [show (V.pk ∘ fun x : Fs => x.1) = fun q => V.pk q.1 from rfl, h]
      exact k3.out
     ·intro W hW
      have J4 := g2.out.row.kept k6 (g2.out.rowNe g2.out.zero (by decide)) (fun p hp c hc => by have := g2.out.own p hp c hc; omega)
      exact (J4.kept hW (fun e => by have := GRow.block J4.row _ e; omega) (fun p hp c hc => by have := g2.out.own p hp c hc; omega)).weaken (by omega)
     ·exact (Q9.out.grown k6 (by intro e; cases e; omega) (by intro c e; cases e; omega)).le (by omega)
end Go.Proofs.YtbikeahmldobkaaGreatDoor
