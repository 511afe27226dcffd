/-
  Lemmas for the law.
-/
import Derived.Test.YtbikeahmldobkaaGreatDoorC50x40
import Derived.Test.YtbikeahmldobkaaGreatDoorC50x41
set_option linter.all false
set_option maxRecDepth 100000
set_option maxHeartbeats 6400000
namespace Go.Proofs.YtbikeahmldobkaaGreatDoor
open Go.RowKit
theorem VInv.tape {V0 W W' : World} {N0 O b : Nat} {i r s : Value} {v : Value} {us : List Fs} (h : VInv V0 N0 O i r s v us W) (hg : W.grownBy W' (some b)) (hb : b < N0) : VInv W' N0 O i r s v us W' := by
 have g0 := h.base
 exact ⟨h.row.kept hg (fun e => by have := GRow.block h.row.row _ e; omega) (fun p hp c hc => by have := h.own p hp c hc; omega), (hg.block O h.lt (by intro e; cases e; omega)).trans h.inv, (hg.block N0 (Array.getElem?_eq_some_iff.1 h.zero).1 (by intro e; cases e; omega)).trans h.zero, h.own, zwj _ _, g0⟩
section
variable {α : Type} {enc : α -> List Value} {k : Nat} {T : TypeId}
theorem GRow.kept2 {w w' : World} {N g : Nat} {v : Value} {l : List α} {row : Option Nat} (h : GRow T k enc w N v l) (hv : ∀ c, v.ownBlock = some c -> c = g) (hg : w.grownBy w' row) (hr : row ≠ some g) : GRow T k enc w' N v l := by
 refine ⟨h.1, ?_⟩
 rcases h.2 with h | ⟨g', cap, cur, rfl, hb, hgg, rest⟩
 ·exact .inl h
 ·refine .inr ⟨g', cap, cur, rfl, hb, ?_, rest⟩
  have : g' = g := hv _ rfl
  subst this
  rw [hg.block g' (Array.getElem?_eq_some_iff.1 hgg).1 (fun e => hr e.symm)]
  exact hgg
end
theorem GRow.heap {α : Type} {enc : α -> List Value} {k : Nat} {T : TypeId} {w : World} {N g n c : Nat} {l : List α} (h : GRow T k enc w N (.slice (some ⟨g, 0, none⟩) n c) l) : ∃ cur fr, w.heap[g]? = some (.cells cur T fr) := by
 rcases h.2 with ⟨h, _⟩ | ⟨g', cap, cur, e, hb, hgg, _⟩
 ·cases h
 ·cases e
  exact ⟨_, _, hgg⟩
theorem xk {w w6 W7 : World} {b : Nat} {row : Option Nat} (h : w.grownBy w6 (some b)) (k : w6.grownBy W7 row) (hr : ∀ c, row = some c -> w.heap.size ≤ c) : w.grownBy W7 (some b) :=
 ⟨k.os.trans h.os, k.tape.trans h.tape, k.output.trans h.output, Nat.le_trans h.size k.size, fun i hi hq => (k.block i (Nat.lt_of_lt_of_le hi h.size) (fun e => by have := hr i e.symm; omega)).trans (h.block i hi hq)⟩
def ym : List V.Bs := [[122, 108, 105, 98], [115, 115, 108], [108, 105, 98, 115, 47, 112, 110, 103], [97]]
def PkOk (p : Int × V.Bs) : Prop := V.scheme p.1 = true /\ p.2 ∈ ym
theorem zly {s : V.Bs} (h : s ∈ ym) : V.jx s = true /\ s.length ≤ 8 := by
 simp only [ym, List.mem_cons, List.not_mem_nil, or_false] at h
 rcases h with e | e | e | e <;> (rw [e]; decide)
theorem PkOk.sound {p : Int × V.Bs} (h : PkOk p) {its : List V.Itv} (ho : V.okR p.1 its = true) (hl : 1 ≤ its.length) : V.xl ⟨p.1, p.2, p.1, its⟩ = true := by
 unfold V.xl V.zdm
 simp only [(zly h.2).1, ho, Bool.true_and, Bool.and_true, decide_true, decide_eq_true_eq]
 exact hl
def AdvPostG (b k : Nat) (w : World) (e : Ending) (w' : World) : Prop :=
 ∃ x u, ∃ us : List Fs, e = .returned (advV x u) /\ V.MadeV x /\ x.aff = us.map (·.1) /\ (∀ W, w'.grownBy W (some b) -> FRow w.heap.size W u us) /\ (∀ p ∈ us, ∀ c, p.2.v.ownBlock = some c -> w.heap.size ≤ c) /\ Tape w' b (k + 30) /\ w.grownBy w' (some b)
theorem zwn {P : Prop} (h : P := by
 clear hK K
 refine rd 21 fun K hK => ?_
 refine zb2 zoc (by decide) zr1 affGI (by decide) rfl _ _ 52 rfl Tryz.underlying52 O (.slice vao us.length vco) us rfl HA.out.row.row w7.heap.size ((⟨p.1, p.2, p.1, its⟩, ⟨up, its.length, uq⟩) : Fs) rfl HNW.out (by have := HUL.out; omega) (Nat.le_of_lt HA.out.lt) ?_
 intro v8 w8 hr8 hg8 ho8
 obtain ⟨va8, vc8, rfl, hc8, hf8, hM9⟩ := HA.out.fin hr8 hg8 ho8 HP8.out HOW8.out
 try dsimp only
 refine hK.out _ _ ?_ (fun hHeld => nx ?_)
 ·(try dsimp only); exact ⟨qp hg8 HN1.out hHeld.1, qp hg8 HN1.out hHeld.2⟩
 clear hK K
 refine tk 22 ?_
 refine rd 23 fun K hK => ?_
 refine zg7 rfl 52 _ _ rfl O 3 rfl (.slice va8 (us.length + 1) vc8) rfl _ hc8 hf8 zhf rfl ?_
 have hgs := jt w8 O 3 (.slice va8 (us.length + 1) vc8)
 generalize w8.setCell ⟨O, 3, none⟩ (.slice va8 (us.length + 1) vc8) = w9 at *
 try dsimp only
 refine hK.out _ _ ?_ (fun hHeld => nx ?_)
 ·(try dsimp only); exact ⟨qp hgs HN2.out hHeld.1, qp hgs HN2.out hHeld.2⟩
 clear hK K
 refine wpAnyH_done (by kernel_rfl) ?_ _
 have HT9 := zwg ((HT8.out.grown hg8 HN3.out HN4.out).grown hgs HN5.out HN6.out)
 have HR9 := zwg (((GRow.below (HRD.out.kept HG7.out (fun c e => by cases e; omega)) ((zwj _ _).alloc (zwi _) _)).kept2 HVG.out hg8 HN1.out).kept2 HVG.out hgs HN2.out)
 have HG9 := zwg (xk (xk ((HGD.out.trans HG7.out).trans (zn ((zwj _ _).alloc (zwi _) _) (some b))) hg8 HN7.out) hgs HN8.out)
 clear hHeld hO3 hgs hg8 hr8 ho8 hg7 ht7 hu how hok hl1
 go_wp2
 go_roundw
 case rel => exact ⟨j + 1, _, us ++ [((⟨p.1, p.2, p.1, its⟩, ⟨up, its.length, uq⟩) : Fs)], _, by omega, by rw [List.length_append, HUS.out]; rfl, by go_num, by rw [List.map_append, HMP.out, HTK.out]; rfl, fun q hq => by rcases List.mem_append.1 hq with h | h; exact HSN.out q h; (rw [List.mem_singleton.1 h]; exact HPKp.out.sound HSO.out.1 HSO.out.2), HR9.out, HT9.out.le (by omega), HG9.out, hM9⟩
 case measure => simp [intOf]; omega) : P := h
theorem zyt {P : Prop} (h : P := by
 (try dsimp only); exact ⟨zf ((zwj _ _).alloc (zwi _) _) hHeld.1, zf ((zwj _ _).alloc (zwi _) _) hHeld.2⟩) : P := h
theorem zna (b k : Nat) (w : World) (hm : zj w) (h : Tape w b k) (hk : k ≤ 800000) :
  Calls Tryz.prog 33 #[.pointer (some ⟨b, 0, none⟩)] w (AdvPostG b k w) := by
 obtain ⟨h2, k7, k8⟩ := adv_zero w
 have k9 := zwg (hm.below h2)
 have h4 := zwg (h.below h2)
 have q0 := zwg k7
 have HZ0 := zwg k8
 have q1 := zwg (zn h2 (some b))
 have HBB := zwg h.lt
 have q2 : Hid (∀ W, w.grownBy W (some b) -> zj W) := zwg (fun W hg => hm.tape h hg)
 clear h2 k7 k8 hm h
 go_enter Tryz.func33, Tryz.ntmps33
 go_wp2_with fail
 generalize w.alloc (.cells #[.string ⟨#[]⟩, .int .i64 0, .int .i64 0, .slice none 0 0] 54) = w0 at *
 refine (zsp w0).mono ?_
 rintro e w1 ⟨rfl, j5⟩
 have hb1 : Below w0.heap.size w0 w1 := by rw [j5]; exact (zwj _ w0).alloc (zwi _) _
 have hc1 : ∀ j, j < 3 -> w1.cell? ⟨w0.heap.size, 0 + j, none⟩ = some (.string ⟨(V.ziz.getD j []).toArray⟩) := fun j hj => by
  rw [j5, World.cell?_alloc_new, Nat.zero_add]
  have h3 : j = 0 ∨ j = 1 ∨ j = 2 := by omega
  rcases h3 with rfl | rfl | rfl <;> rfl
 clear j5
 go_wp2_with fail
 refine (ut b k w1 ⟨w0.heap.size, 0, none⟩ 3 V.ziz (h4.out.below hb1) (by omega) (by decide) (by decide) (by have := h4.out.lt; have := HBB.out; have := HZ0.out; simp; omega) rfl hc1).mono ?_
 rintro e w2 ⟨id, q3, rfl, q4, h5⟩
 have q5 := zwg (V.madeId q3)
 have q6 := zwg ((k9.out.below hb1).tape (h4.out.below hb1) h5)
 have j6 := zwg q4
 have q7 := zwg ((q1.out.trans (zn hb1 (some b))).trans h5)
 have j7 := zwg ((zn hb1 (some b)).trans h5)
 clear hb1 hc1 q3 q4 h5 k9 h4
 go_wp2_with fail
 refine (jf b (k + 1) 3 w2 j6.out (by omega) (by decide) (by decide)).mono ?_
 rintro e w3 ⟨r1, J4, rfl, q8, hg3⟩
 have q9 := zwg (q6.out.tape j6.out hg3)
 have j8 := zwg q8
 have v0 := zwg (q7.out.trans hg3)
 have j9 := zwg (j7.out.trans hg3)
 have e1 : IntKind.i64.wrap (1 + (r1 : Int)) = 1 + (r1 : Int) := IntWalk.i64_in _ (by omega)
 clear q8 hg3 q6 j6 q7 j7
 go_wp2_with fail
 refine (jf b (k + 2) 10 w3 j8.out (by omega) (by decide) (by decide)).mono ?_
 rintro e w4 ⟨r2, J5, rfl, v1, hg4⟩
 have v2 := zwg (q9.out.tape j8.out hg4)
 have v3 := zwg v1
 have HG4 := zwg (v0.out.trans hg4)
 have h0 := zwg (j9.out.trans hg4)
 have e2 : IntKind.i64.wrap (1 + (r2 : Int)) = 1 + (r2 : Int) := IntWalk.i64_in _ (by omega)
 clear v1 hg4 q9 j8 v0 j9
 have k0 : Hid ((r1 : Int) < 3 /\ (r2 : Int) < 10) := zwg ⟨J4, J5⟩
 have v4 : w4.heap[w.heap.size]? = some (.cells #[.string ⟨#[]⟩, .int .i64 0, .int .i64 0, .slice none 0 0] 54 (0, 0)) := (h0.out.block _ (by have := HZ0.out; omega) (by intro e; cases e; have := HBB.out; omega)).trans q0.out
 have hz4 : w.heap.size + 1 ≤ w4.heap.size := by have := h0.out.size; have := HZ0.out; omega
 have hb5 : Below w4.heap.size w4 (w4.alloc (.cells #[.string ⟨id.toArray⟩, .int .i64 (1 + (r1 : Int)), .int .i64 (1 + (r2 : Int)), .slice none 0 0] 54)) := (zwj _ w4).alloc (zwi _) _
 have v5 : Hid (VInv w4 w.heap.size w4.heap.size (.string ⟨id.toArray⟩) (.int .i64 (1 + (r1 : Int))) (.int .i64 (1 + (r2 : Int))) (.slice none 0 0) [] (w4.alloc (.cells #[.string ⟨id.toArray⟩, .int .i64 (1 + (r1 : Int)), .int .i64 (1 + (r2 : Int)), .slice none 0 0] 54))) := zwg ⟨FRow.nil _ _, heap_alloc_new w4 _, (hb5.block _ (by omega)).trans v4, (fun p hp => by simp at hp), hb5, hz4⟩
 have v6 := zwg (v2.out.below hb5)
 have k1 := zwg (v3.out.below hb5)
 have v7 := zwg (HG4.out.trans (zn hb5 (some b)))
 clear hb5 v4 v2 v3 HG4 h0 q0 q1 HZ0
 go_wp2_with fail
 clear e1 e2
 generalize w4.alloc (.cells #[.string ⟨id.toArray⟩, .int .i64 (1 + (r1 : Int)), .int .i64 (1 + (r2 : Int)), .slice none 0 0] 54) = w5 at *
 generalize w4.heap.size = O at *
 refine (jf b (k + 3) 4 w5 k1.out (by omega) (by decide) (by decide)).mono ?_
 rintro e w6 ⟨r3, hr3, rfl, v8, h6⟩
 have v9 := zwg (v6.out.tape k1.out h6)
 have y2 := zwg v8
 have y3 := zwg (v7.out.trans h6)
 have y4 := zwg (v5.out.tape h6 HBB.out)
 clear v8 h6 v6 k1 v7 v5 hz4
 go_wp2_with fail
 go_loopw [4, 5] (fun lv nv W => ∃ (j : Nat) (l : List (Int × V.Bs)) (V0 : World), j ≤ 3 /\ nv = .int .i64 j /\ l.length + j ≤ 3 /\ V.Asc l /\ (∀ p ∈ l, PkOk p) /\ GRow 100 2 pE W (b + 1) lv l /\ Tape W b (k + 10 - 2 * j) /\ w.grownBy W (some b) /\ zj W /\ VInv V0 w.heap.size O (.string ⟨id.toArray⟩) (.int .i64 (1 + (r1 : Int))) (.int .i64 (1 + (r2 : Int))) (.slice none 0 0) [] W) (fun _ nv _ => (intOf nv).toNat)
 case atStart => exact ⟨r3, [], w6, by omega, rfl, by simp; omega, List.Pairwise.nil, (fun p hp => by simp at hp), GRow.nil _ _, y2.out.le (by omega), y3.out, v9.out, y4.out⟩
 case round =>
  obtain ⟨j, l, V0, hj, rfl, hjl, k2, y5, g0, ht, hg, y6, g3⟩ := hrel
  have k3 := zwg k2
  have HPK := zwg y5
  have h7 := zwg g0
  have HT := zwg ht
  have HG := zwg hg
  have HM := zwg y6
  have h8 := zwg g3
  have h9 := zwg hjl
  obtain ⟨la, lc, J6⟩ := g0.slice
  subst J6
  clear k2 y5 g0 ht hg y6 g3 hjl v9 y2 y3 y4
  by_cases hpos : 0 < j
  ·have i1 : (0 : Int) < (j : Int) := by omega
   have wr1 : IntKind.i64.wrap ((j : Int) - 1) = (j : Int) - 1 := IntWalk.i64_in _ (by omega)
   go_wp2_with fail
   refine (jf b _ 3 wr HT.out (by omega) (by decide) (by decide)).mono ?_
   rintro e wa ⟨ra, J7, rfl, y7, g8⟩
   have j0 := zwg y7
   have y8 := zwg (HM.out.tape HT.out g8)
   have y9 := zwg (HG.out.trans g8)
   have z4 := zwg (h8.out.tape g8 HBB.out)
   have z5 := zwg (h7.out.kept g8 (fun c e => by cases e; omega))
   have e1 : IntKind.i64.wrap (1 + (ra : Int)) = 1 + (ra : Int) := IntWalk.i64_in _ (by omega)
   have HSC : Hid (V.scheme (1 + (ra : Int)) = true) := zwg (by
     have h3 : ra = 0 ∨ ra = 1 ∨ ra = 2 := by omega
     rcases h3 with rfl | rfl | rfl <;> rfl)
   clear y7 g8 HT HM HG h8 h7 J7
   go_wp2_with fail
   refine (zdw wa).mono ?_
   rintro e wb ⟨rfl, k4⟩
   have hbb : Below wa.heap.size wa wb := by rw [k4]; exact (zwj _ wa).alloc (zwi _) _
   have z6 : ∀ j, j < 4 -> wb.cell? ⟨wa.heap.size, 0 + j, none⟩ = some (.string ⟨(ym.getD j []).toArray⟩) := fun j hj => by
    rw [k4, World.cell?_alloc_new, Nat.zero_add]
    exact zx8
   clear k4
   go_wp2_with fail
   refine (ut b _ wb ⟨wa.heap.size, 0, none⟩ 4 ym (j0.out.below hbb) (by omega) (by decide) (by decide) (by have := j0.out.lt; simp; omega) rfl z6).mono ?_
   rintro e wc ⟨nm, z7, rfl, k5, g9⟩
   have z8 := zwg k5
   have z9 := zwg ((y8.out.below hbb).tape (j0.out.below hbb) g9)
   have G0 := zwg ((y9.out.trans (zn hbb (some b))).trans g9)
   have G1 := zwg ((z4.out.call hbb).tape g9 HBB.out)
   have G2 := zwg ((GRow.below z5.out hbb).kept g9 (fun c e => by cases e; omega))
   have J8 := zwg z7
   have J9 : b < wc.heap.size := k5.lt
   clear k5 g9 z7 hbb z6 j0 y8 y9 z4 z5
   go_wp2_with fail
   refine (zry (.slice la l.length lc) l (1 + (ra : Int), nm) wc (GRow.gsl zfq G2.out) (by have := h9.out; omega)).mono ?_
   rintro e wd ⟨u, rfl, G3, g1⟩
   have j1 := zwg (z8.out.below g1)
   have Q0 := zwg (z9.out.below g1)
   have HGD := zwg (G0.out.trans (zn g1 (some b)))
   have Q1 := zwg (G1.out.call g1)
   have HRD := zwg (GRow.weaken G3 (show b + 1 ≤ wc.heap.size by omega))
   have Q2 := zwg (V.addP_asc (p := (1 + (ra : Int), nm)) k3.out)
   have Q3 : Hid (∀ p ∈ V.addP (1 + (ra : Int), nm) l, PkOk p) := zwg (fun p hp => by
     rcases V.addP_mem hp with h | h
     · exact HPK.out p h
     · rw [h]; exact ⟨HSC.out, J8.out⟩)
   have HLD := zwg (V.addP_len (p := (1 + (ra : Int), nm)) (l := l))
   clear G3 g1 z8 z9 G0 G1 G2 k3 HPK J9
   go_wp2
   go_roundw
   case rel => exact ⟨j - 1, _, _, by omega, by rw [show ((j - 1 : Nat) : Int) = (j : Int) - 1 by omega], by have := HLD.out; have := h9.out; omega, Q2.out, Q3.out, HRD.out, j1.out.le (by omega), HGD.out, Q0.out, Q1.out⟩
   case measure => simp [intOf]; omega
  ·have U0 : Hid (j = 0) := zwg (by omega)
   have i1 : ¬ (0 : Int) < (j : Int) := by omega
   have G4 : j = 0 := by omega
   rw [G4] at HT h9
   clear hpos hj G4
   obtain ⟨jj, G5⟩ : ∃ jj : Int, jj = (j : Int) := ⟨_, rfl⟩
   rw [← G5] at i1 ⊢
   clear G5
   have j2 : Hid (l.length ≤ 3) := zwg (by have := h9.out; omega)
   have G6 := h8.out
   go_wp2_with fail
   go_loopw [6] (fun iv W => ∃ (j : Nat) (vo : Value) (us : List Fs) (V1 : World), j ≤ l.length /\ us.length = j /\ iv = .int .i64 j /\ us.map (fun q => V.pk q.1) = l.take j /\ (∀ q ∈ us, V.xl q.1 = true) /\ GRow 100 2 pE W (b + 1) (.slice la l.length lc) l /\ Tape W b (k + 10 + 3 * j) /\ w.grownBy W (some b) /\ VInv V1 w.heap.size O (.string ⟨id.toArray⟩) (.int .i64 (1 + (r1 : Int))) (.int .i64 (1 + (r2 : Int))) vo us W) (fun iv _ => l.length - (intOf iv).toNat)
   case atStart => exact ⟨0, _, [], _, Nat.zero_le _, rfl, rfl, by simp, (fun p hp => by simp at hp), h7.out, HT.out.le (by omega), HG.out, G6⟩
   case round =>
    obtain ⟨j, vo, us, V1, hj, G7, rfl, G8, G9, g0, ht, hg, g3⟩ := hrel
    obtain ⟨vao, vco, Q4⟩ := g3.row.slice
    subst Q4
    have HUS := zwg G7
    have HMP := zwg G8
    have HSN := zwg G9
    have HJ : Hid (k ≤ 800000 /\ j ≤ 3) := zwg ⟨hk, by have := j2.out; omega⟩
    have g2 := zwg g3
    have J0 := zwg hg
    clear G6 G7 G8 G9 h7 HT HG HM h8
    by_cases hlt : j < l.length
    ·obtain ⟨g, cap', e, Q5, J1, hc⟩ := GRow.at zfq g0 j hlt
     cases e
     have y0 : wr.drew.cell? ⟨g, j * 2, none⟩ = some (.int .i64 (l[j]).1) := hc 0 _ rfl
     have y1 : wr.drew.cell? ⟨g, j * 2 + 1, none⟩ = some (.string ⟨(l[j]).2.toArray⟩) := hc 1 _ rfl
     obtain ⟨cur, fr, hgg⟩ := g0.heap
     have HPKp := zwg (HPK.out l[j] (List.getElem_mem hlt))
     have J2 : Hid ((l[j]).2.length ≤ maxLen) := zwg (by have := (zly HPKp.out.2).2; unfold maxLen; omega)
     have HTK : Hid (l.take (j + 1) = l.take j ++ [l[j]]) := zwg (List.take_succ_eq_append_getElem hlt)
     have g1 : Below wr.heap.size wr wr.drew := (zwj _ wr).drew
     have g4 := zwg (g3.call g1)
     have HGD := zwg (hg.trans (zn g1 (some b)))
     have j1 := zwg (ht.below g1)
     have HRD := zwg (GRow.below g0 g1)
     have hO3 := (za6 g4.out.inv).2.2.2
     have g5 : Hid (∀ c, (Value.slice vao us.length vco).ownBlock = some c -> c < wr.drew.heap.size /\ O ≤ c) := zwg (fun c e => ⟨GRow.lt g4.out.row.row _ e, GRow.block g4.out.row.row _ e⟩)
     have j3 := g3.base
     have hbb := HBB.out
     have HN1 : Hid ((Value.slice vao us.length vco).ownBlock ≠ some g) := zwg (g4.out.rowNe (g1.block _ J1 |>.trans hgg) (by decide))
     have HN2 : Hid (some O ≠ some g) := zwg (fun e => by cases e; have h1 := g3.inv; rw [hgg] at h1; cases h1)
     have HN3 : Hid ((Value.slice vao us.length vco).ownBlock ≠ some b) := zwg (fun e => by have := (g5.out _ e).2; omega)
     have HN4 : Hid (∀ b', (Value.slice vao us.length vco).ownBlock = some b' -> b < b') := zwg (fun c e => by have := (g5.out _ e).2; omega)
     have HN5 : Hid (some O ≠ some b) := zwg (fun e => by cases e; omega)
     have HN6 : Hid (∀ b', some O = some b' -> b < b') := zwg (fun c e => by cases e; omega)
     have HN7 : Hid (∀ c, (Value.slice vao us.length vco).ownBlock = some c -> w.heap.size ≤ c) := zwg (fun c e => by have := (g5.out _ e).2; omega)
     have HN8 : Hid (∀ c, some O = some c -> w.heap.size ≤ c) := zwg (fun c e => by cases e; omega)
     have j4 : Hid (some b ≠ some g) := zwg (fun e => by cases e; omega)
     have HVG : Hid (∀ c, (Value.slice (some ⟨g, 0, none⟩) l.length lc).ownBlock = some c -> c = g) := zwg (fun c hc => by simp [Value.ownBlock] at hc; exact hc.symm)
     have HUL : Hid (us.length ≤ 900000) := zwg (by have := HUS.out; have := j2.out; omega)
     have i1 : (0 : Int) ≤ (j : Int) := by omega
     have i2 : (j : Int) < (l.length : Int) := by omega
     have wr1 : IntKind.i64.wrap ((j : Int) + 1) = (j : Int) + 1 := IntWalk.i64_in _ (by have := j2.out; omega)
     generalize l[j] = p at *
     clear hc hgg g1 g0 ht hg g3 j3 hbb Q5 J1 g2 J0
     go_wp2_with fail
     refine wp_region_held_drew (S := (fun W' => W'.cell? ⟨g, j * 2, none⟩ = some (.int .i64 p.1) /\ W'.cell? ⟨g, j * 2 + 1, none⟩ = some (.string ⟨p.2.toArray⟩))) (by kernel_rfl) (⟨y0, y1⟩) (fun hHeld => ?_)
     generalize wr.drew = wd at *
     refine tk 0 ?_
     refine tk 2 ?_
     refine tk 3 ?_
     refine tk 4 ?_
     refine tk 5 ?_
     refine tk 6 ?_
     refine tk 7 ?_
     refine tk 8 ?_
     refine tk 9 ?_
     refine tk 10 ?_
     refine tk 11 ?_
     refine tk 12 ?_
     refine tk 13 ?_
     refine tk 14 ?_
     refine tk 15 ?_
     refine tk 16 ?_
     refine tk 17 ?_
     refine wpAnyH_ready (rs := [1, 18]) (by kernel_rfl) (by simp) ?_
     refine (AllReadyH.cons (o := _) rfl (fun K hK => ?_) (AllReadyH.cons (o := _) rfl (fun K hK => ?_) AllReadyH.nil))
     ·refine zg6 rfl (.slice vao us.length vco) (by first | (have := hO3; go_simp; done) | (have := (za6 g7.out.inv).2.2.2; go_simp; done) | (have := (za6 HA.out.inv).2.2.2; go_simp; done)) ?_
      try dsimp only
      refine hK.out _ _ ?_ (fun hHeld => nx ?_)
      ·exact hHeld
      clear hK K
      refine rd 18 fun K hK => ?_
      go_simp
      refine (zkc b (k + 10 + 3 * j) p.1 wd (q2.out _ HGD.out) j1.out (by have := HJ.out; omega) HPKp.out.1).mono ?_
      rintro e w7 ⟨u, its, rfl, hu, hok, hl1, how, ht7, hg7⟩
      obtain ⟨up, uq, rfl⟩ := hu.slice
      unfold setV
      have g7 := zwg (g4.out.tape hg7 HBB.out)
      have g6 : Below w7.heap.size w7 (w7.alloc (.cells #[.int .i64 p.1, .string ⟨p.2.toArray⟩, .int .i64 p.1, .slice up its.length uq] 70)) := (zwj _ w7).alloc (zwi _) _
      have HA := zwg (g7.out.call g6)
      have Q6 := zwg hg7.size
      have HP8 : Hid (FOk (w7.alloc (.cells #[.int .i64 p.1, .string ⟨p.2.toArray⟩, .int .i64 p.1, .slice up its.length uq] 70)) (.slice vao us.length vco) ((⟨p.1, p.2, p.1, its⟩, ⟨up, its.length, uq⟩) : Fs)) := zwg ⟨⟨J2.out, zbx (V.zg0 hok), Nat.le_trans (V.zg0 hok).len (by decide)⟩, rfl, hu.below g6, fun _ c hc e => by have := how c hc; have := (g5.out c e).1; omega⟩
      have HOW8 : Hid (∀ c, (Value.slice up its.length uq).ownBlock = some c -> O < c) := zwg (fun c hc => by have := how c hc; have := g4.out.lt; omega)
      have HNW : Hid (∀ j u, (fE ((⟨p.1, p.2, p.1, its⟩, ⟨up, its.length, uq⟩) : Fs))[j]? = some u -> (w7.alloc (.cells #[.int .i64 p.1, .string ⟨p.2.toArray⟩, .int .i64 p.1, .slice up its.length uq] 70)).cell? ⟨w7.heap.size, j, none⟩ = some u) := zwg (fun j u hj => by rw [zh, if_pos rfl]; simpa [fE, Sl.v] using hj)
      have HSO : Hid (V.okR p.1 its = true /\ 1 ≤ its.length) := zwg ⟨hok, hl1⟩
      have HT8 := zwg (ht7.below g6)
      have HG7 := zwg hg7
      try dsimp only
      refine hK.out _ _ ?_ (fun hHeld => nx ?_)
      ·(try dsimp only); exact ⟨qp hg7 j4.out hHeld.1, qp hg7 j4.out hHeld.2⟩
      clear hK K
      refine tk 19 ?_
      refine rd 20 fun K hK => ?_
      go_simp
      refine hK.out _ _ ?_ (fun hHeld => nx ?_)
      ·exact zyt
      exact zwn
     ·go_simp
      refine (zkc b (k + 10 + 3 * j) p.1 wd (q2.out _ HGD.out) j1.out (by have := HJ.out; omega) HPKp.out.1).mono ?_
      rintro e w7 ⟨u, its, rfl, hu, hok, hl1, how, ht7, hg7⟩
      obtain ⟨up, uq, rfl⟩ := hu.slice
      unfold setV
      have g7 := zwg (g4.out.tape hg7 HBB.out)
      have g6 : Below w7.heap.size w7 (w7.alloc (.cells #[.int .i64 p.1, .string ⟨p.2.toArray⟩, .int .i64 p.1, .slice up its.length uq] 70)) := (zwj _ w7).alloc (zwi _) _
      have HA := zwg (g7.out.call g6)
      have Q6 := zwg hg7.size
      have HP8 : Hid (FOk (w7.alloc (.cells #[.int .i64 p.1, .string ⟨p.2.toArray⟩, .int .i64 p.1, .slice up its.length uq] 70)) (.slice vao us.length vco) ((⟨p.1, p.2, p.1, its⟩, ⟨up, its.length, uq⟩) : Fs)) := zwg ⟨⟨J2.out, zbx (V.zg0 hok), Nat.le_trans (V.zg0 hok).len (by decide)⟩, rfl, hu.below g6, fun _ c hc e => by have := how c hc; have := (g5.out c e).1; omega⟩
      have HOW8 : Hid (∀ c, (Value.slice up its.length uq).ownBlock = some c -> O < c) := zwg (fun c hc => by have := how c hc; have := g4.out.lt; omega)
      have HNW : Hid (∀ j u, (fE ((⟨p.1, p.2, p.1, its⟩, ⟨up, its.length, uq⟩) : Fs))[j]? = some u -> (w7.alloc (.cells #[.int .i64 p.1, .string ⟨p.2.toArray⟩, .int .i64 p.1, .slice up its.length uq] 70)).cell? ⟨w7.heap.size, j, none⟩ = some u) := zwg (fun j u hj => by rw [zh, if_pos rfl]; simpa [fE, Sl.v] using hj)
      have HSO : Hid (V.okR p.1 its = true /\ 1 ≤ its.length) := zwg ⟨hok, hl1⟩
      have HT8 := zwg (ht7.below g6)
      have HG7 := zwg hg7
      try dsimp only
      refine hK.out _ _ ?_ (fun hHeld => nx ?_)
      ·(try dsimp only); exact ⟨qp hg7 j4.out hHeld.1, qp hg7 j4.out hHeld.2⟩
      clear hK K
      refine tk 19 ?_
      refine wpAnyH_ready (rs := [1, 20]) (by kernel_rfl) (by simp) ?_
      refine (AllReadyH.cons (o := _) rfl (fun K hK => ?_) (AllReadyH.cons (o := _) rfl (fun K hK => ?_) AllReadyH.nil))
      ·refine zg6 rfl (.slice vao us.length vco) (by first | (have := hO3; go_simp; done) | (have := (za6 g7.out.inv).2.2.2; go_simp; done) | (have := (za6 HA.out.inv).2.2.2; go_simp; done)) ?_
       try dsimp only
       refine hK.out _ _ ?_ (fun hHeld => nx ?_)
       ·exact hHeld
       clear hK K
       refine rd 20 fun K hK => ?_
       go_simp
       refine hK.out _ _ ?_ (fun hHeld => nx ?_)
       ·exact zyt
       exact zwn
      ·go_simp
       refine hK.out _ _ ?_ (fun hHeld => nx ?_)
       ·exact zyt
       clear hK K
       refine rd 1 fun K hK => ?_
       refine zg6 rfl (.slice vao us.length vco) (by first | (have := hO3; go_simp; done) | (have := (za6 g7.out.inv).2.2.2; go_simp; done) | (have := (za6 HA.out.inv).2.2.2; go_simp; done)) ?_
       try dsimp only
       refine hK.out _ _ ?_ (fun hHeld => nx ?_)
       ·exact hHeld
       exact zwn
    ·obtain rfl : j = l.length := by omega
     have Q7 := za6 g2.out.inv
     obtain ⟨z0, z1, z2, z3⟩ := Q7
     have Q8 := zwg ht
     rw [List.take_length] at HMP
     clear g0 ht hg g3 hlt
     go_wp2_with (first | (refine wl_put4 rfl zp6 _ _ rfl w.heap.size #[.string ⟨#[]⟩, .int .i64 0, .int .i64 0, .slice none 0 0] 54 g2.out.zero rfl (.string ⟨id.toArray⟩) (.int .i64 (1 + (r1 : Int))) (.int .i64 (1 + (r2 : Int))) (.slice vao us.length vco) ⟨rfl, rfl, rfl, rfl⟩ rfl rfl ?_) | fail)
     refine bodyPost_ret (v := .agg #[.string ⟨id.toArray⟩, .int .i64 (1 + (r1 : Int)), .int .i64 (1 + (r2 : Int)), .slice vao us.length vco]) (qr Tryz.results33 rfl (load4 Tryz.underlying54 zp6 (setRow_heap _ _ _ _ _ _ g2.out.zero))) rfl ?_
     have j3 := g2.out.base
     have hbb := HBB.out
     have k6 := qc wr w.heap.size #[.string ⟨id.toArray⟩, .int .i64 (1 + (r1 : Int)), .int .i64 (1 + (r2 : Int)), .slice vao us.length vco]
     have Q9 := HUS.out
     have U1 := j2.out
     refine ⟨⟨id, 1 + r1, 1 + r2, us.map (·.1)⟩, .slice vao us.length vco, us, rfl, ⟨q5.out.1, q5.out.2, by show (1 : Int) ≤ 1 + (r1 : Int); omega, by show 1 + (r1 : Int) ≤ 3; have := k0.out.1; omega, by show (1 : Int) ≤ 1 + (r2 : Int); omega, by show 1 + (r2 : Int) ≤ 10; have := k0.out.2; omega, by rw [List.length_map]; omega, fun a ha => ?_, ?_⟩, rfl, ?_, fun p hp c hc => (by have := g2.out.own p hp c hc; omega), ?_, zdh J0.out k6 (zwi _)⟩
     ·obtain ⟨q, hq, rfl⟩ := List.mem_map.1 ha
      exact HSN.out q hq
     ·show V.Asc ((us.map (·.1)).map V.pk)
      rw [List.map_map]
      have h := HMP.out
      rw [show (V.pk ∘ fun x : Fs => x.1) = fun q => V.pk q.1 from rfl, h]
      exact k3.out
     ·intro W hW
      have J3 := g2.out.row.kept k6 (g2.out.rowNe g2.out.zero (by decide)) (fun p hp c hc => by have := g2.out.own p hp c hc; omega)
      exact (J3.kept hW (fun e => by have := GRow.block J3.row _ e; omega) (fun p hp c hc => by have := g2.out.own p hp c hc; omega)).weaken (by omega)
     ·exact (Q8.out.grown k6 (by intro e; cases e; omega) (by intro c e; cases e; omega)).le (by omega)
end Go.Proofs.YtbikeahmldobkaaGreatDoor
