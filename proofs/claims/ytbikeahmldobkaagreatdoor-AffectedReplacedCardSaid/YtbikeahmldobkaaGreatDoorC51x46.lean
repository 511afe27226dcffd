/-
  Lemmas for the law.
-/
import Derived.Test.YtbikeahmldobkaaGreatDoorC51x23
import Derived.Test.YtbikeahmldobkaaGreatDoorC51x40
import Derived.Test.YtbikeahmldobkaaGreatDoorC51x45
import Derived.Test.YtbikeahmldobkaaGreatDoorC51x25
import Derived.Test.YtbikeahmldobkaaGreatDoorC51x42
import Derived.Test.YtbikeahmldobkaaGreatDoorC51x21
import Derived.Test.YtbikeahmldobkaaGreatDoorC51x44
set_option linter.all false
set_option maxRecDepth 100000
set_option maxHeartbeats 6400000
namespace Go.Proofs.YtbikeahmldobkaaGreatDoor
open Go.RowKit
theorem zbc {α : Type} {enc : α -> List Value} {k : Nat} {T : TypeId} {ops : Array Oper} {o : Oper} {a : Act} {w : World} {K : Act -> World -> Prop} {Q : Exit -> Act -> World -> Prop} {E : Prop} (hk : ∀ x, (enc x).length = k) (g1 : 0 < k) (g2 : ∀ x, ∀ u ∈ enc x, u.oneCell' = true) {bytes : Nat} (hi : jh T k bytes) (g3 : bytes ≤ 1000) (g4 : o.guard = none) (s x : Operand) (S : TypeId)
  (ho : o.op = .call { callee := .builtin .append, args := #[s, x], argTypes := #[S, S] }) (hu : Tryz.prog.underlying S = some (.slice T))
  (N : Nat) (v : Value) (l : List α) (hs : a.eval s = v) (g0 : GRow T k enc w N v l) (b : Nat) (c : α) (hx : a.eval x = .slice (some ⟨b, 0, none⟩) 1 1) (hr : ∀ j u, (enc c)[j]? = some u -> w.cell? ⟨b, j, none⟩ = some u) (hl : l.length ≤ 900000) (hN : N ≤ w.heap.size)
  (h : ∀ v' w', GRow T k enc w' N v' (l ++ [c]) -> w.grownBy w' v.ownBlock -> (v'.ownBlock = v.ownBlock ∨ v'.ownBlock = some w.heap.size) -> K (a.put o.dst v') w') : if Region.wanted o (yielded ops a.tmps) = true then Oper.wp Tryz.prog o a w K Q else E := by
 rw [if_pos (by simp [Region.wanted, g4])]
 obtain ⟨ie, z, g5, hz, h1, h2, h3⟩ := hi
 obtain ⟨v', w', g6, g7, hg, _, g8⟩ := run_append_own_at (P := Tryz.prog) w N S o.type T ie z k bytes hu g5 hz h1 h2 h3 g1 v l.length (l.flatMap enc) g0 ⟨b, 0, none⟩ 1 1 (enc c) (by rw [hk]; omega) (fun j u hj => by
   rw [Addr.add_mid, Nat.zero_add]
   exact hr j u hj) (g2 c) (by unfold maxLen; omega) (by
     have : (l.length + 1) * bytes ≤ 1000001 * 1000 := Nat.mul_le_mul (by omega) g3
     omega) hN
 unfold Oper.wp execOp
 simp only [ho, resolve, invoke, builtin, Sem.run_bind, Sem.run_pure, Result.andThen_ok, List.map_toArray, List.map_cons, List.map_nil, hs, hx, g6]
 refine h v' w' ?_ hg g8
 unfold GRow
 rw [List.length_append, List.flatMap_append]
 simpa using g7
open Go.RowKit
theorem zdt {ops : Array Oper} {o : Oper} {a : Act} {w : World} {K : Act -> World -> Prop} {Q : Exit -> Act -> World -> Prop} {E : Prop} (g0 : o.guard = none) (v : Value) (he : (execOp a.eval o).run Tryz.prog w = .ok (.value v) w)
  (h : K (a.put o.dst v) w) : if Region.wanted o (yielded ops a.tmps) = true then Oper.wp Tryz.prog o a w K Q else E := by
 rw [if_pos (by simp [Region.wanted, g0])]
 unfold Oper.wp
 rw [he]
 exact h
theorem zdw {ops : Array Oper} {o : Oper} {a : Act} {w : World} {K : Act -> World -> Prop} {Q : Exit -> Act -> World -> Prop} {E : Prop} (g0 : o.guard = none) (ty : TypeId) (x y : Operand) (ho : o.op = .store ty x y)
  (b off : Nat) (hx : a.eval x = .pointer (some ⟨b, off, none⟩)) (v : Value) (hy : a.eval y = v) (u : Value) (hc : w.cell? ⟨b, off, none⟩ = some u) (hf : w.frozen? ⟨b, off, none⟩ = false) (hi : (Tryz.prog.info? ty).map (·.size) = some 1) (h1 : v.oneCell' = true)
  (h : K (a.put o.dst undef) (w.setCell ⟨b, off, none⟩ v)) : if Region.wanted o (yielded ops a.tmps) = true then Oper.wp Tryz.prog o a w K Q else E := by
 rw [if_pos (by simp [Region.wanted, g0])]
 unfold Oper.wp execOp
 simp only [ho, hx, hy, Instr.storeAt, Instr.sureAddr, Sem.run_bind, Sem.run_pure, Result.andThen_ok, zsi hc hf hi h1]
 exact h
theorem qo {W W' : World} {row : Option Nat} {b o : Nat} {u : Value} (hg : W.grownBy W' row) (hb : row ≠ some b) (h : W.cell? ⟨b, o, none⟩ = some u) : W'.cell? ⟨b, o, none⟩ = some u := hg.cell h (fun e => hb e.symm)
theorem VInv.fin {V0 : World} {N0 O : Nat} {i r s v : Value} {us : List Fs} {W w8 : World} {p : Fs} {v8 : Value} (h : VInv V0 N0 O i r s v us W) (hr8 : GRow 70 4 fE w8 O v8 (us ++ [p])) (hg8 : W.grownBy w8 v.ownBlock) (ho8 : v8.ownBlock = v.ownBlock ∨ v8.ownBlock = some W.heap.size) (hp : FOk W v p) (how : ∀ c, p.2.v.ownBlock = some c -> O < c) :
  ∃ va vc, v8 = .slice va (us.length + 1) vc /\ w8.cell? ⟨O, 3, none⟩ = some v /\ w8.frozen? ⟨O, 3, none⟩ = false /\ VInv V0 N0 O i r s v8 (us ++ [p]) (w8.setCell ⟨O, 3, none⟩ v8) := by
 have g0 := h.invKept hg8
 have g1 := h.row.add hr8 hg8 ho8 hp
 obtain ⟨va, vc, e⟩ := g1.slice
 exact ⟨va, vc, by rw [e]; simp, (wj g0).2.2.2, qw g0, h.append g1 hg8 how⟩
open Go.RowKit
theorem VInv.tape {V0 W W' : World} {N0 O b : Nat} {i r s : Value} {v : Value} {us : List Fs} (h : VInv V0 N0 O i r s v us W) (hg : W.grownBy W' (some b)) (hb : b < N0) : VInv W' N0 O i r s v us W' := by
 have g0 := h.base
 exact ⟨h.row.kept hg (fun e => by have := GRow.block h.row.row _ e; omega) (fun p hp c hc => by have := h.own p hp c hc; omega), (hg.block O h.lt (by intro e; cases e; omega)).trans h.inv, (hg.block N0 (Array.getElem?_eq_some_iff.1 h.zero).1 (by intro e; cases e; omega)).trans h.zero, h.own, zvb _ _, g0⟩
section
variable {α : Type} {enc : α -> List Value} {k : Nat} {T : TypeId}
theorem GRow.kept2 {w w' : World} {N g : Nat} {v : Value} {l : List α} {row : Option Nat} (h : GRow T k enc w N v l) (hv : ∀ c, v.ownBlock = some c -> c = g) (hg : w.grownBy w' row) (hr : row ≠ some g) : GRow T k enc w' N v l := by
 refine ⟨h.1, ?_⟩
 rcases h.2 with h | ⟨g', cap, cur, rfl, hb, hgg, rest⟩
 ·exact .inl h
 ·refine .inr ⟨g', cap, cur, rfl, hb, ?_, rest⟩
  have : g' = g := hv _ rfl
  subst this
  rw [hg.block g' (Array.getElem?_eq_some_iff.1 hgg).1 (fun e => hr e.symm)]
  exact hgg
end
theorem GRow.heap {α : Type} {enc : α -> List Value} {k : Nat} {T : TypeId} {w : World} {N g n c : Nat} {l : List α} (h : GRow T k enc w N (.slice (some ⟨g, 0, none⟩) n c) l) : ∃ cur fr, w.heap[g]? = some (.cells cur T fr) := by
 rcases h.2 with ⟨h, _⟩ | ⟨g', cap, cur, e, hb, hgg, _⟩
 ·cases h
 ·cases e
  exact ⟨_, _, hgg⟩
theorem ko {w w6 W7 : World} {b : Nat} {row : Option Nat} (h : w.grownBy w6 (some b)) (k : w6.grownBy W7 row) (hr : ∀ c, row = some c -> w.heap.size ≤ c) : w.grownBy W7 (some b) :=
 ⟨k.os.trans h.os, k.tape.trans h.tape, k.output.trans h.output, Nat.le_trans h.size k.size, fun i hi hq => (k.block i (Nat.lt_of_lt_of_le hi h.size) (fun e => by have := hr i e.symm; omega)).trans (h.block i hi hq)⟩
def zb4 : List V.Bs := [[122, 108, 105, 98], [115, 115, 108], [108, 105, 98, 115, 47, 112, 110, 103], [97]]
def PkOk (p : Int × V.Bs) : Prop := V.scheme p.1 = true /\ p.2 ∈ zb4
theorem zk8 {s : V.Bs} (h : s ∈ zb4) : V.jo s = true /\ s.length ≤ 8 := by
 simp only [zb4, List.mem_cons, List.not_mem_nil, or_false] at h
 rcases h with e | e | e | e <;> (rw [e]; decide)
theorem PkOk.sound {p : Int × V.Bs} (h : PkOk p) {its : List V.Itv} (ho : V.okR p.1 its = true) (hl : 1 ≤ its.length) : V.yb ⟨p.1, p.2, p.1, its⟩ = true := by
 unfold V.yb V.rngOk
 simp only [(zk8 h.2).1, ho, Bool.true_and, Bool.and_true, decide_true, decide_eq_true_eq]
 exact hl
def AdvPostG (b k : Nat) (w : World) (e : Ending) (w' : World) : Prop :=
 ∃ x u, ∃ us : List Fs, e = .returned (advV x u) /\ V.MadeV x /\ x.aff = us.map (·.1) /\ (∀ W, w'.grownBy W (some b) -> FRow w.heap.size W u us) /\ (∀ p ∈ us, ∀ c, p.2.v.ownBlock = some c -> w.heap.size ≤ c) /\ Tape w' b (k + 30) /\ w.grownBy w' (some b)
theorem zvf {P : Prop} (h : P := by
 clear hK K
 refine rd 21 fun K hK => ?_
 refine zbc zde (by decide) zqz affGI (by decide) rfl _ _ 52 rfl Tryz.underlying52 O (.slice vao us.length vco) us rfl HA.out.row.row w7.heap.size ((⟨p.1, p.2, p.1, its⟩, ⟨up, its.length, uq⟩) : Fs) rfl HNW.out (by have := HUL.out; omega) (Nat.le_of_lt HA.out.lt) ?_
 intro v8 w8 hr8 hg8 ho8
 obtain ⟨va8, vc8, rfl, hc8, hf8, hM9⟩ := HA.out.fin hr8 hg8 ho8 HP8.out HOW8.out
 try dsimp only
 refine hK.out _ _ ?_ (fun hHeld => nx ?_)
 ·(try dsimp only); exact ⟨qo hg8 HN1.out hHeld.1, qo hg8 HN1.out hHeld.2⟩
 clear hK K
 refine tk 22 ?_
 refine rd 23 fun K hK => ?_
 refine zdw rfl 52 _ _ rfl O 3 rfl (.slice va8 (us.length + 1) vc8) rfl _ hc8 hf8 zgg rfl ?_
 have hgs := qv w8 O 3 (.slice va8 (us.length + 1) vc8)
 generalize w8.setCell ⟨O, 3, none⟩ (.slice va8 (us.length + 1) vc8) = w9 at *
 try dsimp only
 refine hK.out _ _ ?_ (fun hHeld => nx ?_)
 ·(try dsimp only); exact ⟨qo hgs HN2.out hHeld.1, qo hgs HN2.out hHeld.2⟩
 clear hK K
 refine wpAnyH_done (by kernel_rfl) ?_ _
 have HT9 := zu8 ((HT8.out.grown hg8 HN3.out HN4.out).grown hgs HN5.out HN6.out)
 have HR9 := zu8 (((GRow.below (HRD.out.kept HG7.out (fun c e => by cases e; omega)) ((zvb _ _).alloc (zva _) _)).kept2 HVG.out hg8 HN1.out).kept2 HVG.out hgs HN2.out)
 have HG9 := zu8 (ko (ko ((HGD.out.trans HG7.out).trans (zm ((zvb _ _).alloc (zva _) _) (some b))) hg8 HN7.out) hgs HN8.out)
 clear hHeld hO3 hgs hg8 hr8 ho8 hg7 ht7 hu how hok hl1
 go_wp2
 go_roundw
 case rel => exact ⟨j + 1, _, us ++ [((⟨p.1, p.2, p.1, its⟩, ⟨up, its.length, uq⟩) : Fs)], _, by omega, by rw [List.length_append, HUS.out]; rfl, by go_num, by rw [List.map_append, HMP.out, HTK.out]; rfl, fun q hq => by rcases List.mem_append.1 hq with h | h; exact HSN.out q h; (rw [List.mem_singleton.1 h]; exact HPKp.out.sound HSO.out.1 HSO.out.2), HR9.out, HT9.out.le (by omega), HG9.out, hM9⟩
 case measure => simp [intOf]; omega) : P := h
theorem zw7 {P : Prop} (h : P := by
 (try dsimp only); exact ⟨zf ((zvb _ _).alloc (zva _) _) hHeld.1, zf ((zvb _ _).alloc (zva _) _) hHeld.2⟩) : P := h
theorem ze4 (b k : Nat) (w : World) (hm : zj w) (h : Tape w b k) (hk : k ≤ 800000) :
  Calls Tryz.prog 33 #[.pointer (some ⟨b, 0, none⟩)] w (AdvPostG b k w) := by
 obtain ⟨h4, k8, k9⟩ := adv_zero w
 have q0 := zu8 (hm.below h4)
 have h5 := zu8 (h.below h4)
 have q1 := zu8 k8
 have HZ0 := zu8 k9
 have q2 := zu8 (zm h4 (some b))
 have g4 := zu8 h.lt
 have q3 : Hid (∀ W, w.grownBy W (some b) -> zj W) := zu8 (fun W hg => hm.tape h hg)
 clear h4 k8 k9 hm h
 go_enter Tryz.func33, Tryz.ntmps33
 go_wp2_with fail
 generalize w.alloc (.cells #[.string ⟨#[]⟩, .int .i64 0, .int .i64 0, .slice none 0 0] 54) = w0 at *
 refine (zrq w0).mono ?_
 rintro e w1 ⟨rfl, j6⟩
 have hb1 : Below w0.heap.size w0 w1 := by rw [j6]; exact (zvb _ w0).alloc (zva _) _
 have hc1 : ∀ j, j < 3 -> w1.cell? ⟨w0.heap.size, 0 + j, none⟩ = some (.string ⟨(V.zh4.getD j []).toArray⟩) := fun j hj => by
  rw [j6, World.cell?_alloc_new, Nat.zero_add]
  have h3 : j = 0 ∨ j = 1 ∨ j = 2 := by omega
  rcases h3 with rfl | rfl | rfl <;> rfl
 clear j6
 go_wp2_with fail
 refine (zao b k w1 ⟨w0.heap.size, 0, none⟩ 3 V.zh4 (h5.out.below hb1) (by omega) (by decide) (by decide) (by have := h5.out.lt; have := g4.out; have := HZ0.out; simp; omega) rfl hc1).mono ?_
 rintro e w2 ⟨id, q4, rfl, q5, h6⟩
 have q6 := zu8 (V.madeId q4)
 have q7 := zu8 ((q0.out.below hb1).tape (h5.out.below hb1) h6)
 have j7 := zu8 q5
 have q8 := zu8 ((q2.out.trans (zm hb1 (some b))).trans h6)
 have j8 := zu8 ((zm hb1 (some b)).trans h6)
 clear hb1 hc1 q4 q5 h6 q0 h5
 go_wp2_with fail
 refine (jq b (k + 1) 3 w2 j7.out (by omega) (by decide) (by decide)).mono ?_
 rintro e w3 ⟨r1, J7, rfl, q9, hg3⟩
 have v0 := zu8 (q7.out.tape j7.out hg3)
 have j9 := zu8 q9
 have v1 := zu8 (q8.out.trans hg3)
 have k0 := zu8 (j8.out.trans hg3)
 have e1 : IntKind.i64.wrap (1 + (r1 : Int)) = 1 + (r1 : Int) := IntWalk.i64_in _ (by omega)
 clear q9 hg3 q7 j7 q8 j8
 go_wp2_with fail
 refine (jq b (k + 2) 10 w3 j9.out (by omega) (by decide) (by decide)).mono ?_
 rintro e w4 ⟨r2, J8, rfl, v2, hg4⟩
 have v3 := zu8 (v0.out.tape j9.out hg4)
 have v4 := zu8 v2
 have v5 := zu8 (v1.out.trans hg4)
 have h2 := zu8 (k0.out.trans hg4)
 have e2 : IntKind.i64.wrap (1 + (r2 : Int)) = 1 + (r2 : Int) := IntWalk.i64_in _ (by omega)
 clear v2 hg4 v0 j9 v1 k0
 have k1 : Hid ((r1 : Int) < 3 /\ (r2 : Int) < 10) := zu8 ⟨J7, J8⟩
 have v6 : w4.heap[w.heap.size]? = some (.cells #[.string ⟨#[]⟩, .int .i64 0, .int .i64 0, .slice none 0 0] 54 (0, 0)) := (h2.out.block _ (by have := HZ0.out; omega) (by intro e; cases e; have := g4.out; omega)).trans q1.out
 have hz4 : w.heap.size + 1 ≤ w4.heap.size := by have := h2.out.size; have := HZ0.out; omega
 have hb5 : Below w4.heap.size w4 (w4.alloc (.cells #[.string ⟨id.toArray⟩, .int .i64 (1 + (r1 : Int)), .int .i64 (1 + (r2 : Int)), .slice none 0 0] 54)) := (zvb _ w4).alloc (zva _) _
 have v7 : Hid (VInv w4 w.heap.size w4.heap.size (.string ⟨id.toArray⟩) (.int .i64 (1 + (r1 : Int))) (.int .i64 (1 + (r2 : Int))) (.slice none 0 0) [] (w4.alloc (.cells #[.string ⟨id.toArray⟩, .int .i64 (1 + (r1 : Int)), .int .i64 (1 + (r2 : Int)), .slice none 0 0] 54))) := zu8 ⟨FRow.nil _ _, heap_alloc_new w4 _, (hb5.block _ (by omega)).trans v6, (fun p hp => by simp at hp), hb5, hz4⟩
 have v8 := zu8 (v3.out.below hb5)
 have k2 := zu8 (v4.out.below hb5)
 have v9 := zu8 (v5.out.trans (zm hb5 (some b)))
 clear hb5 v6 v3 v4 v5 h2 q1 q2 HZ0
 go_wp2_with fail
 clear e1 e2
 generalize w4.alloc (.cells #[.string ⟨id.toArray⟩, .int .i64 (1 + (r1 : Int)), .int .i64 (1 + (r2 : Int)), .slice none 0 0] 54) = w5 at *
 generalize w4.heap.size = O at *
 refine (jq b (k + 3) 4 w5 k2.out (by omega) (by decide) (by decide)).mono ?_
 rintro e w6 ⟨r3, hr3, rfl, y2, h7⟩
 have y3 := zu8 (v8.out.tape k2.out h7)
 have y4 := zu8 y2
 have y5 := zu8 (v9.out.trans h7)
 have y6 := zu8 (v7.out.tape h7 g4.out)
 clear y2 h7 v8 k2 v9 v7 hz4
 go_wp2_with fail
 go_loopw [4, 5] (fun lv nv W => ∃ (j : Nat) (l : List (Int × V.Bs)) (V0 : World), j ≤ 3 /\ nv = .int .i64 j /\ l.length + j ≤ 3 /\ V.Asc l /\ (∀ p ∈ l, PkOk p) /\ GRow 100 2 pE W (b + 1) lv l /\ Tape W b (k + 10 - 2 * j) /\ w.grownBy W (some b) /\ zj W /\ VInv V0 w.heap.size O (.string ⟨id.toArray⟩) (.int .i64 (1 + (r1 : Int))) (.int .i64 (1 + (r2 : Int))) (.slice none 0 0) [] W) (fun _ nv _ => (intOf nv).toNat)
 case atStart => exact ⟨r3, [], w6, by omega, rfl, by simp; omega, List.Pairwise.nil, (fun p hp => by simp at hp), GRow.nil _ _, y4.out.le (by omega), y5.out, y3.out, y6.out⟩
 case round =>
  obtain ⟨j, l, V0, hj, rfl, y7, k3, y8, g0, ht, hg, y9, g3⟩ := hrel
  have HAS := zu8 k3
  have k4 := zu8 y8
  have h8 := zu8 g0
  have HT := zu8 ht
  have HG := zu8 hg
  have HM := zu8 y9
  have h9 := zu8 g3
  have j0 := zu8 y7
  obtain ⟨la, lc, J9⟩ := g0.slice
  subst J9
  clear k3 y8 g0 ht hg y9 g3 y7 y3 y4 y5 y6
  by_cases hpos : 0 < j
  ·have i1 : (0 : Int) < (j : Int) := by omega
   have wr1 : IntKind.i64.wrap ((j : Int) - 1) = (j : Int) - 1 := IntWalk.i64_in _ (by omega)
   go_wp2_with fail
   refine (jq b _ 3 wr HT.out (by omega) (by decide) (by decide)).mono ?_
   rintro e wa ⟨ra, Q0, rfl, z4, g9⟩
   have j1 := zu8 z4
   have z5 := zu8 (HM.out.tape HT.out g9)
   have z6 := zu8 (HG.out.trans g9)
   have z7 := zu8 (h9.out.tape g9 g4.out)
   have z8 := zu8 (h8.out.kept g9 (fun c e => by cases e; omega))
   have e1 : IntKind.i64.wrap (1 + (ra : Int)) = 1 + (ra : Int) := IntWalk.i64_in _ (by omega)
   have HSC : Hid (V.scheme (1 + (ra : Int)) = true) := zu8 (by
     have h3 : ra = 0 ∨ ra = 1 ∨ ra = 2 := by omega
     rcases h3 with rfl | rfl | rfl <;> rfl)
   clear z4 g9 HT HM HG h9 h8 Q0
   go_wp2_with fail
   refine (zok wa).mono ?_
   rintro e wb ⟨rfl, k5⟩
   have hbb : Below wa.heap.size wa wb := by rw [k5]; exact (zvb _ wa).alloc (zva _) _
   have z9 : ∀ j, j < 4 -> wb.cell? ⟨wa.heap.size, 0 + j, none⟩ = some (.string ⟨(zb4.getD j []).toArray⟩) := fun j hj => by
    rw [k5, World.cell?_alloc_new, Nat.zero_add]
    exact zy0
   clear k5
   go_wp2_with fail
   refine (zao b _ wb ⟨wa.heap.size, 0, none⟩ 4 zb4 (j1.out.below hbb) (by omega) (by decide) (by decide) (by have := j1.out.lt; simp; omega) rfl z9).mono ?_
   rintro e wc ⟨nm, G0, rfl, k6, h0⟩
   have G1 := zu8 k6
   have G2 := zu8 ((z5.out.below hbb).tape (j1.out.below hbb) h0)
   have G3 := zu8 ((z6.out.trans (zm hbb (some b))).trans h0)
   have G4 := zu8 ((z7.out.call hbb).tape h0 g4.out)
   have G5 := zu8 ((GRow.below z8.out hbb).kept h0 (fun c e => by cases e; omega))
   have Q1 := zu8 G0
   have Q2 : b < wc.heap.size := k6.lt
   clear k6 h0 G0 hbb z9 j1 z5 z6 z7 z8
   go_wp2_with fail
   refine (zqw (.slice la l.length lc) l (1 + (ra : Int), nm) wc (GRow.gsl ze0 G5.out) (by have := j0.out; omega)).mono ?_
   rintro e wd ⟨u, rfl, G6, g1⟩
   have j2 := zu8 (G1.out.below g1)
   have Q3 := zu8 (G2.out.below g1)
   have HGD := zu8 (G3.out.trans (zm g1 (some b)))
   have Q4 := zu8 (G4.out.call g1)
   have HRD := zu8 (GRow.weaken G6 (show b + 1 ≤ wc.heap.size by omega))
   have Q5 := zu8 (V.addP_asc (p := (1 + (ra : Int), nm)) HAS.out)
   have Q6 : Hid (∀ p ∈ V.addP (1 + (ra : Int), nm) l, PkOk p) := zu8 (fun p hp => by
     rcases V.addP_mem hp with h | h
     · exact k4.out p h
     · rw [h]; exact ⟨HSC.out, Q1.out⟩)
   have HLD := zu8 (V.addP_len (p := (1 + (ra : Int), nm)) (l := l))
   clear G6 g1 G1 G2 G3 G4 G5 HAS k4 Q2
   go_wp2
   go_roundw
   case rel => exact ⟨j - 1, _, _, by omega, by rw [show ((j - 1 : Nat) : Int) = (j : Int) - 1 by omega], by have := HLD.out; have := j0.out; omega, Q5.out, Q6.out, HRD.out, j2.out.le (by omega), HGD.out, Q3.out, Q4.out⟩
   case measure => simp [intOf]; omega
  ·have U3 : Hid (j = 0) := zu8 (by omega)
   have i1 : ¬ (0 : Int) < (j : Int) := by omega
   have G7 : j = 0 := by omega
   rw [G7] at HT j0
   clear hpos hj G7
   obtain ⟨jj, G8⟩ : ∃ jj : Int, jj = (j : Int) := ⟨_, rfl⟩
   rw [← G8] at i1 ⊢
   clear G8
   have j3 : Hid (l.length ≤ 3) := zu8 (by have := j0.out; omega)
   have G9 := h9.out
   go_wp2_with fail
   go_loopw [6] (fun iv W => ∃ (j : Nat) (vo : Value) (us : List Fs) (V1 : World), j ≤ l.length /\ us.length = j /\ iv = .int .i64 j /\ us.map (fun q => V.pk q.1) = l.take j /\ (∀ q ∈ us, V.yb q.1 = true) /\ GRow 100 2 pE W (b + 1) (.slice la l.length lc) l /\ Tape W b (k + 10 + 3 * j) /\ w.grownBy W (some b) /\ VInv V1 w.heap.size O (.string ⟨id.toArray⟩) (.int .i64 (1 + (r1 : Int))) (.int .i64 (1 + (r2 : Int))) vo us W) (fun iv _ => l.length - (intOf iv).toNat)
   case atStart => exact ⟨0, _, [], _, Nat.zero_le _, rfl, rfl, by simp, (fun p hp => by simp at hp), h8.out, HT.out.le (by omega), HG.out, G9⟩
   case round =>
    obtain ⟨j, vo, us, V1, hj, J0, rfl, J1, J2, g0, ht, hg, g3⟩ := hrel
    obtain ⟨vao, vco, Q7⟩ := g3.row.slice
    subst Q7
    have HUS := zu8 J0
    have HMP := zu8 J1
    have HSN := zu8 J2
    have HJ : Hid (k ≤ 800000 /\ j ≤ 3) := zu8 ⟨hk, by have := j3.out; omega⟩
    have g2 := zu8 g3
    have J3 := zu8 hg
    clear G9 J0 J1 J2 h8 HT HG HM h9
    by_cases hlt : j < l.length
    ·obtain ⟨g, cap', e, Q8, J4, hc⟩ := GRow.at ze0 g0 j hlt
     cases e
     have y0 : wr.drew.cell? ⟨g, j * 2, none⟩ = some (.int .i64 (l[j]).1) := hc 0 _ rfl
     have y1 : wr.drew.cell? ⟨g, j * 2 + 1, none⟩ = some (.string ⟨(l[j]).2.toArray⟩) := hc 1 _ rfl
     obtain ⟨cur, fr, hgg⟩ := g0.heap
     have HPKp := zu8 (k4.out l[j] (List.getElem_mem hlt))
     have J5 : Hid ((l[j]).2.length ≤ maxLen) := zu8 (by have := (zk8 HPKp.out.2).2; unfold maxLen; omega)
     have HTK : Hid (l.take (j + 1) = l.take j ++ [l[j]]) := zu8 (List.take_succ_eq_append_getElem hlt)
     have g1 : Below wr.heap.size wr wr.drew := (zvb _ wr).drew
     have g5 := zu8 (g3.call g1)
     have HGD := zu8 (hg.trans (zm g1 (some b)))
     have j2 := zu8 (ht.below g1)
     have HRD := zu8 (GRow.below g0 g1)
     have hO3 := (wj g5.out.inv).2.2.2
     have g6 : Hid (∀ c, (Value.slice vao us.length vco).ownBlock = some c -> c < wr.drew.heap.size /\ O ≤ c) := zu8 (fun c e => ⟨GRow.lt g5.out.row.row _ e, GRow.block g5.out.row.row _ e⟩)
     have j4 := g3.base
     have hbb := g4.out
     have HN1 : Hid ((Value.slice vao us.length vco).ownBlock ≠ some g) := zu8 (g5.out.rowNe (g1.block _ J4 |>.trans hgg) (by decide))
     have HN2 : Hid (some O ≠ some g) := zu8 (fun e => by cases e; have h1 := g3.inv; rw [hgg] at h1; cases h1)
     have HN3 : Hid ((Value.slice vao us.length vco).ownBlock ≠ some b) := zu8 (fun e => by have := (g6.out _ e).2; omega)
     have HN4 : Hid (∀ b', (Value.slice vao us.length vco).ownBlock = some b' -> b < b') := zu8 (fun c e => by have := (g6.out _ e).2; omega)
     have HN5 : Hid (some O ≠ some b) := zu8 (fun e => by cases e; omega)
     have HN6 : Hid (∀ b', some O = some b' -> b < b') := zu8 (fun c e => by cases e; omega)
     have HN7 : Hid (∀ c, (Value.slice vao us.length vco).ownBlock = some c -> w.heap.size ≤ c) := zu8 (fun c e => by have := (g6.out _ e).2; omega)
     have HN8 : Hid (∀ c, some O = some c -> w.heap.size ≤ c) := zu8 (fun c e => by cases e; omega)
     have j5 : Hid (some b ≠ some g) := zu8 (fun e => by cases e; omega)
     have HVG : Hid (∀ c, (Value.slice (some ⟨g, 0, none⟩) l.length lc).ownBlock = some c -> c = g) := zu8 (fun c hc => by simp [Value.ownBlock] at hc; exact hc.symm)
     have HUL : Hid (us.length ≤ 900000) := zu8 (by have := HUS.out; have := j3.out; omega)
     have i1 : (0 : Int) ≤ (j : Int) := by omega
     have i2 : (j : Int) < (l.length : Int) := by omega
     have wr1 : IntKind.i64.wrap ((j : Int) + 1) = (j : Int) + 1 := IntWalk.i64_in _ (by have := j3.out; omega)
     generalize l[j] = p at *
     clear hc hgg g1 g0 ht hg g3 j4 hbb Q8 J4 g2 J3
     go_wp2_with fail
     refine wp_region_held_drew (S := (fun W' => W'.cell? ⟨g, j * 2, none⟩ = some (.int .i64 p.1) /\ W'.cell? ⟨g, j * 2 + 1, none⟩ = some (.string ⟨p.2.toArray⟩))) (by kernel_rfl) (⟨y0, y1⟩) (fun hHeld => ?_)
     generalize wr.drew = wd at *
     refine tk 0 ?_
     refine tk 2 ?_
     refine tk 3 ?_
     refine tk 4 ?_
     refine tk 5 ?_
     refine tk 6 ?_
     refine tk 7 ?_
     refine tk 8 ?_
     refine tk 9 ?_
     refine tk 10 ?_
     refine tk 11 ?_
     refine tk 12 ?_
     refine tk 13 ?_
     refine tk 14 ?_
     refine tk 15 ?_
     refine tk 16 ?_
     refine tk 17 ?_
     refine wpAnyH_ready (rs := [1, 18]) (by kernel_rfl) (by simp) ?_
     refine (AllReadyH.cons (o := _) rfl (fun K hK => ?_) (AllReadyH.cons (o := _) rfl (fun K hK => ?_) AllReadyH.nil))
     ·refine zdt rfl (.slice vao us.length vco) (by first | (have := hO3; go_simp; done) | (have := (wj g8.out.inv).2.2.2; go_simp; done) | (have := (wj HA.out.inv).2.2.2; go_simp; done)) ?_
      try dsimp only
      refine hK.out _ _ ?_ (fun hHeld => nx ?_)
      ·exact hHeld
      clear hK K
      refine rd 18 fun K hK => ?_
      go_simp
      refine (zji b (k + 10 + 3 * j) p.1 wd (q3.out _ HGD.out) j2.out (by have := HJ.out; omega) HPKp.out.1).mono ?_
      rintro e w7 ⟨u, its, rfl, hu, hok, hl1, how, ht7, hg7⟩
      obtain ⟨up, uq, rfl⟩ := hu.slice
      unfold setV
      have g8 := zu8 (g5.out.tape hg7 g4.out)
      have g7 : Below w7.heap.size w7 (w7.alloc (.cells #[.int .i64 p.1, .string ⟨p.2.toArray⟩, .int .i64 p.1, .slice up its.length uq] 70)) := (zvb _ w7).alloc (zva _) _
      have HA := zu8 (g8.out.call g7)
      have Q9 := zu8 hg7.size
      have HP8 : Hid (FOk (w7.alloc (.cells #[.int .i64 p.1, .string ⟨p.2.toArray⟩, .int .i64 p.1, .slice up its.length uq] 70)) (.slice vao us.length vco) ((⟨p.1, p.2, p.1, its⟩, ⟨up, its.length, uq⟩) : Fs)) := zu8 ⟨⟨J5.out, za6 (V.zhi hok), Nat.le_trans (V.zhi hok).len (by decide)⟩, rfl, hu.below g7, fun _ c hc e => by have := how c hc; have := (g6.out c e).1; omega⟩
      have HOW8 : Hid (∀ c, (Value.slice up its.length uq).ownBlock = some c -> O < c) := zu8 (fun c hc => by have := how c hc; have := g5.out.lt; omega)
      have HNW : Hid (∀ j u, (fE ((⟨p.1, p.2, p.1, its⟩, ⟨up, its.length, uq⟩) : Fs))[j]? = some u -> (w7.alloc (.cells #[.int .i64 p.1, .string ⟨p.2.toArray⟩, .int .i64 p.1, .slice up its.length uq] 70)).cell? ⟨w7.heap.size, j, none⟩ = some u) := zu8 (fun j u hj => by rw [zg, if_pos rfl]; simpa [fE, Sl.v] using hj)
      have HSO : Hid (V.okR p.1 its = true /\ 1 ≤ its.length) := zu8 ⟨hok, hl1⟩
      have HT8 := zu8 (ht7.below g7)
      have HG7 := zu8 hg7
      try dsimp only
      refine hK.out _ _ ?_ (fun hHeld => nx ?_)
      ·(try dsimp only); exact ⟨qo hg7 j5.out hHeld.1, qo hg7 j5.out hHeld.2⟩
      clear hK K
      refine tk 19 ?_
      refine rd 20 fun K hK => ?_
      go_simp
      refine hK.out _ _ ?_ (fun hHeld => nx ?_)
      ·exact zw7
      exact zvf
     ·go_simp
      refine (zji b (k + 10 + 3 * j) p.1 wd (q3.out _ HGD.out) j2.out (by have := HJ.out; omega) HPKp.out.1).mono ?_
      rintro e w7 ⟨u, its, rfl, hu, hok, hl1, how, ht7, hg7⟩
      obtain ⟨up, uq, rfl⟩ := hu.slice
      unfold setV
      have g8 := zu8 (g5.out.tape hg7 g4.out)
      have g7 : Below w7.heap.size w7 (w7.alloc (.cells #[.int .i64 p.1, .string ⟨p.2.toArray⟩, .int .i64 p.1, .slice up its.length uq] 70)) := (zvb _ w7).alloc (zva _) _
      have HA := zu8 (g8.out.call g7)
      have Q9 := zu8 hg7.size
      have HP8 : Hid (FOk (w7.alloc (.cells #[.int .i64 p.1, .string ⟨p.2.toArray⟩, .int .i64 p.1, .slice up its.length uq] 70)) (.slice vao us.length vco) ((⟨p.1, p.2, p.1, its⟩, ⟨up, its.length, uq⟩) : Fs)) := zu8 ⟨⟨J5.out, za6 (V.zhi hok), Nat.le_trans (V.zhi hok).len (by decide)⟩, rfl, hu.below g7, fun _ c hc e => by have := how c hc; have := (g6.out c e).1; omega⟩
      have HOW8 : Hid (∀ c, (Value.slice up its.length uq).ownBlock = some c -> O < c) := zu8 (fun c hc => by have := how c hc; have := g5.out.lt; omega)
      have HNW : Hid (∀ j u, (fE ((⟨p.1, p.2, p.1, its⟩, ⟨up, its.length, uq⟩) : Fs))[j]? = some u -> (w7.alloc (.cells #[.int .i64 p.1, .string ⟨p.2.toArray⟩, .int .i64 p.1, .slice up its.length uq] 70)).cell? ⟨w7.heap.size, j, none⟩ = some u) := zu8 (fun j u hj => by rw [zg, if_pos rfl]; simpa [fE, Sl.v] using hj)
      have HSO : Hid (V.okR p.1 its = true /\ 1 ≤ its.length) := zu8 ⟨hok, hl1⟩
      have HT8 := zu8 (ht7.below g7)
      have HG7 := zu8 hg7
      try dsimp only
      refine hK.out _ _ ?_ (fun hHeld => nx ?_)
      ·(try dsimp only); exact ⟨qo hg7 j5.out hHeld.1, qo hg7 j5.out hHeld.2⟩
      clear hK K
      refine tk 19 ?_
      refine wpAnyH_ready (rs := [1, 20]) (by kernel_rfl) (by simp) ?_
      refine (AllReadyH.cons (o := _) rfl (fun K hK => ?_) (AllReadyH.cons (o := _) rfl (fun K hK => ?_) AllReadyH.nil))
      ·refine zdt rfl (.slice vao us.length vco) (by first | (have := hO3; go_simp; done) | (have := (wj g8.out.inv).2.2.2; go_simp; done) | (have := (wj HA.out.inv).2.2.2; go_simp; done)) ?_
       try dsimp only
       refine hK.out _ _ ?_ (fun hHeld => nx ?_)
       ·exact hHeld
       clear hK K
       refine rd 20 fun K hK => ?_
       go_simp
       refine hK.out _ _ ?_ (fun hHeld => nx ?_)
       ·exact zw7
       exact zvf
      ·go_simp
       refine hK.out _ _ ?_ (fun hHeld => nx ?_)
       ·exact zw7
       clear hK K
       refine rd 1 fun K hK => ?_
       refine zdt rfl (.slice vao us.length vco) (by first | (have := hO3; go_simp; done) | (have := (wj g8.out.inv).2.2.2; go_simp; done) | (have := (wj HA.out.inv).2.2.2; go_simp; done)) ?_
       try dsimp only
       refine hK.out _ _ ?_ (fun hHeld => nx ?_)
       ·exact hHeld
       exact zvf
    ·obtain rfl : j = l.length := by omega
     have U0 := wj g2.out.inv
     obtain ⟨z0, z1, z2, z3⟩ := U0
     have U1 := zu8 ht
     rw [List.take_length] at HMP
     clear g0 ht hg g3 hlt
     go_wp2_with (first | (refine wl_put4 rfl zi3 _ _ rfl w.heap.size #[.string ⟨#[]⟩, .int .i64 0, .int .i64 0, .slice none 0 0] 54 g2.out.zero rfl (.string ⟨id.toArray⟩) (.int .i64 (1 + (r1 : Int))) (.int .i64 (1 + (r2 : Int))) (.slice vao us.length vco) ⟨rfl, rfl, rfl, rfl⟩ rfl rfl ?_) | fail)
     refine bodyPost_ret (v := .agg #[.string ⟨id.toArray⟩, .int .i64 (1 + (r1 : Int)), .int .i64 (1 + (r2 : Int)), .slice vao us.length vco]) (qp Tryz.results33 rfl (load4 Tryz.underlying54 zi3 (setRow_heap _ _ _ _ _ _ g2.out.zero))) rfl ?_
     have j4 := g2.out.base
     have hbb := g4.out
     have k7 := zz wr w.heap.size #[.string ⟨id.toArray⟩, .int .i64 (1 + (r1 : Int)), .int .i64 (1 + (r2 : Int)), .slice vao us.length vco]
     have U2 := HUS.out
     have U4 := j3.out
     refine ⟨⟨id, 1 + r1, 1 + r2, us.map (·.1)⟩, .slice vao us.length vco, us, rfl, ⟨q6.out.1, q6.out.2, by show (1 : Int) ≤ 1 + (r1 : Int); omega, by show 1 + (r1 : Int) ≤ 3; have := k1.out.1; omega, by show (1 : Int) ≤ 1 + (r2 : Int); omega, by show 1 + (r2 : Int) ≤ 10; have := k1.out.2; omega, by rw [List.length_map]; omega, fun a ha => ?_, ?_⟩, rfl, ?_, fun p hp c hc => (by have := g2.out.own p hp c hc; omega), ?_, zcr J3.out k7 (zva _)⟩
     ·obtain ⟨q, hq, rfl⟩ := List.mem_map.1 ha
      exact HSN.out q hq
     ·show V.Asc ((us.map (·.1)).map V.pk)
      rw [List.map_map]
      have h := HMP.out
      rw [show (V.pk ∘ fun x : Fs => x.1) = fun q => V.pk q.1 from rfl, h]
      exact HAS.out
     ·intro W hW
      have J6 := g2.out.row.kept k7 (g2.out.rowNe g2.out.zero (by decide)) (fun p hp c hc => by have := g2.out.own p hp c hc; omega)
      exact (J6.kept hW (fun e => by have := GRow.block J6.row _ e; omega) (fun p hp c hc => by have := g2.out.own p hp c hc; omega)).weaken (by omega)
     ·exact (U1.out.grown k7 (by intro e; cases e; omega) (by intro c e; cases e; omega)).le (by omega)
end Go.Proofs.YtbikeahmldobkaaGreatDoor
