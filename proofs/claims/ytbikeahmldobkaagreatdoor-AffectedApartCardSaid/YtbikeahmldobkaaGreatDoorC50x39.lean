/-
  Lemmas for the law.
-/
import Derived.Test.YtbikeahmldobkaaGreatDoorC50x21
import Derived.Test.YtbikeahmldobkaaGreatDoorC50x38
import Derived.Test.YtbikeahmldobkaaGreatDoorC50x34
import Derived.Test.YtbikeahmldobkaaGreatDoorC50x30
import Derived.Test.YtbikeahmldobkaaGreatDoorC50x09
import Derived.Test.YtbikeahmldobkaaGreatDoorC50x12
import Derived.Test.YtbikeahmldobkaaGreatDoorC50x08
import Derived.Outline
set_option linter.all false
set_option maxRecDepth 100000
set_option maxHeartbeats 3200000
namespace Go.Proofs.YtbikeahmldobkaaGreatDoor
open Go.RowKit
theorem zp6 : (Tryz.prog.info? 54).map (·.size) = some 4 := by kernel_rfl
theorem wl_put4 {ops : Array Oper} {rest : List Oper} {o : Oper} {a : Act} {w : World} {Q : Exit -> Act -> World -> Prop} (g0 : o.guard = none) {T : TypeId} (hT : (Tryz.prog.info? T).map (·.size) = some 4) (x y : Operand) (ho : o.op = .store T x y)
  (g : Nat) (old : Array Value) (t : TypeId) (hg : w.heap[g]? = some (.cells old t (0, 0))) (hx : a.eval x = .pointer (some ⟨g, 0, none⟩)) (c0 c1 c2 c3 : Value) (h1 : c0.oneCell' = true /\ c1.oneCell' = true /\ c2.oneCell' = true /\ c3.oneCell' = true) (hy : a.eval y = .agg #[c0, c1, c2, c3]) (h4 : old.size = 4)
  (h : wpList Tryz.prog ops Q rest (a.put o.dst undef) (w.setRow g #[c0, c1, c2, c3])) : wpList Tryz.prog ops Q (o :: rest) a w :=
 wpList_store_row g0 _ x y ho g _ hx hy t old hg (by rw [hT]; rfl) (by rw [h4]; rfl) (by simp [h1.1, h1.2.1, h1.2.2.1, h1.2.2.2]) h
theorem load4 {T : TypeId} {fs : Array Field} (hu : Tryz.prog.underlying T = some (.struct fs)) (hT : (Tryz.prog.info? T).map (·.size) = some 4) {w : World} {g : Nat} {t : TypeId} {c0 c1 c2 c3 : Value} (hg : w.heap[g]? = some (.cells #[c0, c1, c2, c3] t (0, 0))) : (loadVar T ⟨g, 0, none⟩).run Tryz.prog w = .ok (.agg #[c0, c1, c2, c3]) w :=
 run_loadVar_row _ _ _ _ _ (0, 0) _ hg hu rfl (by rw [hT]; rfl)
theorem za6 {w : World} {g : Nat} {t : TypeId} {c0 c1 c2 c3 : Value} (hg : w.heap[g]? = some (.cells #[c0, c1, c2, c3] t (0, 0))) : w.cell? ⟨g, 0, none⟩ = some c0 /\ w.cell? ⟨g, 1, none⟩ = some c1 /\ w.cell? ⟨g, 2, none⟩ = some c2 /\ w.cell? ⟨g, 3, none⟩ = some c3 := by
 refine ⟨?_, ?_, ?_, ?_⟩ <;> (rw [cell_of_row w g _ _ _ _ hg]; rfl)
theorem Itvs.row {w w' : World} {u : Value} {l : List V.Itv} {g : Nat} (h : Itvs w u l) (hg : w.grownBy w' (some g)) (g0 : ∀ c, u.ownBlock = some c -> c ≠ g) : Itvs w' u l :=
 h.grown hg (fun _ c hc e => g0 c hc (Option.some.inj e).symm)
abbrev Fs := V.Aff × Sl
def fE (p : Fs) : List Value := [.int .i64 p.1.sch, .string ⟨p.1.name.toArray⟩, .int .i64 p.1.rs, p.2.v]
theorem zoc (p : Fs) : (fE p).length = 4 := rfl
theorem zr1 (p : Fs) : ∀ u ∈ fE p, u.oneCell' = true := by
 intro u hu
 simp [fE] at hu
 rcases hu with rfl | rfl | rfl | rfl <;> rfl
theorem affGI : jp 70 4 56 := by
 have h : (match Tryz.prog.info? 70 with | some i => i.size == 4 && (i.bytes == 56 && (match i.zero with | some z => z.cells.size == 4 | none => false)) | none => false) = true := by kernel_rfl
 unfold jp
 cases hq : Tryz.prog.info? 70 with
 | none => rw [hq] at h; cases h
 | some i =>
  exact zwv
def FOk (w : World) (v : Value) (p : Fs) : Prop := AffWf p.1 /\ p.2.n = p.1.its.length /\ Itvs w p.2.v p.1.its /\ (p.1.its ≠ [] -> ∀ c, p.2.v.ownBlock = some c -> v.ownBlock ≠ some c)
structure FRow (N : Nat) (w : World) (v : Value) (us : List Fs) : Prop where
 row : GRow 70 4 fE w N v us
 each : ∀ p ∈ us, FOk w v p
theorem FRow.nil (N : Nat) (w : World) : FRow N w (.slice none 0 0) [] := ⟨GRow.nil _ _, fun p hp => by simp at hp⟩
theorem FRow.later {N : Nat} {w w' : World} {v : Value} {us : List Fs} (h : FRow N w v us) (hb : Below w.heap.size w w') : FRow N w' v us :=
 ⟨GRow.below h.row hb, fun p hp => ⟨(h.each p hp).1, (h.each p hp).2.1, (h.each p hp).2.2.1.below hb, (h.each p hp).2.2.2⟩⟩
theorem FRow.weaken {N M : Nat} {w : World} {v : Value} {us : List Fs} (h : FRow N w v us) (g0 : M ≤ N) : FRow M w v us := ⟨GRow.weaken h.row g0, h.each⟩
theorem FRow.kept {N : Nat} {w w' : World} {v : Value} {us : List Fs} {g : Nat} (h : FRow N w v us) (hg : w.grownBy w' (some g)) (hr : v.ownBlock ≠ some g) (he : ∀ p ∈ us, ∀ c, p.2.v.ownBlock = some c -> c ≠ g) : FRow N w' v us := by
 refine ⟨?_, fun p hp => ⟨(h.each p hp).1, (h.each p hp).2.1, (h.each p hp).2.2.1.row hg (he p hp), (h.each p hp).2.2.2⟩⟩
 obtain ⟨hx, hq⟩ := h.row
 refine ⟨hx, ?_⟩
 rcases hq with hq | ⟨b, cap, cur, rfl, hb, hgg, rest⟩
 ·exact .inl hq
 ·refine .inr ⟨b, cap, cur, rfl, hb, ?_, rest⟩
  rw [hg.block b (Array.getElem?_eq_some_iff.1 hgg).1 (fun e => hr (by rw [← e]; rfl))]
  exact hgg
theorem FRow.add {N : Nat} {w w' : World} {v v' : Value} {us : List Fs} {p : Fs} (h : FRow N w v us) (hr : GRow 70 4 fE w' N v' (us ++ [p])) (hg : w.grownBy w' v.ownBlock) (ho : v'.ownBlock = v.ownBlock ∨ v'.ownBlock = some w.heap.size)
  (hp : FOk w v p) : FRow N w' v' (us ++ [p]) := by
 have one : ∀ q, FOk w v q -> FOk w' v' q := fun q hq => by
  refine ⟨hq.1, hq.2.1, hq.2.2.1.grown hg hq.2.2.2, fun hy c hc => ?_⟩
  rcases ho with e | e
  ·rw [e]; exact hq.2.2.2 hy c hc
  ·rw [e]
   intro g
   have := hq.2.2.1.lt hy hc
   cases g
   omega
 refine ⟨hr, fun q hq => ?_⟩
 rcases List.mem_append.1 hq with hq | hq
 ·exact one q (h.each q hq)
 ·rw [List.mem_singleton.1 hq]; exact one p hp
theorem FRow.affs {N : Nat} {w : World} {v : Value} {us : List Fs} (h : FRow N w v us) : Affs w v (us.map (·.1)) := by
 obtain ⟨a, cap, rfl⟩ := GRow.slice h.row
 refine ⟨a, cap, by simp, fun j hj => ?_⟩
 have g0 : j < us.length := by simpa using hj
 obtain ⟨g, cap2, e, hN, hg, hc⟩ := GRow.at zoc h.row j g0
 cases e
 obtain ⟨hw, hn, hi, _⟩ := h.each us[j] (List.getElem_mem g0)
 have e1 : (us.map (·.1))[j] = us[j].1 := by simp
 rw [e1]
 have hv : us[j].2.v = .slice us[j].2.a us[j].1.its.length us[j].2.c := by unfold Sl.v; rw [hn]
 refine ⟨hw, g, 0, us[j].2.a, us[j].2.c, rfl, hg, ?_⟩
 have k := fun i u (q : (fE us[j])[i]? = some u) => hc i u q
 refine ⟨?_, ?_, ?_, ?_, by rw [← hv]; exact hi⟩
 ·have := k 0 _ rfl; simpa using this
 ·have := k 1 _ rfl; simpa using this
 ·have := k 2 _ rfl; simpa using this
 ·have := k 3 _ rfl; rw [← hv]; simpa using this
theorem FRow.slice {N : Nat} {w : World} {v : Value} {us : List Fs} (h : FRow N w v us) : ∃ a cap, v = .slice a us.length cap := GRow.slice h.row
structure VInv (V0 : World) (N0 O : Nat) (i r s : Value) (v : Value) (us : List Fs) (W : World) : Prop where
 row : FRow O W v us
 inv : W.heap[O]? = some (.cells #[i, r, s, v] 54 (0, 0))
 zero : W.heap[N0]? = some (.cells #[.string ⟨#[]⟩, .int .i64 0, .int .i64 0, .slice none 0 0] 54 (0, 0))
 own : ∀ p ∈ us, ∀ c, p.2.v.ownBlock = some c -> O < c
 old : Below O V0 W
 base : N0 + 1 ≤ O
namespace VInv
variable {V0 : World} {N0 O : Nat} {i r s : Value} {v : Value} {us : List Fs} {W W' : World}
theorem lt (h : VInv V0 N0 O i r s v us W) : O < W.heap.size := (Array.getElem?_eq_some_iff.1 h.inv).1
theorem call (h : VInv V0 N0 O i r s v us W) (hb : Below W.heap.size W W') : VInv V0 N0 O i r s v us W' := by
 have hlt := h.lt
 exact ⟨h.row.later hb, (hb.block O hlt).trans h.inv, (hb.block _ (by have := h.base; omega)).trans h.zero, h.own, h.old.trans (hb.mono (by omega)), h.base⟩
theorem rowNe (h : VInv V0 N0 O i r s v us W) {g : Nat} {cs : Array Value} {t : TypeId} {fr : Nat × Nat} (hg : W.heap[g]? = some (.cells cs t fr)) (ht : t ≠ 70) : v.ownBlock ≠ some g := fun hb => by
 obtain ⟨_, hq⟩ := h.row.row
 rcases hq with ⟨rfl, _⟩ | ⟨b, cap, cur, rfl, _, hgg, _⟩
 ·cases hb
 ·simp [Value.ownBlock] at hb
  subst hb
  rw [hgg] at hg
  cases hg
  exact ht rfl
theorem append (h : VInv V0 N0 O i r s v us W) {v' : Value} {p : Fs} (hr : FRow O W' v' (us ++ [p])) (hg : W.grownBy W' v.ownBlock) (hp : ∀ c, p.2.v.ownBlock = some c -> O < c) : VInv V0 N0 O i r s v' (us ++ [p]) (W'.setCell ⟨O, 3, none⟩ v') := by
 have g3 := GRow.block h.row.row
 have hl : ∀ k, k < W.heap.size -> v.ownBlock ≠ some k -> W'.heap[k]? = W.heap[k]? := fun k hk hb => hg.block k hk (fun e => hb e.symm)
 have hi : W'.heap[O]? = _ := (hl O (Array.getElem?_eq_some_iff.1 h.inv).1 (h.rowNe h.inv (by decide))).trans h.inv
 have hz : W'.heap[N0]? = _ := (hl _ (Array.getElem?_eq_some_iff.1 h.zero).1 (h.rowNe h.zero (by decide))).trans h.zero
 have g0 := jt W' O 3 v'
 have g2 : ∀ k, k < W'.heap.size -> k ≠ O -> (W'.setCell ⟨O, 3, none⟩ v').heap[k]? = W'.heap[k]? := fun k hk hb => g0.block k hk (fun e => by cases e; exact hb rfl)
 have g1 : ∀ q ∈ us ++ [p], ∀ c, q.2.v.ownBlock = some c -> O < c := fun q hq c hc => by
  rcases List.mem_append.1 hq with hq | hq
  ·exact h.own q hq c hc
  ·rw [List.mem_singleton.1 hq] at hc; exact hp c hc
 have g4 : v'.ownBlock ≠ some O := fun hb => by
  obtain ⟨_, hq⟩ := hr.row
  rcases hq with ⟨e, _⟩ | ⟨b, cap, cur, e, _, hgg, _⟩
  ·rw [e] at hb; cases hb
  ·rw [e] at hb
   simp [Value.ownBlock] at hb
   subst hb
   rw [hgg] at hi
   cases hi
 refine ⟨hr.kept g0 g4 (fun q hq c hc => by have := g1 q hq c hc; omega), ?_, ?_, g1, ?_, h.base⟩
 ·rw [yj _ _ hi]; rfl
 ·rw [g2 _ (Array.getElem?_eq_some_iff.1 hz).1 (by have := h.base; omega)]; exact hz
 ·have g5 := h.lt
  have g6 := h.base
  refine (h.old.trans ⟨hg.os, hg.tape, hg.output, hg.size, fun k hk => hl k (by omega) (fun e => by have := g3 k e; omega)⟩).trans ⟨g0.os, g0.tape, g0.output, g0.size, fun k hk => g2 k (by have := hg.size; omega) (by omega)⟩
theorem invKept (h : VInv V0 N0 O i r s v us W) (hg : W.grownBy W' v.ownBlock) : W'.heap[O]? = some (.cells #[i, r, s, v] 54 (0, 0)) :=
 (hg.block O (Array.getElem?_eq_some_iff.1 h.inv).1 (fun e => h.rowNe h.inv (by decide) e.symm)).trans h.inv
end VInv
theorem zhf : (Tryz.prog.info? 52).map (·.size) = some 1 := by kernel_rfl
open Go.RowKit
def wakC : V.Comp := ⟨-1, 3, [97], [49], zu⟩
theorem ztt : CompWf wakC := ⟨by decide, by decide, by decide, by decide, by decide, by decide⟩
def wakI : V.Itv := ⟨[], 0, [50], 2⟩
def wakA : V.Aff := ⟨3, [97], 3, [wakI]⟩
def wakN (u : Value) : NV := ⟨⟨⟨[119], 1, 5, [wakA]⟩, dig1 3⟩, u, .slice none 0 0⟩
theorem wakA_wf : AffWf wakA := ⟨by decide, fun x hx => by rw [List.mem_singleton.1 hx]; decide, by decide⟩
theorem wak_ok : V.jo (dig1 1) 0 [wakC] = true := by kernel_rfl
theorem zqk (u : Value) : V.kx true ([wakN u].map (·.n)) [wakC] = [⟨0, [119], 5, [dig1 3]⟩] := by kernel_rfl
theorem zvv (u : Value) : V.ug [wakC] (V.kx true ([wakN u].map (·.n)) [wakC]) 0 = [⟨0, [119], 5, [dig1 3]⟩] := by rw [zqk]; kernel_rfl
theorem wak_up (u : Value) : V.upTo 3 [97] [49] ([wakN u].map (·.n)) [[51], [50], [49, 46, 53]] 3 = ([50], true) := by kernel_rfl
theorem noteIE3 : ∃ ie z, Tryz.prog.info? 57 = some ie /\ ie.zero = some z /\ ie.size = 37 /\ z.cells.size = 37 := by
 have h : (match Tryz.prog.info? 57 with | some i => i.size == 37 && (match i.zero with | some z => z.cells.size == 37 | none => false) | none => false) = true := by kernel_rfl
 cases hq : Tryz.prog.info? 57 with
 | none => rw [hq] at h; cases h
 | some i =>
  rw [hq] at h
  simp only [Bool.and_eq_true, beq_iff_eq] at h
  obtain ⟨h1, h3⟩ := h
  cases hz : i.zero with
  | none => rw [hz] at h3; cases h3
  | some z =>
   rw [hz] at h3
   exact ⟨i, z, rfl, hz, h1, by simpa using h3⟩
theorem zsf {ops : Array Oper} {rest : List Oper} {o : Oper} {a : Act} {w : World} {Q : Exit -> Act -> World -> Prop} (g1 : o.guard = none) (e1 : Operand) (ho : o.op = .buildSlice 31 1 #[(0, e1)])
  (x : NV) (hx : qj x.n.doc) (h1 : a.eval e1 = .agg (ncells x))
  (h : wpList Tryz.prog ops Q rest (a.put o.dst (.slice (some ⟨w.heap.size, 0, none⟩) 1 1)) (w.alloc (.cells (ncells x) 57))) : wpList Tryz.prog ops Q (o :: rest) a w := by
 obtain ⟨ie, z, g2, hz, g0, _⟩ := noteIE3
 refine wpList_buildSlice g1 _ 57 1 _ ho (ncells x) ie z Tryz.underlying31 g2 hz (by rw [g0]; decide) (by rw [g0]; decide) ?_ h
 have := Great.fill_whole (s := 37) (by decide) [Value.agg (ncells x)] ((Array.range (1 * ie.size)).map (z.cells[· % z.cells.size]!)) (fun v hv => by
   rcases List.mem_cons.1 hv with rfl | hv
   · exact zd7 hx
   · cases hv) (by rw [g0]; simp)
 rw [g0] at this ⊢
 simp only [h1, List.map_toArray, List.map_cons, List.map_nil]
 exact this.trans (by simp [Value.cells])
theorem ji (w : World) (hm : zj w) : Calls Tryz.prog 21 #[] w fun e w' => e = .returned (.bool true) /\ Below w.heap.size w w' := by
 have HM := zwg hm
 clear hm
 have h4 : (w.alloc (.cells (ccells wakC) 60)).heap.size = w.heap.size + 1 := by simp
 have HIN : Hid ((Tryz.prog.info? 29).map (·.size) = some (icells (dig1 1) 0 (.slice (some ⟨w.heap.size, 0, none⟩) 1 1)).size) := zwg (by rw [yw, ql rfl])
 have HS : Hid ((icells zu 0 (.slice none 0 0)).size = (icells (dig1 1) 0 (.slice (some ⟨w.heap.size, 0, none⟩) 1 1)).size) := zwg (by rw [ql rfl, ql rfl])
 have HO : Hid ((icells (dig1 1) 0 (.slice (some ⟨w.heap.size, 0, none⟩) 1 1)).all (·.oneCell') = true) := zwg (zbk rfl)
 have g8 : ((w.alloc (.cells (ccells wakC) 60)).alloc (.cells (icells zu 0 (.slice none 0 0)) 29)).heap[w.heap.size + 1]? = some (.cells (icells zu 0 (.slice none 0 0)) 29 (0, 0)) := by rw [← h4]; exact heap_alloc_new _ _
 have k2 := zwg g8
 have hb2 : Below w.heap.size w ((w.alloc (.cells (ccells wakC) 60)).alloc (.cells (icells zu 0 (.slice none 0 0)) 29)) := ((zwj _ w).alloc (zwi _) _).alloc (by simp) _
 obtain ⟨W3, g3⟩ : ∃ W3, W3 = (((w.alloc (.cells (ccells wakC) 60)).alloc (.cells (icells zu 0 (.slice none 0 0)) 29)).setRow (w.heap.size + 1) (icells (dig1 1) 0 (.slice (some ⟨w.heap.size, 0, none⟩) 1 1))) := ⟨_, rfl⟩
 have hb3 : Below w.heap.size w W3 := by rw [g3]; exact hb2.trans (qi (qc _ _ _) (by simp) (by simp; omega))
 have HB3 := zwg hb3
 have h5 : Hid (W3.heap[w.heap.size + 1]? = some (.cells (icells (dig1 1) 0 (.slice (some ⟨w.heap.size, 0, none⟩) 1 1)) 29 (0, 0))) := zwg (by rw [g3]; exact setRow_heap _ _ _ _ _ _ g8)
 have h6 : W3.heap.size = w.heap.size + 2 := by rw [g3]; simp
 have q0 := zwg h6
 have h7 : Hid (Comps W3 (.slice (some ⟨w.heap.size, 0, none⟩) 1 1) [wakC]) := zwg ⟨_, 1, rfl, fun j hj => by
   obtain rfl : j = 0 := by simpa using hj
   refine ⟨ztt, w.heap.size, 0, rfl, by omega, ?_⟩
   have h1 : W3.heap[w.heap.size]? = some (.cells (ccells wakC) 60 (0, 0)) := by
     rw [g3, setRow_other _ _ _ _ (by omega), heap_alloc, if_neg (by simp), heap_alloc, if_pos rfl]
   intro i u hu
   rw [cell_of_row _ _ _ _ _ _ h1]
   unfold ccells
   simpa using hu⟩
 have h8 := zwg g3
 obtain ⟨W6, g1⟩ : ∃ W6, W6 = (((W3.alloc (.cells #[.string ⟨#[]⟩, .int .i64 0, .string ⟨#[50]⟩, .int .i64 2] 83)).alloc (.cells #[.int .i64 3, .string ⟨#[97]⟩, .int .i64 3, .slice (some ⟨W3.heap.size, 0, none⟩) 1 1] 70)).alloc (.cells (ncells (wakN (.slice (some ⟨W3.heap.size + 1, 0, none⟩) 1 1))) 57)) := ⟨_, rfl⟩
 have g7 : Below W3.heap.size W3 W6 := by rw [g1]; exact (((zwj _ W3).alloc (zwi _) _).alloc (by simp) _).alloc (by simp; omega) _
 have k3 : W6.heap.size = W3.heap.size + 3 := by rw [g1]; simp
 have h9 : W6.heap[W3.heap.size]? = some (.cells #[.string ⟨#[]⟩, .int .i64 0, .string ⟨#[50]⟩, .int .i64 2] 83 (0, 0)) := by rw [g1, heap_alloc, if_neg (by simp; omega), heap_alloc, if_neg (by simp), heap_alloc, if_pos rfl]
 have j0 : W6.heap[W3.heap.size + 1]? = some (.cells #[.int .i64 3, .string ⟨#[97]⟩, .int .i64 3, .slice (some ⟨W3.heap.size, 0, none⟩) 1 1] 70 (0, 0)) := by rw [g1, heap_alloc, if_neg (by simp), heap_alloc, if_pos (by simp)]
 have j1 : W6.heap[W3.heap.size + 2]? = some (.cells (ncells (wakN (.slice (some ⟨W3.heap.size + 1, 0, none⟩) 1 1))) 57 (0, 0)) := by rw [g1, heap_alloc, if_pos (by simp)]
 have j2 : Itvs W6 (.slice (some ⟨W3.heap.size, 0, none⟩) 1 1) [wakI] := ⟨_, _, rfl, fun j hj => by
   obtain rfl : j = 0 := by simpa using hj
   exact ⟨W3.heap.size, 0, rfl, by omega, za6 h9⟩⟩
 have j3 : Affs W6 (.slice (some ⟨W3.heap.size + 1, 0, none⟩) 1 1) [wakA] := ⟨_, _, rfl, fun j hj => by
   obtain rfl : j = 0 := by simpa using hj
   obtain ⟨c0, c1, c2, c3⟩ := za6 j0
   exact ⟨wakA_wf, W3.heap.size + 1, 0, _, _, rfl, by omega, c0, c1, c2, c3, j2⟩⟩
 have g9 : Hid (qj (dig1 3)) := zwg ⟨rfl, by decide⟩
 have HN6 : Hid (Notes W6 (.slice (some ⟨W3.heap.size + 1 + 1, 0, none⟩) 1 1) [wakN (.slice (some ⟨W3.heap.size + 1, 0, none⟩) 1 1)]) := zwg ⟨_, 1, rfl, fun j hj => by
   obtain rfl : j = 0 := by simpa using hj
   exact ⟨⟨g9.out, j3, rfl, (by show 1 ≤ maxLen; decide), (by show 1 ≤ maxLen; decide)⟩, W3.heap.size + 2, 0, rfl, by omega, by rw [Nat.zero_mul, Nat.add_zero]; exact uf j1⟩⟩
 have HB6 := zwg (hb3.trans (g7.mono hb3.size))
 have j4 := zwg (h7.out.below g7)
 have h0 := zwg ((g7.block _ (by omega)).trans h5.out)
 have j5 := zwg g1
 have h3 := zwg (ql (d := dig1 1) rfl 0 (.slice (some ⟨w.heap.size, 0, none⟩) 1 1))
 clear j2 j3 h9 j0 j1 k3 g7 g1 h7 h5
 clear g8 hb2 hb3 g3 h6 h4
 go_enter Tryz.func21, Tryz.ntmps21
 go_wp2_with (first
   | (refine wpList_buildTo rfl 26 #[(0, .const (.int .u8 1))] rfl _ rfl (dcells (dig1 1)) (by kernel_rfl) ?_)
   | (refine wpList_buildTo rfl 60 #[(0, .const (.int .i64 (-1))), (1, .const (.int .i64 3)), (2, .const (.string ⟨#[97]⟩)), (3, .const (.string ⟨#[49]⟩))] rfl _ rfl (ccells wakC) (by kernel_rfl) ?_)
   | (refine zmk rfl _ rfl wakC ztt rfl ?_)
   | (refine wpList_buildTo rfl 29 #[(0, .tmp 6), (2, .tmp 8)] rfl _ rfl (icells (dig1 1) 0 (.slice (some ⟨w.heap.size, 0, none⟩) 1 1)) (by kernel_rfl) ?_)
   | (rw [zcv]; refine wpList_store_row rfl _ _ _ rfl (w.heap.size + 1) (icells (dig1 1) 0 (.slice (some ⟨w.heap.size, 0, none⟩) 1 1)) ?hx ?hy 29 _ k2.out HIN.out HS.out HO.out ?hr; (case hx => rfl); (case hy => rfl); rw [← h8.out])
   | (refine wpList_buildTo rfl 70 #[(0, .const (.int .i64 3)), (1, .const (.string ⟨#[97]⟩)), (2, .tmp 12)] rfl _ rfl #[.int .i64 3, .string ⟨#[97]⟩, .int .i64 3, .slice (some ⟨W3.heap.size, 0, none⟩) 1 1] (by kernel_rfl) ?_)
   | (refine wpList_buildTo rfl 26 #[(0, .const (.int .u8 3))] rfl _ rfl (dcells (dig1 3)) (by kernel_rfl) ?_)
   | (refine wpList_buildTo rfl 57 #[(0, .tmp 15), (1, .tmp 16)] rfl _ rfl (ncells (wakN (.slice (some ⟨W3.heap.size + 1, 0, none⟩) 1 1))) (by kernel_rfl) ?_)
   | (refine zsf rfl _ rfl (wakN (.slice (some ⟨W3.heap.size + 1, 0, none⟩) 1 1)) g9.out rfl ?_; rw [← j5.out])
   | (refine wpList_load_row rfl _ _ rfl (w.heap.size + 1) rfl _ (icells (dig1 1) 0 (.slice (some ⟨w.heap.size, 0, none⟩) 1 1)) (0, 0) _ h0.out Tryz.underlying29 rfl (by rw [yw, h3.out]) ?_)
   | fail)
 refine (zbc (dig1 1) 0 (.slice (some ⟨w.heap.size, 0, none⟩) 1 1) [wakC] (.slice (some ⟨W3.heap.size + 1 + 1, 0, none⟩) 1 1) [wakN (.slice (some ⟨W3.heap.size + 1, 0, none⟩) 1 1)] W6 (HM.out.below HB6.out) rfl (by decide) j4.out (by decide) HN6.out (by simp)).mono ?_
 rw [wak_ok]
 rintro e w7 ⟨hv, us, rfl, g6, g0, hb7⟩
 rw [zqk] at g0
 have j6 : us.length = 1 := by rw [← List.length_map (f := (·.1)), g0]; rfl
 obtain ⟨p, rfl⟩ := List.length_eq_one_iff.1 j6
 have hp : p.1.sev = 5 := by
  have := List.head_eq_of_cons_eq (show p.1 :: [] = _ :: [] from g0)
  rw [this]
 obtain ⟨ha, hc, k4⟩ := g6.list.1.slice
 subst k4
 obtain ⟨g, off, rfl, hg, j7⟩ := g6.list.1.at 0 (by simp)
 have h2 : w7.cell? ⟨g, off + 2, none⟩ = some (.int .i64 5) := by
  have := j7 2 (.int .i64 p.1.sev) rfl
  rw [hp, Nat.zero_mul, Nat.add_zero] at this
  exact this
 have HB7 := zwh HB6 hb7
 have k5 := zwg (j4.out.below hb7)
 have HN7 := zwg (HN6.out.below hb7)
 have HG7 := zwg ((hb7.block _ (Array.getElem?_eq_some_iff.1 h0.out).1).trans h0.out)
 clear g6 g0 hb7 j7 j6 hp hg HIN HS HO h8 j5
 simp only [List.length_cons, List.length_nil, Nat.zero_add]
 have k6 : Hid (Strs (w7.alloc (.cells #[.string ⟨#[51]⟩, .string ⟨#[50]⟩, .string ⟨#[49, 46, 53]⟩] 9)) (.slice (some ⟨w7.heap.size, 0, none⟩) 3 3) [[51], [50], [49, 46, 53]]) := zwg (Strs.three w7 [51] [50] [49, 46, 53] _)
 have hb8 : Below w7.heap.size w7 (w7.alloc (.cells #[.string ⟨#[51]⟩, .string ⟨#[50]⟩, .string ⟨#[49, 46, 53]⟩] 9)) := (zwj _ w7).alloc (zwi _) _
 have HB8 := zwh HB7 hb8
 have k7 := zwg (k5.out.below hb8)
 have HN8 := zwg (HN7.out.below hb8)
 have j8 := zwg ((hb8.block _ (Array.getElem?_eq_some_iff.1 HG7.out).1).trans HG7.out)
 have j9 := zf hb8 h2
 clear hb8 h2
 go_wp2_with fail
 generalize w7.alloc (.cells #[.string ⟨#[51]⟩, .string ⟨#[50]⟩, .string ⟨#[49, 46, 53]⟩] 9) = w8 at *
 generalize w7.heap.size = S7 at *
 refine (zbv (.slice (some ⟨W3.heap.size + 1 + 1, 0, none⟩) 1 1) [wakN (.slice (some ⟨W3.heap.size + 1, 0, none⟩) 1 1)] 3 [97] [49] (.slice (some ⟨S7, 0, none⟩) 3 3) [[51], [50], [49, 46, 53]] w8 (HM.out.below HB8.out) HN8.out (by simp) (by decide) k6.out (by decide) (by decide)).mono ?_
 rintro e w9 ⟨rfl, g4⟩
 rw [show ([[51], [50], [49, 46, 53]] : List V.Bs).length = 3 from rfl, wak_up]
 have HB9 := zwh HB8 g4
 have k8 := zwg (k7.out.below g4)
 have k9 := zwg (HN8.out.below g4)
 have HG9 := zwg ((g4.block _ (Array.getElem?_eq_some_iff.1 j8.out).1).trans j8.out)
 have q1 := zf g4 j9
 clear g4 j9
 go_wp2_with (first
   | (refine wpList_load_row rfl _ _ rfl (w.heap.size + 1) rfl _ (icells (dig1 1) 0 (.slice (some ⟨w.heap.size, 0, none⟩) 1 1)) (0, 0) _ HG9.out Tryz.underlying29 rfl (by rw [yw, h3.out]) ?_)
   | (refine zet rfl (.agg (icells (dig1 1) 0 (.slice (some ⟨w.heap.size, 0, none⟩) 1 1))) (zdo (ty := 29) rfl rfl (zc5 HG9.out Tryz.underlying29 rfl (by rw [yw, h3.out]))) ?_)
   | fail)
 refine (zhe (dig1 1) 0 (.slice (some ⟨w.heap.size, 0, none⟩) 1 1) [wakC] (.slice (some ⟨W3.heap.size + 1 + 1, 0, none⟩) 1 1) [wakN (.slice (some ⟨W3.heap.size + 1, 0, none⟩) 1 1)] 0 w9 (HM.out.below HB9.out) rfl (by decide) k8.out (by decide) k9.out (by simp)).mono ?_
 rw [wak_ok]
 rintro e w10 ⟨q2, us2, rfl, g5, g2, hb10⟩
 rw [zvv] at g2
 have k0 : us2.length = 1 := by rw [← List.length_map (f := (·.1)), g2]; rfl
 obtain ⟨ua, uc, k1⟩ := g5.1.slice
 rw [k0] at k1
 subst k1
 have HB10 := zwh HB9 hb10
 clear g5 g2 hb10 k0
 go_wp2
 go_ret
 exact ⟨rfl, HB10.out⟩
theorem zqs (x n : Int) (w : World) (hx : (Lit.int .i64 x).wf = true) (h1 : 1 ≤ n) (h2 : n ≤ 1000000) :
  Calls Tryz.prog 15 #[.int .i64 x, .int .i64 n] w fun e w' => ∃ r : Nat, e = .returned (.int .i64 r) /\ (r : Int) < n /\ w' = w := by
 have hz : -9223372036854775808 ≤ x /\ x ≤ 9223372036854775807 := by simpa [Lit.wf, IntKind.min, IntKind.max, IntKind.signed, IntKind.bits] using hx
 obtain ⟨g0, g1⟩ := hz
 obtain ⟨t1, t2, t3, t4, t5⟩ := zi9 x n h1
 have h0 : ¬ n = 0 := by omega
 have e1 : IntKind.i64.wrap (x.tmod n) = x.tmod n := IntWalk.i64_in _ (by omega)
 have e2 : IntKind.i64.wrap (x.tmod n + n) = x.tmod n + n := IntWalk.i64_in _ (by omega)
 have e3 : (x.tmod n + n).tmod n = (x.tmod n + n) % n := Int.tmod_eq_emod_of_nonneg (by omega)
 have e4 : IntKind.i64.wrap ((x.tmod n + n) % n) = (x.tmod n + n) % n := IntWalk.i64_in _ (by omega)
 have HR : Hid (∃ r : Nat, (x.tmod n + n) % n = (r : Int) /\ (r : Int) < n) := zwg ⟨((x.tmod n + n) % n).toNat, by rw [Int.toNat_of_nonneg t4], by rw [Int.toNat_of_nonneg t4]; exact t5⟩
 clear hx
 go_enter Tryz.func15, Tryz.ntmps15
 go_wp2
 go_ret
 obtain ⟨r, h, h'⟩ := HR.out
 exact ⟨r, by rw [← h]; simp, h', rfl⟩
theorem zsp (w : World) :
  Calls Tryz.prog 60 #[] w fun e w' => e = .returned (.slice (some ⟨w.heap.size, 0, none⟩) 3 3) /\ w' = w.alloc (.cells #[.string ⟨#[119, 45, 49]⟩, .string ⟨#[119, 45, 50]⟩, .string ⟨#[119, 45, 51]⟩] 9) := by
 go_enter Tryz.func60, Tryz.ntmps60
 go_wp2
 go_ret
 exact ⟨rfl, rfl⟩
theorem zdw (w : World) :
  Calls Tryz.prog 24 #[] w fun e w' => e = .returned (.slice (some ⟨w.heap.size, 0, none⟩) 4 4) /\ w' = w.alloc (.cells #[.string ⟨#[122, 108, 105, 98]⟩, .string ⟨#[115, 115, 108]⟩, .string ⟨#[108, 105, 98, 115, 47, 112, 110, 103]⟩, .string ⟨#[97]⟩] 9) := by
 go_enter Tryz.func24, Tryz.ntmps24
 go_wp2
 go_ret
 exact ⟨rfl, rfl⟩
theorem zcu (a : Option Addr) (m cap q0 : Nat) (w : World) (ht : Nums w a m) (g0 : m ≤ cap) (g1 : q0 ≤ 1000) :
  Calls Tryz.prog 12 #[.slice a m cap, .int .i64 (q0 : Int)] w fun e w' => e = .returned (.pointer (some ⟨w.heap.size, 0, none⟩)) /\ Tape w' w.heap.size 0 /\ Below w.heap.size w w' /\ w.heap.size < w'.heap.size := by
 have HT := zwg ht
 have hl : Nums w a (min m q0) := ⟨by have := ht.1; omega, fun j hj => ht.2 j (by omega)⟩
 have HL := zwg hl
 obtain ⟨q, hq⟩ : ∃ q, q = min m q0 := ⟨_, rfl⟩
 rw [← hq] at HL
 have g2 : min (m : Int) (q0 : Int) = (q : Int) := by omega
 have g3 : (0 : Int) ≤ (q : Int) := by omega
 have g4 : (q : Int) ≤ (cap : Int) := by omega
 have hb : Below w.heap.size w (w.alloc (.cells #[.slice a q cap, .int .i64 0] 72)) := (zwj _ w).alloc (zwi _) _
 have HP : Hid (Tape (w.alloc (.cells #[.slice a q cap, .int .i64 0] 72)) w.heap.size 0) := zwg (Tape.made HL.out hb (zwi _) (by rw [World.cell?_alloc_new]; rfl) (by rw [World.cell?_alloc_new]; rfl) (by rw [qt, if_pos rfl]))
 have HB := zwg hb
 clear ht hl hq hb
 go_enter Tryz.func12, Tryz.ntmps12
 go_wp2
 go_ret
 exact ⟨rfl, HP.out, HB.out, by simp⟩
open Go.RowKit
theorem zcp {W : World} {X : Nat} {n : Int} {p : Option Addr} {m q : Nat} (h : W.heap[X]? = some (.cells #[.int .i64 n, .slice p m q] 68 (0, 0))) : W.cell? ⟨X, 0, none⟩ = some (.int .i64 n) /\ W.cell? ⟨X, 1, none⟩ = some (.slice p m q) :=
 ⟨zwf h 0, zwf h 1⟩
end Go.Proofs.YtbikeahmldobkaaGreatDoor
