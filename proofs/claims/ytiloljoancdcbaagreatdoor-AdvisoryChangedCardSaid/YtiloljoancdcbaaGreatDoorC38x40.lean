/-
  Lemmas for the law.
-/
import Derived.Test.YtiloljoancdcbaaGreatDoorC38x39
import Derived.RangeFuncLeaves
import Derived.WalkMore
set_option linter.all false
namespace Go.Proofs.YtiloljoancdcbaaGreatDoor
open Go.RowKit Go.Shelf
def ztn (Ds : List Nat) : List Deferred := Ds.map fun D => { target := .collected D, args := #[] }
def Marked (B : Nat) (Ds : List Nat) (W : World) : Prop := Ds.Nodup /\ ∀ D ∈ Ds, B ≤ D /\ W.heap[D]? = some (.deferred (some []))
theorem yx {F : Fence} {n : Nat} {P : Program} {fn : Func} {tmps : Array Value} {R : Ending -> World -> Prop} {T : World -> Prop} {B : Nat} (hT : ∀ D W, B ≤ D -> W.heap[D]? = some (.deferred (some [])) -> T W -> T (W.putObj D (.deferred none)))
  (hend : ∀ W, T W -> ∃ v, (results fn tmps).run P W = .ok v W /\ R (.returned v) W) : ∀ (Ds : List Nat) (W : World), Marked B Ds W -> T W -> LeavesInM F n P fn tmps R (ztn Ds) .returning W
 | [], W, _, h => hend W h
 | D :: Ds, W, hm, h => by
  obtain ⟨hnd, hd⟩ := hm
  obtain ⟨hB, hD⟩ := hd D (List.mem_cons_self ..)
  rw [List.nodup_cons] at hnd
  refine ⟨by simp, .inl ⟨D, _, rfl, run_takeDeferred hD, yx hT hend Ds _ ⟨hnd.2, fun D' h' => ?_⟩ (hT D W hB hD h)⟩⟩
  rw [World.putObj_heap_other (fun e => hnd.1 (by rw [← e]; exact h'))]
  exact hd D' (List.mem_cons_of_mem _ h')
theorem Marked.below {B : Nat} {Ds : List Nat} {w w' : World} (h : Marked B Ds w) (hb : Below w.heap.size w w') : Marked B Ds w' :=
 ⟨h.1, fun D hD => ⟨(h.2 D hD).1, (hb.block D (Array.getElem?_eq_some_iff.1 (h.2 D hD).2).1).trans (h.2 D hD).2⟩⟩
theorem Marked.cons {B : Nat} {Ds : List Nat} {w w' : World} {D : Nat} (h : Marked B Ds w) (hb : Below w.heap.size w w') (hB : B ≤ w.heap.size) (hD : w.heap.size ≤ D) (hd : w'.heap[D]? = some (.deferred (some []))) : Marked B (D :: Ds) w' := by
 have h2 := h.below hb
 refine ⟨List.nodup_cons.2 ⟨fun hm => ?_, h2.1⟩, fun D' h' => ?_⟩
 ·have := (Array.getElem?_eq_some_iff.1 (h.2 D hm).2).1
  omega
 ·rcases List.mem_cons.1 h' with rfl | h'
  ·exact ⟨Nat.le_trans hB hD, hd⟩
  ·exact h2.2 D' h'
theorem zms {W : World} {D : Nat} (hD : W.heap[D]? = some (.deferred (some []))) {b o : Nat} {v : Value} (h : W.cell? ⟨b, o, none⟩ = some v) : (W.putObj D (.deferred none)).cell? ⟨b, o, none⟩ = some v :=
 cell_kept h (grownBy_putObj' _ D (.deferred none)) (fun r e => by cases e; exact ⟨_, hD, rfl⟩)
theorem zm9 (W : World) (D : Nat) (o : Obj) : (W.putObj D o).heap.size = W.heap.size := by simp [World.putObj]
theorem Lines.mark {W : World} {D : Nat} (hD : W.heap[D]? = some (.deferred (some []))) {v : Value} {ls : List (List V.Bs)} (h : Lines W v ls) : Lines (W.putObj D (.deferred none)) v ls := by
 obtain ⟨a, cap, e, hc⟩ := h
 refine ⟨a, cap, e, fun j hj => ?_⟩
 obtain ⟨b, off, u, ea, hlt, hr, ⟨a2, cap2, e2, hc2⟩⟩ := hc j hj
 refine ⟨b, off, u, ea, by rw [zm9]; exact hlt, zms hD hr, ⟨a2, cap2, e2, fun i hi => ?_⟩⟩
 obtain ⟨b2, off2, ea2, hlt2, hr2⟩ := hc2 i hi
 exact ⟨b2, off2, ea2, by rw [zm9]; exact hlt2, zms hD hr2⟩
theorem cutB_any (c : UInt8) (g o cap b2 : Nat) (r : V.Bs) (w : World) (hm : zg w) (hl : r.length ≤ 1000000) (hcap : r.length ≤ cap) (h0 : 0 < r.length) (hc : ∀ j (h : j < r.length), w.cell? ⟨g, o + j, none⟩ = some (.int .u8 (r[j]).toNat)) (h2 : w.cell? ⟨b2, 0, none⟩ = some (.int .u8 c.toNat)) :
  Calls Tryz.prog 65 #[.slice (some ⟨g, o, none⟩) r.length cap, .slice (some ⟨b2, 0, none⟩) 1 1] w fun e w' => e = .returned (Lib.cutV (some ⟨g, o, none⟩) r.length cap 1 (Lib.indexByte r c)) /\ Below w.heap.size w w' := by
 have hge := Lib.indexByte_ge r c
 refine (Tryz.bytes_Cut_of (some ⟨g, o, none⟩) (some ⟨b2, 0, none⟩) r.length cap 1 1 (Lib.indexByte r c) w hcap (by omega) (fun h => ?_) (by omega) ((zi8 c g o cap b2 1 r w hc h2).mono ?_)).mono ?_
 ·obtain ⟨i, hi⟩ := Int.eq_ofNat_of_zero_le h
  have := (zes hi).2
  omega
 ·rintro e w' ⟨rfl, rfl⟩
  exact ⟨rfl, 0, rfl⟩
 ·rintro e w' ⟨rfl, q, rfl⟩
  exact ⟨rfl, below_drewN (zvu _ _) q⟩
attribute [local go_sem] Oper.semAt_some
theorem zoe (y : V.Bs) (w : World) (hs : y.length ≤ 1000000) : Calls Tryz.prog 67 #[.string ⟨y.toArray⟩] w fun e w' => e = .returned (.tuple #[.string ⟨(V.unwP y).1.toArray⟩, .bool (V.unwP y).2]) /\ Below w.heap.size w w' := by
 have := zls ⟨y.toArray⟩ w (by rw [ww]; exact hs)
 rwa [vh] at this
theorem zbn {w W : World} {D : Nat} (hB : w.heap.size ≤ D) (hD : W.heap[D]? = some (.deferred (some []))) (h : Below w.heap.size w W) : Below w.heap.size w (W.putObj D (.deferred none)) :=
 h.trans (belowK_b (w := w) (zvt _) W D _ _ hB hD rfl rfl)
theorem zbw (w : World) (b o : Nat) (u : Value) : w.grownBy (w.setCell ⟨b, o, none⟩ u) (some b) :=
 ⟨rfl, rfl, rfl, by simp [World.setCell], fun k _ hk => Below.heap_setCell _ _ _ _ (fun e => hk (by rw [e]))⟩
section
variable {α : Type} {enc : α -> List Value} {k : Nat} {T : TypeId}
theorem GRow.cellsAt {w : World} {N : Nat} {v : Value} {l : List α} (h : GRow T k enc w N v l) {b : Nat} (hb : v.ownBlock = some b) : ∃ cur, w.heap[b]? = some (.cells cur T (0, 0)) := by
 rcases h.2 with ⟨rfl, _⟩ | ⟨g, cap, cur, rfl, _, hg, _⟩
 ·cases hb
 ·simp [Value.ownBlock] at hb
  subst hb
  exact ⟨cur, hg⟩
theorem GRow.own {w w' : World} {N : Nat} {v : Value} {l : List α} (h : GRow T k enc w N v l) {row : Option Nat} (hg : w.grownBy w' row) (hr : ∀ r, row = some r -> ∃ o : Obj, w.heap[r]? = some o /\ o.isCells = false) : GRow T k enc w' N v l := by
 have hc := fun b (hb : v.ownBlock = some b) => h.cellsAt hb
 refine ⟨h.1, ?_⟩
 rcases h.2 with h2 | ⟨g, cap, cur, rfl, hb, hgg, rest⟩
 ·exact .inl h2
 ·refine .inr ⟨g, cap, cur, rfl, hb, ?_, rest⟩
  rw [hg.block g (Array.getElem?_eq_some_iff.1 hgg).1 (fun e => ?_)]
  ·exact hgg
  ·obtain ⟨o, ho, hoc⟩ := hr g e.symm
   rw [hgg] at ho
   cases ho
   cases hoc
theorem GRow.keepsO {w w' : World} {N : Nat} {v : Value} {l : List α} (h : GRow T k enc w N v l) (hg : w.grownBy w' v.ownBlock) : KeepsOthers w w' :=
 ⟨hg.size, fun i o ho hc => (hg.block i (Array.getElem?_eq_some_iff.1 ho).1 (fun e => by
   obtain ⟨cur, hcur⟩ := h.cellsAt e.symm
   rw [ho] at hcur
   cases hcur
   cases hc)).trans ho⟩
end
theorem zha {w w' : World} (h : Below w.heap.size w w') : KeepsOthers w w' := ⟨h.size, fun i _ ho _ => (h.block i (Array.getElem?_eq_some_iff.1 ho).1).trans ho⟩
theorem zm5 {B O : Nat} {w w' : World} (hB : B ≤ w.heap.size) (h : Below w.heap.size w w') : KpO B O w w' := ⟨h.size, fun q hq _ => h.block q (by omega)⟩
theorem kpO_own {β : Type} {B O C : Nat} {w₀ : World} (hB : B ≤ w₀.heap.size) (hC : B ≤ C) : OwnFrom C (fun (_ : β) W => KpO B O w₀ W) := fun _ W W' _ hs hg hr =>
 ⟨Nat.le_trans hs.1 hg.size, fun q hq hO => (hg.block q (by have := hs.1; omega) (fun e => by have := (hr q e.symm).1; omega)).trans (hs.2 q hq hO)⟩
theorem zr5 {F : Fence} {n : Nat} {ops : Array Oper} {rest : List Oper} {o : Oper} {a : Act} {w : World} {Q : Exit -> Act -> World -> Prop} (hgd : o.guard = none) (s x : Operand)
  (ho : o.op = .call { callee := .builtin .append, args := #[s, x], argTypes := #[47, 47] })
  (N : Nat) (v : Value) (l : List V.Bs) (hs : a.eval s = v) (hown : GRow 9 1 wrdE w N v l) (b : Nat) (c : V.Bs) (hx : a.eval x = .slice (some ⟨b, 0, none⟩) 1 1) (hr : ∀ j u, (wrdE c)[j]? = some u -> w.cell? ⟨b, j, none⟩ = some u) (hl : l.length ≤ 1000000) (hN : N ≤ w.heap.size)
  (h : ∀ v' w', GRow 9 1 wrdE w' N v' (l ++ [c]) -> w.grownBy w' v.ownBlock -> wpListIn F n Tryz.prog ops Q rest (a.put o.dst v') w') : wpListIn F n Tryz.prog ops Q (o :: rest) a w := by
 obtain ⟨ie, z, hie, hz, h1, h2, h3⟩ := wrdInfo
 refine wpListIn_append_own w hgd s x 47 ho N 9 ie z 1 16 Tryz.underlying47 hie hz h1 h2 h3 (by decide) v l.length (l.flatMap wrdE) hs hown ⟨b, 0, none⟩ 1 1 (wrdE c) hx rfl ?_ (wrdE_one c) (by unfold maxLen; omega) (by omega) hN ?_
 ·intro j u hj
  rw [Addr.add_mid, Nat.zero_add]
  exact hr j u hj
 ·intro v' w' ho' hg _
  refine h v' w' ?_ hg
  exact z0f
theorem zsw {α : Type} {enc : α -> List Value} {k : Nat} {T : TypeId} {F : Fence} {n : Nat} {ops : Array Oper} {rest : List Oper} {o : Oper} {a : Act} {w : World} {Q : Exit -> Act -> World -> Prop} (hk : ∀ x, (enc x).length = k) (hk0 : 0 < k) (h1c : ∀ x, ∀ u ∈ enc x, u.oneCell' = true) {bytes : Nat} (hi : xt T k bytes) (hby : bytes ≤ 1000) (hgd : o.guard = none) (s x : Operand) (S : TypeId)
  (ho : o.op = .call { callee := .builtin .append, args := #[s, x], argTypes := #[S, S] }) (hu : Tryz.prog.underlying S = some (.slice T))
  (N : Nat) (v : Value) (l : List α) (hs : a.eval s = v) (hown : GRow T k enc w N v l) (b : Nat) (c : α) (hx : a.eval x = .slice (some ⟨b, 0, none⟩) 1 1) (hr : ∀ j u, (enc c)[j]? = some u -> w.cell? ⟨b, j, none⟩ = some u) (hl : l.length ≤ 1000000) (hN : N ≤ w.heap.size)
  (h : ∀ v' w', GRow T k enc w' N v' (l ++ [c]) -> w.grownBy w' v.ownBlock -> (v'.ownBlock = v.ownBlock ∨ v'.ownBlock = some w.heap.size) -> wpListIn F n Tryz.prog ops Q rest (a.put o.dst v') w') : wpListIn F n Tryz.prog ops Q (o :: rest) a w := by
 obtain ⟨ie, z, hie, hz, h1, h2, h3⟩ := hi
 refine wpListIn_plain hgd fun K hK' => ?_
 obtain ⟨v', w', hrun, r1, r2, _, r4⟩ := run_append_own_at (P := Tryz.prog) w N S o.type T ie z k bytes hu hie hz h1 h2 h3 hk0 v l.length (l.flatMap enc) hown ⟨b, 0, none⟩ 1 1 (enc c) (by rw [hk]; omega) (fun j u hj => by
   rw [Addr.add_mid, Nat.zero_add]
   exact hr j u hj) (h1c c) (by unfold maxLen; omega) (by
     have : (l.length + 1) * bytes ≤ 1000001 * 1000 := Nat.mul_le_mul (by omega) hby
     omega) hN
 unfold Oper.wpIn
 refine ⟨?_, ?_⟩
 ·simp [Oper.about, ho, resolve, Target.leads, Sem.run_pure]
 ·rw [Oper.semAt_plain F _ _ (by rw [ho]; intro c hc'; cases hc')]
  simp [execOp, ho, resolve, invoke, builtin, hs, hx, hrun, Result.andThen]
  refine hK' _ _ (h v' w' ?_ r2 r4)
  unfold GRow
  rw [List.length_append, List.flatMap_append]
  simpa using r1
theorem Marked.setCell {B : Nat} {Ds : List Nat} {W : World} (h : Marked B Ds W) {b o : Nat} {v : Value} (hc : W.cell? ⟨b, o, none⟩ = some v) (u : Value) : Marked B Ds (W.setCell ⟨b, o, none⟩ u) :=
 ⟨h.1, fun D hD => ⟨(h.2 D hD).1, by
   rw [Below.heap_setCell _ _ _ _ (fun e => ?_)]
   · exact (h.2 D hD).2
   · have e : D = b := e
     subst e
     have hd := (h.2 D hD).2
     unfold World.cell? at hc
     rw [hd] at hc
     cases hc⟩⟩
theorem Marked.keeps {B : Nat} {Ds : List Nat} {W W' : World} (h : Marked B Ds W) (k : KeepsOthers W W') : Marked B Ds W' :=
 ⟨h.1, fun D hD => ⟨(h.2 D hD).1, k.same D _ (h.2 D hD).2 rfl⟩⟩
theorem zsx (w : World) (u : Lsl) : ∀ j v, (lslE u)[j]? = some v -> (w.alloc (.cells #[u.v] 47)).cell? ⟨w.heap.size, j, none⟩ = some v := fun j v h => by
 rw [World.cell?_alloc_new]
 simpa [lslE] using h
theorem zj4 : ∀ {xs l : List V.Bs} {x w : V.Bs}, V.jf xs = some l -> V.unwP x = (w, true) -> V.jf (xs ++ [x]) = some (l ++ [w])
 | [], l, x, w, h, hu => by
  cases h
  rcases V.zjc x with e | ⟨w', e, e2⟩
  ·rw [hu] at e; cases e
  ·rw [hu] at e
   cases e
   simp [V.jf, e2]
 | y :: xs, l, x, w, h, hu => by
  rw [V.jf] at h
  cases hy : V.unwR y with
  | none => rw [hy] at h; cases h
  | some wy =>
   rw [hy] at h
   simp only at h
   cases hr : V.jf xs with
   | none => rw [hr] at h; cases h
   | some l' =>
    rw [hr] at h
    cases h
    rw [List.cons_append, V.jf, hy, zj4 hr hu]
    rfl
theorem zj3 : ∀ {xs : List V.Bs} {x : V.Bs} {S : List V.Bs}, V.unwP x = ([], false) -> (xs ++ [x]) <+: S -> V.jf S = none
 | [], x, S, hu, hp => by
  obtain ⟨t, rfl⟩ := hp
  have e : V.unwR x = none := by
   unfold V.unwP at hu
   cases h : V.unwR x with
   | none => rfl
   | some w => rw [h] at hu; simp at hu
  simp [V.jf, e]
 | y :: xs, x, S, hu, hp => by
  obtain ⟨t, rfl⟩ := hp
  rw [List.cons_append, List.cons_append, V.jf, zj3 (xs := xs) hu ⟨t, rfl⟩]
  cases V.unwR y <;> rfl
def Rest (g off : Nat) (bs : V.Bs) (bv : Value) (r : V.Bs) : Prop := ∃ p ra rc, bv = .slice ra r.length rc /\ r = bs.drop p /\ p + r.length = bs.length /\ (0 < r.length -> ra = some ⟨g, off + p, none⟩ /\ r.length ≤ rc)
theorem cut_rest {g off : Nat} {bs r : V.Bs} {p rc : Nat} (hr : r = bs.drop p) (hp : p + r.length = bs.length) (hc : r.length ≤ rc) :
  ∃ L c1 ra n c fb, Lib.cutV (some ⟨g, off + p, none⟩) r.length rc 1 (Lib.indexByte r 10) = .tuple #[.slice (some ⟨g, off + p, none⟩) L.length c1, .slice ra n c, .bool fb] /\ L.length ≤ c1 /\ L.length ≤ r.length /\ (∀ j (h : j < L.length), bs[p + j]? = some L[j]) /\
   (fb = true -> ∃ r', Rest g off bs (.slice ra n c) r' /\ V.ze 10 r = L :: V.ze 10 r' /\ r'.length < r.length) /\ (fb = false -> V.ze 10 r = [L] /\ L = r) := by
 have hge := Lib.indexByte_ge r 10
 by_cases hm : Lib.indexByte r 10 = -1
 ·refine ⟨r, rc, none, 0, 0, false, by rw [hm]; rfl, hc, zvt _, fun j h => ?_, fun e => (by cases e), fun _ => ⟨zqn hm, rfl⟩⟩
  subst hr
  rw [List.getElem_drop, List.getElem?_eq_getElem]
 ·obtain ⟨i, hi⟩ := Int.eq_ofNat_of_zero_le (show 0 ≤ Lib.indexByte r 10 by omega)
  obtain ⟨hs, hlt⟩ := zes hi
  have htl : (r.take i).length = i := by rw [List.length_take]; omega
  have hdl : (r.drop (i + 1)).length = r.length - (i + 1) := List.length_drop
  refine ⟨r.take i, rc, if rc = i + 1 then some ⟨g, off + p, none⟩ else some (Addr.add ⟨g, off + p, none⟩ (i + 1)), r.length - (i + 1), rc - (i + 1), true, ?_, by omega, by omega, fun j h => ?_, fun _ => ⟨r.drop (i + 1), ⟨p + (i + 1), _, rc - (i + 1), by rw [hdl], by rw [hr, List.drop_drop], by omega, fun h => ?_⟩, hs, by omega⟩, fun e => (by cases e)⟩
  ·rw [hi, htl]
   unfold Lib.cutV Lib.fromV
   rw [if_pos (by omega)]
   simp only [Option.map_some]
   rfl
  ·have hj : j < r.length := by omega
   rw [List.getElem_take]
   subst hr
   rw [List.getElem_drop, List.getElem?_eq_getElem]
  ·rw [hdl] at h
   refine ⟨?_, by omega⟩
   rw [if_neg (by omega), Addr.add_mid, Nat.add_assoc]
theorem zpn {S : List V.Bs} {ls : List (List V.Bs)} {r r' L : V.Bs} (h : V.js S = (V.js (V.ze 10 r)).map (ls ++ ·)) (hs : V.ze 10 r = L :: V.ze 10 r') :
  (V.jf (V.ze 32 L) = none -> V.js S = none) /\ (∀ l, V.jf (V.ze 32 L) = some l -> ¬ V.chk l = 0 -> V.js S = none) /\
  (∀ l, V.jf (V.ze 32 L) = some l -> V.chk l = 0 -> V.js S = (V.js (V.ze 10 r')).map ((ls ++ [l]) ++ ·)) := by
 rw [hs, V.zd2 (V.zda 10 r')] at h
 refine ⟨fun e => by rw [h, e]; rfl, fun l e hc => by rw [h, e]; simp [hc], fun l e hc => ?_⟩
 rw [h, e]
 simp only [hc, if_true]
 cases V.js (V.ze 10 r') <;> simp
theorem zm0 {S : List V.Bs} {ls : List (List V.Bs)} {r L : V.Bs} (h : V.js S = (V.js (V.ze 10 r)).map (ls ++ ·)) (hs : V.ze 10 r = [L]) (h0 : L ≠ []) : V.js S = none := by
 rw [h, hs]
 simp [V.js, h0]
end Go.Proofs.YtiloljoancdcbaaGreatDoor
