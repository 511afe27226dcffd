/-
  Lemmas for the law.
-/
import Derived.Test.YtbikeahmldobkaaGreatDoorC41x04
import Derived.RangeFuncNested
import Derived.RangeFuncBound
import Derived.RangeFuncCalls
import Derived.RangeFuncLeaves
import Derived.Shelf.Abstract
import Derived.WalkKit
import Derived.OwnWalkIn
import Derived.TacticsInMore
import Derived.LoopNIn
import Derived.LoopIn
set_option linter.all false
set_option maxRecDepth 100000
set_option maxHeartbeats 1000000
namespace Go.Proofs.YtbikeahmldobkaaGreatDoor
open Go.RowKit
variable {F : Fence} {n : Nat} {P : Program}
def recd (fn : FuncId) (t : Array Value) (ps : Array Tmp) (assign body : Code) (B : Nat) (st : LoopState) (pe : Option Code) : Loop :=
 { state := st, pending := pe, fn := fn, tmps := t, params := ps, assign := assign, body := body, defers := B }
structure Booked (B : Nat) (r : Loop) (W : World) : Prop where
 at1 : W.heap[B + 1]? = some (.loop r)
 at0 : W.heap[B]? = some (.deferred (some []))
theorem Booked.fresh (w : World) (r : Loop) : Booked w.heap.size r ((w.alloc (.deferred (some []))).alloc (.loop r)) where
 at1 := by have := World.alloc_heap_new (w.alloc (.deferred (some []))) (.loop r); simpa using this
 at0 := (Below.heap_alloc _ _ _ (by simp)).trans (World.alloc_heap_new w _)
theorem Booked.lt {B : Nat} {r : Loop} {W : World} (h : Booked B r W) : B + 1 < W.heap.size := (Array.getElem?_eq_some_iff.1 h.at1).1
theorem Booked.cell {B : Nat} {r : Loop} {W : World} (h : Booked B r W) {b : Nat} (hb : b < B) (v : Value) : Booked B r (W.setCell ⟨b, 0, none⟩ v) where
 at1 := (Below.heap_setCell W ⟨b, 0, none⟩ v _ (show B + 1 ≠ b by omega)).trans h.at1
 at0 := (Below.heap_setCell W ⟨b, 0, none⟩ v _ (show B ≠ b by omega)).trans h.at0
theorem Booked.keep {B : Nat} {r : Loop} {W W' : World} (h : Booked B r W) (k : KeepsOthers W W') : Booked B r W' := ⟨k.same _ _ h.at1 rfl, k.same _ _ h.at0 rfl⟩
theorem Booked.turn {B : Nat} {r : Loop} {W : World} (h : Booked B r W) (r' : Loop) : Booked B r' (W.putObj (B + 1) (.loop r')) :=
 ⟨World.putObj_heap_same h.lt, (World.putObj_heap_other (by omega)).trans h.at0⟩
theorem Booked.own {β : Type} {B : Nat} {r : Loop} {W : World} {I : β -> World -> Prop} {s : β} (h : Booked B r W) (hI : OwnFrom B I) (hi : I s W) (r' : Loop) : I s (W.putObj (B + 1) (.loop r')) :=
 hI.putObj _ hi (Nat.le_succ B) h.at1 rfl
theorem Booked.ends {B : Nat} {fn : FuncId} {t : Array Value} {ps : Array Tmp} {assign body : Code} {W : World} (h : Booked B (recd fn t ps assign body B .busy none) W) (jump : Option Code) :
  (Instr.endRound (B + 1) jump).run P W = .ok (.bool jump.isNone) (W.putObj (B + 1) (.loop (recd fn t ps assign body B (if jump.isNone then .ready else .done) jump))) :=
 run_endRound (P := P) jump h.at1
theorem Booked.over {B : Nat} {fn : FuncId} {t : Array Value} {ps : Array Tmp} {assign body : Code} {W : World} {st : LoopState} {pe : Option Code} (h : Booked B (recd fn t ps assign body B st pe) W) (hst : st ≠ .busy) :
  ∃ r', (Instr.endLoop (B + 1)).run P W = .ok pe (W.putObj (B + 1) (.loop r')) :=
 ⟨_, run_endLoop (P := P) h.at1 hst⟩
def Hands {α : Type} (F : Fence) (n : Nat) (P : Program) (g : Nat) (lb : Array Value) (encs : α -> Array Value) (Kp : World -> World -> Prop) (S Sp : List α -> Prop) (Ok : α -> Prop) (w : World) (b : Nat) : Prop :=
 ∀ (l : Nat) (J Jx : List α -> World -> Prop) (W : World), Below w.heap.size w W -> (∀ s A v, J s A -> J s (A.setCell ⟨b, 0, none⟩ v)) ->
  (∀ pre x W1, J pre W1 -> Ok x -> YieldAt F (n - 1) P l (encs x) W1 fun e W' =>
    (e = .returned (.bool true) /\ J (pre ++ [x]) W' /\ Kp W1 W') ∨ (e = .returned (.bool false) /\ Jx (pre ++ [x]) W')) ->
  J [] W ->
  CallsIn F n P g (#[.func (.yield l) #[] #[]] ++ lb) W fun e W' => (∃ v, e = .returned v) /\ ((∃ xs, S xs /\ J xs W') ∨ (∃ pre, Sp pre /\ Jx pre W'))
structure Round {α : Type} (F : Fence) (n : Nat) (P : Program) (B b : Nat) (ps : Array Tmp) (t : Array Value) (assign body : Code) (encs : α -> Array Value) (Kp : World -> World -> Prop) (Ok : α -> Prop) (I : List α -> World -> Prop) (Ix : Code -> List α -> World -> Prop) (act : α -> Act) : Prop where
 own : OwnFrom B I
 ownx : ∀ c, OwnFrom B (Ix c)
 state : ∀ s A v, I s A -> I s (A.setCell ⟨b, 0, none⟩ v)
 assigned : ∀ (l : Nat) (x : α) (W : World) (K : Act -> World -> Prop), K (act x) W ->
  assign.wpIn (F.inRound l) (n - 1 - 1) P (Exit.then K (fun _ _ _ => False)) { tmps := (ps.zip (encs x)).foldl (fun t (p, v) => t.setIfInBounds p v) t, defers := [] } W
 run : ∀ (l : Nat) (pre : List α) (x : α) (W : World), I pre W -> Ok x -> body.wpIn (F.inRound l) (n - 1 - 1) P (ownPostK Kp I Ix (pre ++ [x]) W) (act x) W
theorem Round.yields {α : Type} {B b : Nat} {ps : Array Tmp} {t : Array Value} {assign body : Code} {encs : α -> Array Value} {Kp : World -> World -> Prop} {Ok : α -> Prop} {I : List α -> World -> Prop} {Ix : Code -> List α -> World -> Prop} {act : α -> Act}
  (h : Round F n P B b ps t assign body encs Kp Ok I Ix act) {fn : FuncId} (hfn : F.fn fn) (hps : ∀ x, (encs x).size = ps.size)
  (hKt : ∀ {A C D : World}, Kp A C -> Kp C D -> Kp A D) (hKb : ∀ (W : World) (l : Nat) (o o' : Obj), B ≤ l -> W.heap[l]? = some o -> o.isCells = false -> o.isWalk = false -> Kp W (W.putObj l o'))
  {pre : List α} {x : α} {W : World} (hi : I pre W) (hB : Booked B (recd fn t ps assign body B .ready none) W) (hx : Ok x) :
  YieldAt F (n - 1 - 1) P (B + 1) (encs x) W fun e W' =>
   (e = .returned (.bool true) /\ (I (pre ++ [x]) W' /\ Booked B (recd fn t ps assign body B .ready none) W') /\ Kp W W') ∨
   (e = .returned (.bool false) /\ ∃ c, Ix c (pre ++ [x]) W' /\ Booked B (recd fn t ps assign body B .done (some c)) W') := by
 have hbusy := hB.turn (recd fn t ps assign body B .busy none)
 have hk0 := hKb W (B + 1) _ (.loop (recd fn t ps assign body B .busy none)) (Nat.le_succ B) hB.at1 rfl rfl
 refine ⟨fn, _, assign, body, run_yield (P := P) (args := encs x) hB.at1 (hps x), roundIn_of_wpIn hfn (h.assigned _ x W _ ⟨_, run_beginRound hB.at1 rfl, ?_⟩)⟩
 refine wpIn_mono (h.run _ pre x _ (hB.own h.own hi _) hx) fun e a3 W3 hp => ?_
 have left : ∀ c, KeepsOthers (W.putObj (B + 1) (.loop (recd fn t ps assign body B .busy none))) W3 -> Ix c (pre ++ [x]) W3 ->
   ∃ c', Ix c' (pre ++ [x]) (W3.putObj (B + 1) (.loop (recd fn t ps assign body B .done (some c)))) /\ Booked B (recd fn t ps assign body B .done (some c')) (W3.putObj (B + 1) (.loop (recd fn t ps assign body B .done (some c)))) :=
  fun c k hx => ⟨c, (hbusy.keep k).own (h.ownx c) hx _, (hbusy.keep k).turn _⟩
 cases e with
 | normal => exact ⟨_, _, (hbusy.keep hp.1).ends none, .inl ⟨rfl, ⟨(hbusy.keep hp.1).own h.own hp.2.2 _, (hbusy.keep hp.1).turn _⟩, hKt (hKt hk0 hp.2.1) (hKb _ _ _ _ (Nat.le_succ B) (hbusy.keep hp.1).at1 rfl rfl)⟩⟩
 | ret => exact ⟨_, _, (hbusy.keep hp.1).ends (some .ret), .inr ⟨rfl, left _ hp.1 hp.2⟩⟩
 | exit id => exact ⟨_, _, (hbusy.keep hp.1).ends (some (.exit id)), .inr ⟨rfl, left _ hp.1 hp.2⟩⟩
 | goto c => exact ⟨_, _, (hbusy.keep hp.1).ends (some (.goto c)), .inr ⟨rfl, left _ hp.1 hp.2⟩⟩
 | panic ch => exact hp.elim
 | outgrown => exact hp.elim
theorem zpp {P : Prop} (h : P := by
 refine (hseq (w.heap.size + 1) (fun pre W => I pre W /\ Booked w.heap.size (recd fn a.tmps ps assign body w.heap.size .ready none) W)
   (fun pre W => ∃ c, Ix c pre W /\ Booked w.heap.size (recd fn a.tmps ps assign body w.heap.size .done (some c)) W) _ hbel
   (fun s A v hs => ⟨hr.state s A v hs.1, hs.2.cell hb v⟩) (fun pre x W hj hx => hr.yields hfn hps hKt hKb hj.1 hj.2 hx) ⟨hI1, hbk⟩).mono ?_
 rintro e W2 ⟨⟨v, rfl⟩, hend⟩
 rcases hend with ⟨xs, hS, hi, hk⟩ | ⟨pre, hSp, c, hi, hk⟩
 ·obtain ⟨r', he⟩ := hk.over (P := P) (by simp)
  exact ⟨none, _, he, hdone _ xs _ (zpc _) hS (hk.own hr.own hi _) (hk.turn _).at0⟩
 ·obtain ⟨r', he⟩ := hk.over (P := P) (by simp)
  exact ⟨some c, _, he, hstop _ c pre _ (zpc _) hSp (hk.own (hr.ownx c) hi _) (hk.turn _).at0⟩) : P := h
theorem uy {α : Type} {g : Operand} {ps : Array Tmp} {assign body : Code} {Q : Exit -> Act -> World -> Prop} {a : Act} {w : World}
  (hro : F.round = none) (h1 : 1 ≤ n) {gf : Nat} {lb : Array Value} (hg : a.eval g = .func (.func gf) #[] lb) (hFg : F.fn gf) (eg : ∀ args w, (callFunc gf args).run P w = .ok (.enter gf args) w)
  {encs : α -> Array Value} {Kp : World -> World -> Prop} {S Sp : List α -> Prop} {Ok : α -> Prop} {b : Nat} (hb : b < w.heap.size) (hseq : Hands F (n - 1) P gf lb encs Kp S Sp Ok w b)
  (hKt : ∀ {A B C : World}, Kp A B -> Kp B C -> Kp A C) (hKb : ∀ (W : World) (l : Nat) (o o' : Obj), w.heap.size ≤ l -> W.heap[l]? = some o -> o.isCells = false -> o.isWalk = false -> Kp W (W.putObj l o')) (hps : ∀ x, (encs x).size = ps.size)
  {I : List α -> World -> Prop} {Ix : Code -> List α -> World -> Prop} {act : α -> Act} (hr : Round F n P w.heap.size b ps a.tmps assign body encs Kp Ok I Ix act) (h0 : I [] w)
  (hdone : ∀ (D : Nat) (xs : List α) (W : World), w.heap.size ≤ D -> S xs -> I xs W -> W.heap[D]? = some (.deferred (some [])) -> Q .normal { a with defers := { target := .collected D, args := #[] } :: a.defers } W)
  (hstop : ∀ (D : Nat) (c : Code) (pre : List α) (W : World), w.heap.size ≤ D -> Sp pre -> Ix c pre W -> W.heap[D]? = some (.deferred (some [])) -> c.wpIn F n P Q { a with defers := { target := .collected D, args := #[] } :: a.defers } W) :
  (Code.rangeFunc g ps assign body).wpIn F n P Q a w := by
 refine wpIn_rangeFunc fun fn hfn => ?_
 have hbk := Booked.fresh w (recd fn a.tmps ps assign body w.heap.size .ready none)
 have hbel : Below w.heap.size w ((w.alloc (.deferred (some []))).alloc (.loop (recd fn a.tmps ps assign body w.heap.size .ready none))) := ((zpd _ w).alloc (zpc _) _).alloc (by simp) _
 have hI1 := hr.own.alloc (.loop (recd fn a.tmps ps assign body w.heap.size .ready none)) (hr.own.alloc (.deferred (some [])) h0)
 rw [hro]
 have hent := run_enterLoop_outer (P := P) (w := w) fn a.tmps ps assign body
 obtain ⟨W1, hW1⟩ : ∃ W1, W1 = (w.alloc (.deferred (some []))).alloc (.loop (recd fn a.tmps ps assign body w.heap.size .ready none)) := ⟨_, rfl⟩
 rw [← hW1] at hbk hbel hI1
 refine ⟨w.heap.size + 1, [{ target := .collected w.heap.size, args := #[] }], W1, { target := .fn (.func gf) lb, args := #[.func (.yield (w.heap.size + 1)) #[] #[]] }, W1, gf,
   #[.func (.yield (w.heap.size + 1)) #[] #[]] ++ lb, W1, by rw [hW1]; exact hent, ?called, ?led, ?entered, fun _ => h1, ?it⟩
 case called => simp only [resolve, hg]; simp [go_sem]
 case led => intro f' hf'; simp [Target.leads] at hf'; exact hf' ▸ hFg
 case entered => simp [invoke, go_sem, eg]
 case it =>
  exact zpp
open Go.RowKit Go.Shelf
attribute [local go_sem] Oper.semAt_some
def pcs (c : UInt8) (s : ByteArray) : List ByteArray := (V.zo c s.data.toList).map fun x => ⟨x.toArray⟩
theorem pcs_none {c : UInt8} {s : ByteArray} (h : c ∉ s.data.toList) : pcs c s = [s] := by
 unfold pcs; rw [V.yp h]; simp
theorem zls {c : UInt8} {s : ByteArray} {i : Nat} (h : Lib.indexByte s.data.toList c = i) : pcs c s = s.extract 0 i :: pcs c (s.extract (i + 1) s.size) /\ i < s.size := by
 have hm : c ∈ s.data.toList := by
  have := V.xu s.data.toList c
  rw [h] at this
  simpa using this.symm
 have hi : ((s.data.toList.takeWhile (· != c)).length) = i := by
  have h1 : Lib.index s.data.toList [c] = Lib.indexByte s.data.toList c := Lib.index_one s.data.toList c
  rw [V.index_one, if_pos hm, h] at h1
  omega
 have hlt := V.tw_lt hm
 rw [zi] at hlt
 refine ⟨?_, by omega⟩
 unfold pcs
 rw [V.yk hm, List.map_cons, hi, Lib.extract_to_end]
 congr 1
 apply ki
 rw [Lib.extract_data]
 have := V.zju s.data.toList (· != c)
 rw [hi] at this
 simp [this]
def strLen : Option Value -> Nat
 | some (.string s) => s.size
 | _ => 0
theorem zjv (n : Nat) (hn : 1 ≤ n) (l bS : Nat) (c : UInt8) (s : ByteArray) (hs : s.size ≤ maxLen) (J Jx : List ByteArray -> World -> Prop)
  (hJ : ∀ s A v, J s A -> J s (A.setCell ⟨bS, 0, none⟩ v))
  (hY : ∀ pre x W, J pre W -> x.size ≤ maxLen -> YieldAt Fence.wide (n - 1) Tryz.prog l #[.string x] W fun e W' =>
    (e = .returned (.bool true) /\ J (pre ++ [x]) W' /\ Below (bS + 3) W W') ∨ (e = .returned (.bool false) /\ Jx (pre ++ [x]) W'))
  (W : World) (hS : W.cell? ⟨bS, 0, none⟩ = some (.string s)) (hF : W.frozen? ⟨bS, 0, none⟩ = false) (hP : W.cell? ⟨bS + 1, 0, none⟩ = some (.string ⟨#[c]⟩)) (hV : W.cell? ⟨bS + 2, 0, none⟩ = some (.int .i64 0)) (h0 : J [] W) :
  CallsIn Fence.wide n Tryz.prog 246 #[.func (.yield l) #[] #[], .pointer (some ⟨bS + 1, 0, none⟩), .pointer (some ⟨bS, 0, none⟩), .pointer (some ⟨bS + 2, 0, none⟩)] W fun e W' => (∃ v, e = .returned v) /\
   ((∃ ys, ys = pcs c s /\ J ys W') ∨ (∃ pre, pre <+: pcs c s /\ Jx pre W')) := by
 unfold maxLen at hs
 have HJ := zpa hJ
 have HY := zpa hY
 clear hJ hY
 refine callsIn_of_wp Tryz.func246 rfl trivial ?_ rfl
 simp only [Tryz.ntmps246, List.size_toArray, List.length_cons, List.length_nil, Nat.reduceAdd, Nat.reduceSub, Array.replicate_succ, Array.replicate_zero, List.push_toArray, List.append_toArray, List.nil_append, List.cons_append]
 gi_wp2
 gi_loopw [7] (fun _ wr => ∃ (pre : List ByteArray) (r : ByteArray), wr.cell? ⟨bS, 0, none⟩ = some (.string r) /\ wr.frozen? ⟨bS, 0, none⟩ = false /\ wr.cell? ⟨bS + 1, 0, none⟩ = some (.string ⟨#[c]⟩) /\ wr.cell? ⟨bS + 2, 0, none⟩ = some (.int .i64 0) /\ r.size ≤ 9223372036854775807 /\ pcs c s = pre ++ pcs c r /\ J pre wr)
  (fun _ wr => strLen (wr.cell? ⟨bS, 0, none⟩))
 case atStart => exact ⟨[], s, hS, hF, hP, hV, by omega, rfl, h0⟩
 case round =>
  obtain ⟨pre, r, hS, hF, hP, hV, hr, hpc, hj⟩ := hrel
  have HPC := zpa hpc
  have HJS := zpa hj
  clear hpc hj
  have hcase : (Lib.indexByte r.data.toList c = -1 /\ pcs c r = [r]) ∨ ∃ i : Nat, Lib.indexByte r.data.toList c = i /\ i < r.size /\ pcs c r = r.extract 0 i :: pcs c (r.extract (i + 1) r.size) := by
   have hge := Lib.indexByte_ge r.data.toList c
   by_cases hm : Lib.indexByte r.data.toList c = -1
   ·refine .inl ⟨hm, pcs_none fun e => ?_⟩
    have := V.xu r.data.toList c
    rw [hm] at this
    simp [e] at this
   ·obtain ⟨i, hi⟩ := Int.eq_ofNat_of_zero_le (show 0 ≤ Lib.indexByte r.data.toList c by omega)
    exact .inr ⟨i, hi, (zls hi).2, (zls hi).1⟩
  rcases hcase with ⟨hi, hp⟩ | ⟨i, hi, hlt, hp⟩
  ·have HI := zpa hi
   have HP := zpa hp
   clear hi hp
   obtain ⟨fn, tmps, assign, body, hy, hR⟩ := HY.out pre r wr HJS.out (by unfold maxLen; omega)
   gi_wp2_with fail
   refine ⟨trivial, (callsIn_wide.2 (Tryz.strings_Index_one r c _)).mono ?_⟩
   rintro e w' ⟨rfl, rfl⟩
   simp only [HI.out]
   gi_wp2
   refine hR.mono ?_
   rintro e W3 (⟨rfl, hJ3, hk3⟩ | ⟨rfl, hJx3⟩)
   ·gi_wp2
    go_end0
    exact ⟨⟨_, rfl⟩, .inl ⟨_, rfl, by rw [HPC.out, HP.out]; exact hJ3⟩⟩
   ·gi_wp2
    go_end0
    exact ⟨⟨_, rfl⟩, .inr ⟨_, by rw [HPC.out, HP.out]; exact List.prefix_refl _, hJx3⟩⟩
  ·have HI := zpa hi
   have HP := zpa hp
   clear hi hp
   obtain ⟨fn, tmps, assign, body, hy, hR⟩ := HY.out pre (r.extract 0 i) wr HJS.out (by unfold maxLen; simp [ByteArray.size_extract]; omega)
   gi_wp2_with fail
   refine ⟨trivial, (callsIn_wide.2 (Tryz.strings_Index_one r c _)).mono ?_⟩
   rintro e w' ⟨rfl, rfl⟩
   simp only [HI.out]
   gi_wp2
   refine hR.mono ?_
   rintro e W3 (⟨rfl, hJ3, hk3⟩ | ⟨rfl, hJx3⟩)
   ·have hS3 := (hk3.cell (p := ⟨bS, 0, none⟩) (by show bS < bS + 3; omega)).trans hS
    have hF3 := (hk3.frozen (p := ⟨bS, 0, none⟩) (by show bS < bS + 3; omega)).trans hF
    have hP3 := (hk3.cell (p := ⟨bS + 1, 0, none⟩) (by show bS + 1 < bS + 3; omega)).trans hP
    have hV3 := (hk3.cell (p := ⟨bS + 2, 0, none⟩) (by show bS + 2 < bS + 3; omega)).trans hV
    gi_wp2
    go_roundw
    case rel =>
     refine ⟨pre ++ [r.extract 0 i], r.extract (i + 1) r.size, World.cell?_setCell_same _ _ _ hS3, ?_, ?_, ?_, by simp [ByteArray.size_extract]; omega, by rw [HPC.out, HP.out]; simp, HJ.out _ _ _ hJ3⟩
     ·rw [World.frozen?_setCell]; exact hF3
     ·rw [World.cell?_setCell_other _ _ _ _ (by simp)]; exact hP3
     ·rw [World.cell?_setCell_other _ _ _ _ (by simp)]; exact hV3
    case measure =>
     rw [World.cell?_setCell_same _ _ _ hS3, hS]
     simp [strLen, ByteArray.size_extract]; omega
   ·gi_wp2
    refine bodyPost_ret (results_none rfl _ _ _) rfl ?_
    exact ⟨⟨_, rfl⟩, .inr ⟨_, by rw [HPC.out, HP.out]; exact ⟨pcs c (r.extract (i + 1) r.size), by simp⟩, hJx3⟩⟩
theorem zbm (n : Nat) (hn : 1 ≤ n) (bS : Nat) (c : UInt8) (s : ByteArray) (hs : s.size ≤ maxLen) (w : World) (hb : bS + 2 < w.heap.size)
  (hS : w.cell? ⟨bS, 0, none⟩ = some (.string s)) (hF : w.frozen? ⟨bS, 0, none⟩ = false) (hP : w.cell? ⟨bS + 1, 0, none⟩ = some (.string ⟨#[c]⟩)) (hV : w.cell? ⟨bS + 2, 0, none⟩ = some (.int .i64 0)) :
  Hands Fence.wide n Tryz.prog 246 #[.pointer (some ⟨bS + 1, 0, none⟩), .pointer (some ⟨bS, 0, none⟩), .pointer (some ⟨bS + 2, 0, none⟩)] (fun x : ByteArray => #[.string x]) (Below (bS + 3)) (fun ys => ys = pcs c s) (fun pre => pre <+: pcs c s) (fun x => x.size ≤ maxLen) w bS := by
 intro l J Jx W hW hJ hY h0
 have hc := fun o => hW.cell (p := ⟨bS, o, none⟩) (show bS < w.heap.size by omega)
 have hc1 := fun o => hW.cell (p := ⟨bS + 1, o, none⟩) (show bS + 1 < w.heap.size by omega)
 have hc2 := fun o => hW.cell (p := ⟨bS + 2, o, none⟩) (show bS + 2 < w.heap.size by omega)
 refine (zjv n hn l bS c s hs J Jx hJ hY W ((hc 0).trans hS) ((hW.frozen (p := ⟨bS, 0, none⟩) (show bS < w.heap.size by omega)).trans hF) ((hc1 0).trans hP) ((hc2 0).trans hV) h0)
theorem zcf (s sep : ByteArray) (w : World) :
  Calls Tryz.prog 237 #[.string s, .string sep] w fun e w' =>
   e = .returned (.func (.func 246) #[] #[.pointer (some ⟨w.heap.size + 1, 0, none⟩), .pointer (some ⟨w.heap.size, 0, none⟩), .pointer (some ⟨w.heap.size + 2, 0, none⟩)]) /\
   w' = ((w.alloc (.cells #[.string s] 9)).alloc (.cells #[.string sep] 9)).alloc (.cells #[.int .i64 0] 3) := by
 go_enter Tryz.func237, Tryz.ntmps237
 go_wp2
 go_ret
 exact ⟨rfl, rfl⟩
end Go.Proofs.YtbikeahmldobkaaGreatDoor
