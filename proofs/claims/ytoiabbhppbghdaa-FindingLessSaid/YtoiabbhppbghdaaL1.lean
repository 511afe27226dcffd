/-
  A range over an iterator that keeps its state in a cell of its own (strings.SplitSeq): the caller's law.
-/
import Derived.RangeFuncNested
import Derived.RangeFuncBound
import Derived.RangeFuncCalls
import Derived.RangeFuncLeaves
import Derived.Shelf.Abstract
import Derived.WalkKit
namespace Go.Proofs.Ytoiabbhppbghdaa
open Go.RowKit

variable {F : Fence} {n : Nat} {P : Program}

/-- the loop's record, told by where it stands -/
def recd (fn : FuncId) (t : Array Value) (ps : Array Tmp) (assign body : Code) (B : Nat) (st : LoopState) (pe : Option Code) : Loop :=
  { state := st, pending := pe, fn := fn, tmps := t, params := ps, assign := assign, body := body, defers := B }

/-- the two blocks that a range lays: the deferred calls at B, the record behind it -/
structure Booked (B : Nat) (r : Loop) (W : World) : Prop where
  at1 : W.heap[B + 1]? = some (.loop r)
  at0 : W.heap[B]? = some (.deferred (some []))

theorem Booked.fresh (w : World) (r : Loop) : Booked w.heap.size r ((w.alloc (.deferred (some []))).alloc (.loop r)) where
  at1 := by have := World.alloc_heap_new (w.alloc (.deferred (some []))) (.loop r); simpa using this
  at0 := (Below.heap_alloc _ _ _ (by simp)).trans (World.alloc_heap_new w _)

theorem Booked.lt {B : Nat} {r : Loop} {W : World} (h : Booked B r W) : B + 1 < W.heap.size := (Array.getElem?_eq_some_iff.1 h.at1).1

theorem Booked.cell {B : Nat} {r : Loop} {W : World} (h : Booked B r W) {b : Nat} (hb : b < B) (v : Value) : Booked B r (W.setCell ⟨b, 0, none⟩ v) where
  at1 := (Below.heap_setCell W ⟨b, 0, none⟩ v _ (show B + 1 ≠ b by omega)).trans h.at1
  at0 := (Below.heap_setCell W ⟨b, 0, none⟩ v _ (show B ≠ b by omega)).trans h.at0

theorem Booked.keep {B : Nat} {r : Loop} {W W' : World} (h : Booked B r W) (k : KeepsOthers W W') : Booked B r W' := ⟨k.same _ _ h.at1 rfl, k.same _ _ h.at0 rfl⟩

theorem Booked.turn {B : Nat} {r : Loop} {W : World} (h : Booked B r W) (r' : Loop) : Booked B r' (W.putObj (B + 1) (.loop r')) :=
  ⟨World.putObj_heap_same h.lt, (World.putObj_heap_other (by omega)).trans h.at0⟩

theorem Booked.own {β : Type} {B : Nat} {r : Loop} {W : World} {I : β → World → Prop} {s : β} (h : Booked B r W) (hI : OwnFrom B I) (hi : I s W) (r' : Loop) : I s (W.putObj (B + 1) (.loop r')) :=
  hI.putObj _ hi (Nat.le_succ B) h.at1 rfl

theorem Booked.ends {B : Nat} {fn : FuncId} {t : Array Value} {ps : Array Tmp} {assign body : Code} {W : World} (h : Booked B (recd fn t ps assign body B .busy none) W) (jump : Option Code) :
    (Instr.endRound (B + 1) jump).run P W = .ok (.bool jump.isNone) (W.putObj (B + 1) (.loop (recd fn t ps assign body B (if jump.isNone then .ready else .done) jump))) :=
  run_endRound (P := P) jump h.at1

theorem Booked.over {B : Nat} {fn : FuncId} {t : Array Value} {ps : Array Tmp} {assign body : Code} {W : World} {st : LoopState} {pe : Option Code} (h : Booked B (recd fn t ps assign body B st pe) W) (hst : st ≠ .busy) :
    ∃ r', (Instr.endLoop (B + 1)).run P W = .ok pe (W.putObj (B + 1) (.loop r')) :=
  ⟨_, run_endLoop (P := P) h.at1 hst⟩

/-- What such an iterator does for its caller: it hands out what it has, one by one, and between two of them it may write cell 0 of block b. J: what holds while the loop goes on; Jx: once the caller has left it. -/
def Hands {α : Type} (F : Fence) (n : Nat) (P : Program) (g : Nat) (lb : Array Value) (encs : α → Array Value) (Kp : World → World → Prop) (S Sp : List α → Prop) (Ok : α → Prop) (w : World) (b : Nat) : Prop :=
  ∀ (l : Nat) (J Jx : List α → World → Prop) (W : World), Below w.heap.size w W → (∀ s A v, J s A → J s (A.setCell ⟨b, 0, none⟩ v)) →
    (∀ pre x W1, J pre W1 → Ok x → YieldAt F (n - 1) P l (encs x) W1 fun e W' =>
      (e = .returned (.bool true) ∧ J (pre ++ [x]) W' ∧ Kp W1 W') ∨ (e = .returned (.bool false) ∧ Jx (pre ++ [x]) W')) →
    J [] W →
    CallsIn F n P g (#[.func (.yield l) #[] #[]] ++ lb) W fun e W' => (∃ v, e = .returned v) ∧ ((∃ xs, S xs ∧ J xs W') ∨ (∃ pre, Sp pre ∧ Jx pre W'))

/-- what a caller's loop shows: I between two rounds, Ix c once it is left by c -/
structure Round {α : Type} (F : Fence) (n : Nat) (P : Program) (B b : Nat) (ps : Array Tmp) (t : Array Value) (assign body : Code) (encs : α → Array Value) (Kp : World → World → Prop) (Ok : α → Prop) (I : List α → World → Prop) (Ix : Code → List α → World → Prop) (act : α → Act) : Prop where
  own : OwnFrom B I
  ownx : ∀ c, OwnFrom B (Ix c)
  state : ∀ s A v, I s A → I s (A.setCell ⟨b, 0, none⟩ v)
  assigned : ∀ (l : Nat) (x : α) (W : World) (K : Act → World → Prop), K (act x) W →
    assign.wpIn (F.inRound l) (n - 1 - 1) P (Exit.then K (fun _ _ _ => False)) { tmps := (ps.zip (encs x)).foldl (fun t (p, v) => t.setIfInBounds p v) t, defers := [] } W
  run : ∀ (l : Nat) (pre : List α) (x : α) (W : World), I pre W → Ok x → body.wpIn (F.inRound l) (n - 1 - 1) P (ownPostK Kp I Ix (pre ++ [x]) W) (act x) W

/-- one round, from the yield to its answer -/
theorem Round.yields {α : Type} {B b : Nat} {ps : Array Tmp} {t : Array Value} {assign body : Code} {encs : α → Array Value} {Kp : World → World → Prop} {Ok : α → Prop} {I : List α → World → Prop} {Ix : Code → List α → World → Prop} {act : α → Act}
    (h : Round F n P B b ps t assign body encs Kp Ok I Ix act) {fn : FuncId} (hfn : F.fn fn) (hps : ∀ x, (encs x).size = ps.size)
    (hKt : ∀ {A C D : World}, Kp A C → Kp C D → Kp A D) (hKb : ∀ (W : World) (l : Nat) (o o' : Obj), B ≤ l → W.heap[l]? = some o → o.isCells = false → o.isWalk = false → Kp W (W.putObj l o'))
    {pre : List α} {x : α} {W : World} (hi : I pre W) (hB : Booked B (recd fn t ps assign body B .ready none) W) (hx : Ok x) :
    YieldAt F (n - 1 - 1) P (B + 1) (encs x) W fun e W' =>
      (e = .returned (.bool true) ∧ (I (pre ++ [x]) W' ∧ Booked B (recd fn t ps assign body B .ready none) W') ∧ Kp W W') ∨
      (e = .returned (.bool false) ∧ ∃ c, Ix c (pre ++ [x]) W' ∧ Booked B (recd fn t ps assign body B .done (some c)) W') := by
  have hbusy := hB.turn (recd fn t ps assign body B .busy none)
  have hk0 := hKb W (B + 1) _ (.loop (recd fn t ps assign body B .busy none)) (Nat.le_succ B) hB.at1 rfl rfl
  refine ⟨fn, _, assign, body, run_yield (P := P) (args := encs x) hB.at1 (hps x), roundIn_of_wpIn hfn (h.assigned _ x W _ ⟨_, run_beginRound hB.at1 rfl, ?_⟩)⟩
  refine wpIn_mono (h.run _ pre x _ (hB.own h.own hi _) hx) fun e a3 W3 hp => ?_
  have left : ∀ c, KeepsOthers (W.putObj (B + 1) (.loop (recd fn t ps assign body B .busy none))) W3 → Ix c (pre ++ [x]) W3 →
      ∃ c', Ix c' (pre ++ [x]) (W3.putObj (B + 1) (.loop (recd fn t ps assign body B .done (some c)))) ∧ Booked B (recd fn t ps assign body B .done (some c')) (W3.putObj (B + 1) (.loop (recd fn t ps assign body B .done (some c)))) :=
    fun c k hx => ⟨c, (hbusy.keep k).own (h.ownx c) hx _, (hbusy.keep k).turn _⟩
  cases e with
  | normal => exact ⟨_, _, (hbusy.keep hp.1).ends none, .inl ⟨rfl, ⟨(hbusy.keep hp.1).own h.own hp.2.2 _, (hbusy.keep hp.1).turn _⟩, hKt (hKt hk0 hp.2.1) (hKb _ _ _ _ (Nat.le_succ B) (hbusy.keep hp.1).at1 rfl rfl)⟩⟩
  | ret => exact ⟨_, _, (hbusy.keep hp.1).ends (some .ret), .inr ⟨rfl, left _ hp.1 hp.2⟩⟩
  | exit id => exact ⟨_, _, (hbusy.keep hp.1).ends (some (.exit id)), .inr ⟨rfl, left _ hp.1 hp.2⟩⟩
  | goto c => exact ⟨_, _, (hbusy.keep hp.1).ends (some (.goto c)), .inr ⟨rfl, left _ hp.1 hp.2⟩⟩
  | panic ch => exact hp.elim
  | outgrown => exact hp.elim

/-- THE LOOP -/
theorem wpIn_range_hands {α : Type} {g : Operand} {ps : Array Tmp} {assign body : Code} {Q : Exit → Act → World → Prop} {a : Act} {w : World}
    (hro : F.round = none) (h1 : 1 ≤ n) {gf : Nat} {lb : Array Value} (hg : a.eval g = .func (.func gf) #[] lb) (hFg : F.fn gf) (eg : ∀ args w, (callFunc gf args).run P w = .ok (.enter gf args) w)
    {encs : α → Array Value} {Kp : World → World → Prop} {S Sp : List α → Prop} {Ok : α → Prop} {b : Nat} (hb : b < w.heap.size) (hseq : Hands F (n - 1) P gf lb encs Kp S Sp Ok w b)
    (hKt : ∀ {A B C : World}, Kp A B → Kp B C → Kp A C) (hKb : ∀ (W : World) (l : Nat) (o o' : Obj), w.heap.size ≤ l → W.heap[l]? = some o → o.isCells = false → o.isWalk = false → Kp W (W.putObj l o')) (hps : ∀ x, (encs x).size = ps.size)
    {I : List α → World → Prop} {Ix : Code → List α → World → Prop} {act : α → Act} (hr : Round F n P w.heap.size b ps a.tmps assign body encs Kp Ok I Ix act) (h0 : I [] w)
    (hdone : ∀ (D : Nat) (xs : List α) (W : World), w.heap.size ≤ D → S xs → I xs W → W.heap[D]? = some (.deferred (some [])) → Q .normal { a with defers := { target := .collected D, args := #[] } :: a.defers } W)
    (hstop : ∀ (D : Nat) (c : Code) (pre : List α) (W : World), w.heap.size ≤ D → Sp pre → Ix c pre W → W.heap[D]? = some (.deferred (some [])) → c.wpIn F n P Q { a with defers := { target := .collected D, args := #[] } :: a.defers } W) :
    (Code.rangeFunc g ps assign body).wpIn F n P Q a w := by
  refine wpIn_rangeFunc fun fn hfn => ?_
  have hbk := Booked.fresh w (recd fn a.tmps ps assign body w.heap.size .ready none)
  have hbel : Below w.heap.size w ((w.alloc (.deferred (some []))).alloc (.loop (recd fn a.tmps ps assign body w.heap.size .ready none))) := ((Below.refl _ w).alloc (Nat.le_refl _) _).alloc (by simp) _
  have hI1 := hr.own.alloc (.loop (recd fn a.tmps ps assign body w.heap.size .ready none)) (hr.own.alloc (.deferred (some [])) h0)
  rw [hro]
  have hent := run_enterLoop_outer (P := P) (w := w) fn a.tmps ps assign body
  obtain ⟨W1, hW1⟩ : ∃ W1, W1 = (w.alloc (.deferred (some []))).alloc (.loop (recd fn a.tmps ps assign body w.heap.size .ready none)) := ⟨_, rfl⟩
  rw [← hW1] at hbk hbel hI1
  refine ⟨w.heap.size + 1, [{ target := .collected w.heap.size, args := #[] }], W1, { target := .fn (.func gf) lb, args := #[.func (.yield (w.heap.size + 1)) #[] #[]] }, W1, gf,
    #[.func (.yield (w.heap.size + 1)) #[] #[]] ++ lb, W1, by rw [hW1]; exact hent, ?called, ?led, ?entered, fun _ => h1, ?it⟩
  case called => simp only [resolve, hg]; simp [go_sem]
  case led => intro f' hf'; simp [Target.leads] at hf'; exact hf' ▸ hFg
  case entered => simp [invoke, go_sem, eg]
  case it =>
    refine (hseq (w.heap.size + 1) (fun pre W => I pre W ∧ Booked w.heap.size (recd fn a.tmps ps assign body w.heap.size .ready none) W)
      (fun pre W => ∃ c, Ix c pre W ∧ Booked w.heap.size (recd fn a.tmps ps assign body w.heap.size .done (some c)) W) _ hbel
      (fun s A v hs => ⟨hr.state s A v hs.1, hs.2.cell hb v⟩) (fun pre x W hj hx => hr.yields hfn hps hKt hKb hj.1 hj.2 hx) ⟨hI1, hbk⟩).mono ?_
    rintro e W2 ⟨⟨v, rfl⟩, hend⟩
    rcases hend with ⟨xs, hS, hi, hk⟩ | ⟨pre, hSp, c, hi, hk⟩
    · obtain ⟨r', he⟩ := hk.over (P := P) (by simp)
      exact ⟨none, _, he, hdone _ xs _ (Nat.le_refl _) hS (hk.own hr.own hi _) (hk.turn _).at0⟩
    · obtain ⟨r', he⟩ := hk.over (P := P) (by simp)
      exact ⟨some c, _, he, hstop _ c pre _ (Nat.le_refl _) hSp (hk.own (hr.ownx c) hi _) (hk.turn _).at0⟩

end Go.Proofs.Ytoiabbhppbghdaa
