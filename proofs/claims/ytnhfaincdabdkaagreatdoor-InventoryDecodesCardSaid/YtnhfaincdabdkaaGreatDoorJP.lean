/-
  Plain Lean, no program: of which bytes versions consist.
  A range over an iterator that keeps its state in a cell of its own (strings.SplitSeq): the caller's law.
  Plain Lean, no program: components, inventories.
-/
import Derived.Test.YtnhfaincdabdkaaGreatDoorP5
import Derived.Test.YtnhfaincdabdkaaGreatDoorP3
import Derived.RangeFuncNested
import Derived.RangeFuncBound
import Derived.RangeFuncCalls
import Derived.RangeFuncLeaves
import Derived.Shelf.Abstract
import Derived.WalkKit
namespace Go.Proofs.YtnhfaincdabdkaaGreatDoor.V

def verB (c : UInt8) : Bool := kind [46, 43, 126, 45, 58] c

theorem split_bytes {P : UInt8 → Prop} (c : UInt8) (hc : P c) : ∀ l : Bs, (∀ x ∈ splitOn c l, ∀ b ∈ x, P b) → ∀ b ∈ l, P b
  | [], _, b, hb => by simp at hb
  | a :: l, h, b, hb => by
    unfold splitOn at h
    by_cases e : a = c
    · subst e
      simp only [beq_self_eq_true, if_true] at h
      rcases List.mem_cons.1 hb with rfl | hb
      · exact hc
      · exact split_bytes a hc l (fun x hx => h x (by simp [hx])) b hb
    · rw [if_neg (by simpa using e)] at h
      rcases hs : splitOn c l with _ | ⟨y, r⟩
      · exact absurd hs (splitOn_ne c l)
      · rw [hs] at h
        simp only at h
        rcases List.mem_cons.1 hb with rfl | hb
        · exact h (b :: y) (by simp) b (by simp)
        · exact split_bytes c hc l (fun x hx z hz => by
            rw [hs] at hx
            rcases List.mem_cons.1 hx with rfl | hx
            · exact h (a :: x) (by simp) z (by simp [hz])
            · exact h x (by simp [hx]) z hz) b hb

theorem tw_whole (c : UInt8) : ∀ l : Bs, c ∈ l → l = l.takeWhile (· != c) ++ c :: l.drop ((l.takeWhile (· != c)).length + 1)
  | [], h => by simp at h
  | b :: l, h => by
    by_cases e : b = c
    · subst e; simp 
    · have hb : (b != c) = true := by simpa using e
      have ih := tw_whole c l (by
        rcases List.mem_cons.1 h with h | h
        · exact absurd h.symm e
        · exact h)
      rw [List.takeWhile_cons, if_pos hb, List.length_cons, List.drop_succ_cons, List.cons_append, ← ih]
theorem cut_whole (c : UInt8) (l : Bs) (h : (cut1 c l).2.2 = true) : l = (cut1 c l).1 ++ c :: (cut1 c l).2.1 := by
  unfold cut1 at *
  by_cases hc : c ∈ l
  · rw [if_pos hc]; exact tw_whole c l hc
  · rw [if_neg hc] at h; cases h
theorem cut_none (c : UInt8) (l : Bs) (h : (cut1 c l).2.2 = false) : (cut1 c l).1 = l := by
  unfold cut1 at *
  split
  · rename_i hc; rw [if_pos hc] at h; cases h
  · rfl
theorem cut_bytes {P : UInt8 → Prop} (c : UInt8) (hc : P c) (l : Bs) (h1 : ∀ b ∈ (cut1 c l).1, P b) (h2 : (cut1 c l).2.2 = true → ∀ b ∈ (cut1 c l).2.1, P b) : ∀ b ∈ l, P b := by
  intro b hb
  rcases h : (cut1 c l).2.2 with _ | _
  · rw [cut_none c l h] at h1; exact h1 b hb
  · rw [cut_whole c l h] at hb
    rcases List.mem_append.1 hb with g | g
    · exact h1 b g
    · rcases List.mem_cons.1 g with rfl | g
      · exact hc
      · exact h2 h b g

theorem only_in {p : UInt8 → Bool} {l : Bs} (h : only p l = true) : ∀ b ∈ l, p b = true := by
  unfold only at h
  rw [Bool.and_eq_true, List.all_eq_true] at h
  exact h.1
theorem kind_mono {o o' : Bs} (ho : ∀ c ∈ o, c ∈ o') {c : UInt8} (h : kind o c = true) : kind o' c = true := by
  unfold kind at *
  rw [Bool.or_eq_true] at *
  rcases h with h | h
  · exact .inl h
  · exact .inr (by simpa using ho c (by simpa using h))
theorem numb_in {x : Bs} {e : Bool} (h : numb x e = true) : ∀ b ∈ x, verB b = true := fun b hb => by
  unfold numb digits at h
  rw [Bool.and_eq_true] at h
  have := only_in h.1 b hb
  unfold verB kind; rw [this]; simp
theorem ident_in {x : Bs} {e : Bool} (h : identOk e x = true) : ∀ b ∈ x, verB b = true := fun b hb => by
  unfold identOk at h
  rw [Bool.and_eq_true] at h
  exact kind_mono (by simp) (only_in h.1 b hb)
theorem idents_in {s : Bs} {e : Bool} (h : identifiers s e = true) : ∀ b ∈ s, verB b = true := by
  unfold identifiers at h
  rw [List.all_eq_true] at h
  exact split_bytes 46 (by decide +kernel) s fun x hx => ident_in (h x hx)
theorem dot_in {s : Bs} (h : dotOk s = true) : ∀ b ∈ s, verB b = true := by
  unfold dotOk at h
  rw [List.all_eq_true] at h
  exact split_bytes 46 (by decide +kernel) s fun x hx => numb_in (h x hx)
theorem sem_in {s : Bs} (h : (semParse s).isSome = true) : ∀ b ∈ s, verB b = true := by
  unfold semParse at h
  split at h
  · cases h
  · rename_i hn
    split at h
    · rename_i ha
      rw [List.all_eq_true] at ha
      simp only [Bool.or_eq_true, Bool.and_eq_true, Bool.not_eq_true', not_or, not_and, Bool.not_eq_false] at hn
      obtain ⟨⟨h1, h2⟩, _⟩ := hn
      refine cut_bytes 43 (by decide +kernel) s (cut_bytes 45 (by decide +kernel) _ (split_bytes 46 (by decide +kernel) _ fun x hx => numb_in (ha x hx)) fun e => idents_in (h2 e)) fun e => idents_in (h1 e)
    · cases h
theorem debTail_in {ep s : Bs} (h : (debTail ep s).isSome = true) : ∀ b ∈ s, verB b = true := by
  unfold debTail at h
  split at h
  · split at h
    · rename_i g
      rw [Bool.and_eq_true] at g
      exact fun b hb => kind_mono (by simp) (only_in g.1 b hb)
    · cases h
  · rename_i h0
    split at h
    · rename_i g1
      split at h
      · rename_i g2
        rw [Bool.and_eq_true] at g2
        have e1 := fun b hb => kind_mono (o' := [46, 43, 126, 45, 58]) (by simp) (only_in g2.1 b hb)
        have e2 := fun b hb => kind_mono (o' := [46, 43, 126, 45, 58]) (by simp [allow]) (only_in g1 b hb)
        unfold lastDash at *
        rcases Lib.lastIndexByte_spec ⟨s.toArray⟩ 45 with ⟨e, _⟩ | ⟨i, hi, e, hc, _⟩
        · rw [e] at h0; simp at h0
        · rw [e] at e1 e2
          have hi' : i < s.length := by rw [show (ByteArray.mk s.toArray).size = s.length by show s.toArray.size = _; simp] at hi; exact hi
          intro b hb
          rw [← List.take_append_drop i s, List.drop_eq_getElem_cons hi'] at hb
          rcases List.mem_append.1 hb with q | q
          · exact e1 b (by simpa using q)
          · rcases List.mem_cons.1 q with rfl | q
            · have : s[i] = 45 := by
                have e3 : (ByteArray.mk s.toArray).data[i]! = s[i] := by simp [hi']
                rw [e3] at hc
                exact UInt8.toNat_inj.1 (show s[i].toNat = 45 by omega)
              rw [this]; decide +kernel
            · exact e2 b (by simpa using q)
      · cases h
    · cases h
theorem deb_in {s : Bs} (h : (debParse s).isSome = true) : ∀ b ∈ s, verB b = true := by
  unfold debParse at h
  split at h
  · rename_i hc
    split at h
    · rename_i hn
      exact cut_bytes 58 (by decide +kernel) s (numb_in hn) fun _ => debTail_in h
    · cases h
  · exact debTail_in h
theorem valid_in {n : Int} {v : Bs} (h : valid n v = true) : ∀ b ∈ v, verB b = true := by
  unfold valid schOk at h
  rw [Bool.and_eq_true] at h
  obtain ⟨_, h⟩ := h
  repeat' split at h
  · exact sem_in h
  · exact deb_in h
  · exact dot_in h
  · cases h
theorem valid_not {n : Int} {v : Bs} (h : valid n v = true) {c : UInt8} (hc : verB c = false) : c ∉ v := fun g => by
  rw [valid_in h c g] at hc; cases hc
theorem valid_scheme {n : Int} {v : Bs} (h : valid n v = true) : n = 1 ∨ n = 2 ∨ n = 3 := by
  unfold valid schOk at h
  rw [Bool.and_eq_true] at h
  obtain ⟨_, h⟩ := h
  repeat' split at h
  all_goals first | (cases h; done) | omega
end Go.Proofs.YtnhfaincdabdkaaGreatDoor.V
namespace Go.Proofs.YtnhfaincdabdkaaGreatDoor
open Go.RowKit

variable {F : Fence} {n : Nat} {P : Program}

/-- the loop's record, told by where it stands -/
def recd (fn : FuncId) (t : Array Value) (ps : Array Tmp) (assign body : Code) (B : Nat) (st : LoopState) (pe : Option Code) : Loop :=
  { state := st, pending := pe, fn := fn, tmps := t, params := ps, assign := assign, body := body, defers := B }

/-- the two blocks that a range lays: the deferred calls at B, the record behind it -/
structure Booked (B : Nat) (r : Loop) (W : World) : Prop where
  at1 : W.heap[B + 1]? = some (.loop r)
  at0 : W.heap[B]? = some (.deferred (some []))

theorem Booked.fresh (w : World) (r : Loop) : Booked w.heap.size r ((w.alloc (.deferred (some []))).alloc (.loop r)) where
  at1 := by have := World.alloc_heap_new (w.alloc (.deferred (some []))) (.loop r); simpa using this
  at0 := (Below.heap_alloc _ _ _ (by simp)).trans (World.alloc_heap_new w _)

theorem Booked.lt {B : Nat} {r : Loop} {W : World} (h : Booked B r W) : B + 1 < W.heap.size := (Array.getElem?_eq_some_iff.1 h.at1).1

theorem Booked.cell {B : Nat} {r : Loop} {W : World} (h : Booked B r W) {b : Nat} (hb : b < B) (v : Value) : Booked B r (W.setCell ⟨b, 0, none⟩ v) where
  at1 := (Below.heap_setCell W ⟨b, 0, none⟩ v _ (show B + 1 ≠ b by omega)).trans h.at1
  at0 := (Below.heap_setCell W ⟨b, 0, none⟩ v _ (show B ≠ b by omega)).trans h.at0

theorem Booked.keep {B : Nat} {r : Loop} {W W' : World} (h : Booked B r W) (k : KeepsOthers W W') : Booked B r W' := ⟨k.same _ _ h.at1 rfl, k.same _ _ h.at0 rfl⟩

theorem Booked.turn {B : Nat} {r : Loop} {W : World} (h : Booked B r W) (r' : Loop) : Booked B r' (W.putObj (B + 1) (.loop r')) :=
  ⟨World.putObj_heap_same h.lt, (World.putObj_heap_other (by omega)).trans h.at0⟩

theorem Booked.own {β : Type} {B : Nat} {r : Loop} {W : World} {I : β → World → Prop} {s : β} (h : Booked B r W) (hI : OwnFrom B I) (hi : I s W) (r' : Loop) : I s (W.putObj (B + 1) (.loop r')) :=
  hI.putObj _ hi (Nat.le_succ B) h.at1 rfl

theorem Booked.ends {B : Nat} {fn : FuncId} {t : Array Value} {ps : Array Tmp} {assign body : Code} {W : World} (h : Booked B (recd fn t ps assign body B .busy none) W) (jump : Option Code) :
    (Instr.endRound (B + 1) jump).run P W = .ok (.bool jump.isNone) (W.putObj (B + 1) (.loop (recd fn t ps assign body B (if jump.isNone then .ready else .done) jump))) :=
  run_endRound (P := P) jump h.at1

theorem Booked.over {B : Nat} {fn : FuncId} {t : Array Value} {ps : Array Tmp} {assign body : Code} {W : World} {st : LoopState} {pe : Option Code} (h : Booked B (recd fn t ps assign body B st pe) W) (hst : st ≠ .busy) :
    ∃ r', (Instr.endLoop (B + 1)).run P W = .ok pe (W.putObj (B + 1) (.loop r')) :=
  ⟨_, run_endLoop (P := P) h.at1 hst⟩

/-- What such an iterator does for its caller: it hands out what it has, one by one, and between two of them it may write cell 0 of block b. J: what holds while the loop goes on; Jx: once the caller has left it. -/
def Hands {α : Type} (F : Fence) (n : Nat) (P : Program) (g : Nat) (lb : Array Value) (encs : α → Array Value) (Kp : World → World → Prop) (S Sp : List α → Prop) (Ok : α → Prop) (w : World) (b : Nat) : Prop :=
  ∀ (l : Nat) (J Jx : List α → World → Prop) (W : World), Below w.heap.size w W → (∀ s A v, J s A → J s (A.setCell ⟨b, 0, none⟩ v)) →
    (∀ pre x W1, J pre W1 → Ok x → YieldAt F (n - 1) P l (encs x) W1 fun e W' =>
      (e = .returned (.bool true) ∧ J (pre ++ [x]) W' ∧ Kp W1 W') ∨ (e = .returned (.bool false) ∧ Jx (pre ++ [x]) W')) →
    J [] W →
    CallsIn F n P g (#[.func (.yield l) #[] #[]] ++ lb) W fun e W' => (∃ v, e = .returned v) ∧ ((∃ xs, S xs ∧ J xs W') ∨ (∃ pre, Sp pre ∧ Jx pre W'))

/-- what a caller's loop shows: I between two rounds, Ix c once it is left by c -/
structure Round {α : Type} (F : Fence) (n : Nat) (P : Program) (B b : Nat) (ps : Array Tmp) (t : Array Value) (assign body : Code) (encs : α → Array Value) (Kp : World → World → Prop) (Ok : α → Prop) (I : List α → World → Prop) (Ix : Code → List α → World → Prop) (act : α → Act) : Prop where
  own : OwnFrom B I
  ownx : ∀ c, OwnFrom B (Ix c)
  state : ∀ s A v, I s A → I s (A.setCell ⟨b, 0, none⟩ v)
  assigned : ∀ (l : Nat) (x : α) (W : World) (K : Act → World → Prop), K (act x) W →
    assign.wpIn (F.inRound l) (n - 1 - 1) P (Exit.then K (fun _ _ _ => False)) { tmps := (ps.zip (encs x)).foldl (fun t (p, v) => t.setIfInBounds p v) t, defers := [] } W
  run : ∀ (l : Nat) (pre : List α) (x : α) (W : World), I pre W → Ok x → body.wpIn (F.inRound l) (n - 1 - 1) P (ownPostK Kp I Ix (pre ++ [x]) W) (act x) W

/-- one round, from the yield to its answer -/
theorem Round.yields {α : Type} {B b : Nat} {ps : Array Tmp} {t : Array Value} {assign body : Code} {encs : α → Array Value} {Kp : World → World → Prop} {Ok : α → Prop} {I : List α → World → Prop} {Ix : Code → List α → World → Prop} {act : α → Act}
    (h : Round F n P B b ps t assign body encs Kp Ok I Ix act) {fn : FuncId} (hfn : F.fn fn) (hps : ∀ x, (encs x).size = ps.size)
    (hKt : ∀ {A C D : World}, Kp A C → Kp C D → Kp A D) (hKb : ∀ (W : World) (l : Nat) (o o' : Obj), B ≤ l → W.heap[l]? = some o → o.isCells = false → o.isWalk = false → Kp W (W.putObj l o'))
    {pre : List α} {x : α} {W : World} (hi : I pre W) (hB : Booked B (recd fn t ps assign body B .ready none) W) (hx : Ok x) :
    YieldAt F (n - 1 - 1) P (B + 1) (encs x) W fun e W' =>
      (e = .returned (.bool true) ∧ (I (pre ++ [x]) W' ∧ Booked B (recd fn t ps assign body B .ready none) W') ∧ Kp W W') ∨
      (e = .returned (.bool false) ∧ ∃ c, Ix c (pre ++ [x]) W' ∧ Booked B (recd fn t ps assign body B .done (some c)) W') := by
  have hbusy := hB.turn (recd fn t ps assign body B .busy none)
  have hk0 := hKb W (B + 1) _ (.loop (recd fn t ps assign body B .busy none)) (Nat.le_succ B) hB.at1 rfl rfl
  refine ⟨fn, _, assign, body, run_yield (P := P) (args := encs x) hB.at1 (hps x), roundIn_of_wpIn hfn (h.assigned _ x W _ ⟨_, run_beginRound hB.at1 rfl, ?_⟩)⟩
  refine wpIn_mono (h.run _ pre x _ (hB.own h.own hi _) hx) fun e a3 W3 hp => ?_
  have left : ∀ c, KeepsOthers (W.putObj (B + 1) (.loop (recd fn t ps assign body B .busy none))) W3 → Ix c (pre ++ [x]) W3 →
      ∃ c', Ix c' (pre ++ [x]) (W3.putObj (B + 1) (.loop (recd fn t ps assign body B .done (some c)))) ∧ Booked B (recd fn t ps assign body B .done (some c')) (W3.putObj (B + 1) (.loop (recd fn t ps assign body B .done (some c)))) :=
    fun c k hx => ⟨c, (hbusy.keep k).own (h.ownx c) hx _, (hbusy.keep k).turn _⟩
  cases e with
  | normal => exact ⟨_, _, (hbusy.keep hp.1).ends none, .inl ⟨rfl, ⟨(hbusy.keep hp.1).own h.own hp.2.2 _, (hbusy.keep hp.1).turn _⟩, hKt (hKt hk0 hp.2.1) (hKb _ _ _ _ (Nat.le_succ B) (hbusy.keep hp.1).at1 rfl rfl)⟩⟩
  | ret => exact ⟨_, _, (hbusy.keep hp.1).ends (some .ret), .inr ⟨rfl, left _ hp.1 hp.2⟩⟩
  | exit id => exact ⟨_, _, (hbusy.keep hp.1).ends (some (.exit id)), .inr ⟨rfl, left _ hp.1 hp.2⟩⟩
  | goto c => exact ⟨_, _, (hbusy.keep hp.1).ends (some (.goto c)), .inr ⟨rfl, left _ hp.1 hp.2⟩⟩
  | panic ch => exact hp.elim
  | outgrown => exact hp.elim

/-- THE LOOP -/
theorem wpIn_range_hands {α : Type} {g : Operand} {ps : Array Tmp} {assign body : Code} {Q : Exit → Act → World → Prop} {a : Act} {w : World}
    (hro : F.round = none) (h1 : 1 ≤ n) {gf : Nat} {lb : Array Value} (hg : a.eval g = .func (.func gf) #[] lb) (hFg : F.fn gf) (eg : ∀ args w, (callFunc gf args).run P w = .ok (.enter gf args) w)
    {encs : α → Array Value} {Kp : World → World → Prop} {S Sp : List α → Prop} {Ok : α → Prop} {b : Nat} (hb : b < w.heap.size) (hseq : Hands F (n - 1) P gf lb encs Kp S Sp Ok w b)
    (hKt : ∀ {A B C : World}, Kp A B → Kp B C → Kp A C) (hKb : ∀ (W : World) (l : Nat) (o o' : Obj), w.heap.size ≤ l → W.heap[l]? = some o → o.isCells = false → o.isWalk = false → Kp W (W.putObj l o')) (hps : ∀ x, (encs x).size = ps.size)
    {I : List α → World → Prop} {Ix : Code → List α → World → Prop} {act : α → Act} (hr : Round F n P w.heap.size b ps a.tmps assign body encs Kp Ok I Ix act) (h0 : I [] w)
    (hdone : ∀ (D : Nat) (xs : List α) (W : World), w.heap.size ≤ D → S xs → I xs W → W.heap[D]? = some (.deferred (some [])) → Q .normal { a with defers := { target := .collected D, args := #[] } :: a.defers } W)
    (hstop : ∀ (D : Nat) (c : Code) (pre : List α) (W : World), w.heap.size ≤ D → Sp pre → Ix c pre W → W.heap[D]? = some (.deferred (some [])) → c.wpIn F n P Q { a with defers := { target := .collected D, args := #[] } :: a.defers } W) :
    (Code.rangeFunc g ps assign body).wpIn F n P Q a w := by
  refine wpIn_rangeFunc fun fn hfn => ?_
  have hbk := Booked.fresh w (recd fn a.tmps ps assign body w.heap.size .ready none)
  have hbel : Below w.heap.size w ((w.alloc (.deferred (some []))).alloc (.loop (recd fn a.tmps ps assign body w.heap.size .ready none))) := ((Below.refl _ w).alloc (Nat.le_refl _) _).alloc (by simp) _
  have hI1 := hr.own.alloc (.loop (recd fn a.tmps ps assign body w.heap.size .ready none)) (hr.own.alloc (.deferred (some [])) h0)
  rw [hro]
  have hent := run_enterLoop_outer (P := P) (w := w) fn a.tmps ps assign body
  obtain ⟨W1, hW1⟩ : ∃ W1, W1 = (w.alloc (.deferred (some []))).alloc (.loop (recd fn a.tmps ps assign body w.heap.size .ready none)) := ⟨_, rfl⟩
  rw [← hW1] at hbk hbel hI1
  refine ⟨w.heap.size + 1, [{ target := .collected w.heap.size, args := #[] }], W1, { target := .fn (.func gf) lb, args := #[.func (.yield (w.heap.size + 1)) #[] #[]] }, W1, gf,
    #[.func (.yield (w.heap.size + 1)) #[] #[]] ++ lb, W1, by rw [hW1]; exact hent, ?called, ?led, ?entered, fun _ => h1, ?it⟩
  case called => simp only [resolve, hg]; simp [go_sem]
  case led => intro f' hf'; simp [Target.leads] at hf'; exact hf' ▸ hFg
  case entered => simp [invoke, go_sem, eg]
  case it =>
    refine (hseq (w.heap.size + 1) (fun pre W => I pre W ∧ Booked w.heap.size (recd fn a.tmps ps assign body w.heap.size .ready none) W)
      (fun pre W => ∃ c, Ix c pre W ∧ Booked w.heap.size (recd fn a.tmps ps assign body w.heap.size .done (some c)) W) _ hbel
      (fun s A v hs => ⟨hr.state s A v hs.1, hs.2.cell hb v⟩) (fun pre x W hj hx => hr.yields hfn hps hKt hKb hj.1 hj.2 hx) ⟨hI1, hbk⟩).mono ?_
    rintro e W2 ⟨⟨v, rfl⟩, hend⟩
    rcases hend with ⟨xs, hS, hi, hk⟩ | ⟨pre, hSp, c, hi, hk⟩
    · obtain ⟨r', he⟩ := hk.over (P := P) (by simp)
      exact ⟨none, _, he, hdone _ xs _ (Nat.le_refl _) hS (hk.own hr.own hi _) (hk.turn _).at0⟩
    · obtain ⟨r', he⟩ := hk.over (P := P) (by simp)
      exact ⟨some c, _, he, hstop _ c pre _ (Nat.le_refl _) hSp (hk.own (hr.ownx c) hi _) (hk.turn _).at0⟩

end Go.Proofs.YtnhfaincdabdkaaGreatDoor
namespace Go.Proofs.YtnhfaincdabdkaaGreatDoor.V

/-- a component -/
structure Comp where
  par : Int
  sch : Int
  name : Bs
  ver : Bs
  dig : List Int
deriving DecidableEq

def compOk (c : Comp) : Bool := pathOk c.name && valid c.sch c.ver
/-- the component at place i may follow those before it -/
def compAt (l : List Comp) (i : Nat) (c : Comp) : Bool := compOk c && (decide (-1 ≤ c.par) && (decide (c.par < i) && !decide (c ∈ l.take i)))
def compsTo (l : List Comp) : Nat → Bool
  | 0 => true
  | k + 1 => compsTo l k && match l[k]? with | some c => compAt l k c | none => true
def headOk (art : List Int) (time : Int) (l : List Comp) : Bool := !decide (art = List.replicate 32 0) && (decide (0 ≤ time) && (decide (time ≤ 1099511627776) && decide (l.length ≤ 128)))
def invOk (art : List Int) (time : Int) (l : List Comp) : Bool := headOk art time l && compsTo l l.length

theorem compsTo_step {l : List Comp} {k : Nat} (h : k < l.length) : compsTo l (k + 1) = (compsTo l k && compAt l k l[k]) := by
  show (compsTo l k && match l[k]? with | some c => compAt l k c | none => true) = _
  rw [List.getElem?_eq_getElem h]
theorem compsTo_false {l : List Comp} : ∀ {m k : Nat}, k ≤ m → compsTo l k = false → compsTo l m = false
  | 0, k, h, e => by obtain rfl : k = 0 := by omega
                     exact e
  | m + 1, k, h, e => by
    by_cases g : k = m + 1
    · subst g; exact e
    · show (compsTo l m && _) = false
      rw [compsTo_false (by omega) e]; rfl
theorem compsTo_le {l : List Comp} {k m : Nat} (h : k ≤ m) (e : compsTo l m = true) : compsTo l k = true := by
  rcases hh : compsTo l k with _ | _
  · rw [compsTo_false h hh] at e; cases e
  · rfl
theorem compsTo_at {l : List Comp} {k : Nat} (e : compsTo l l.length = true) (h : k < l.length) : compAt l k l[k] = true := by
  have := compsTo_le (show k + 1 ≤ l.length by omega) e
  rw [compsTo_step h] at this
  exact (Bool.and_eq_true_iff.1 this).2
theorem compAt_iff {l : List Comp} {k : Nat} {c : Comp} : compAt l k c = true ↔ compOk c = true ∧ -1 ≤ c.par ∧ c.par < k ∧ c ∉ l.take k := by
  unfold compAt; simp [Bool.and_eq_true]
end Go.Proofs.YtnhfaincdabdkaaGreatDoor.V
