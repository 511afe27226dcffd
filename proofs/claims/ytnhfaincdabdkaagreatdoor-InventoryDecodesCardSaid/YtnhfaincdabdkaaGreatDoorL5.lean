/-
  Plain Lean, no program: package URLs.
  A range over an iterator with state in a cell, as in L1: what the iterator promises of an element may speak of those before it.
-/
import Derived.Test.YtnhfaincdabdkaaGreatDoorJP
namespace Go.Proofs.YtnhfaincdabdkaaGreatDoor.V

def schName (n : Int) : Bs := if n = 1 then [115, 101, 109, 118, 101, 114] else if n = 2 then [100, 101, 98, 105, 97, 110] else if n = 3 then [100, 111, 116, 116, 101, 100] else []
def schNum (s : Bs) : Int := if s = schName 1 then 1 else if s = schName 2 then 2 else if s = schName 3 then 3 else 0
def pkg : Bs := [112, 107, 103, 58]
def purl (c : Comp) : Bs := pkg ++ schName c.sch ++ [47] ++ c.name ++ [64] ++ c.ver
/-- the package URL and the error -/
def purlR (c : Comp) : Bs × Int := if compOk c then (purl c, 0) else ([], 1)
def zeroDig : List Int := List.replicate 32 0
def lastAt (s : Bs) : Int := Lib.lastIndexByte ⟨s.toArray⟩ 64
def parsed (s : Bs) : Comp := ⟨-1, schNum (cut1 47 (s.drop 4)).1, (cut1 47 (s.drop 4)).2.1.take (lastAt (cut1 47 (s.drop 4)).2.1).toNat, (cut1 47 (s.drop 4)).2.1.drop ((lastAt (cut1 47 (s.drop 4)).2.1).toNat + 1), zeroDig⟩
/-- whether the marks are there -/
def marks (s : Bs) : Bool := Lib.hasPrefix s pkg && ((cut1 47 (s.drop 4)).2.2 && decide (0 ≤ lastAt (cut1 47 (s.drop 4)).2.1))
def parseP (s : Bs) : Option Comp := if marks s && compOk (parsed s) then some (parsed s) else none

theorem cut1_app {c : UInt8} : ∀ {a : Bs}, c ∉ a → ∀ b, cut1 c (a ++ c :: b) = (a, b, true) := by
  intro a h b
  have ht : (a ++ c :: b).takeWhile (· != c) = a := by
    induction a with
    | nil => simp
    | cons x a ih =>
      have hx : (x != c) = true := by
        have : x ≠ c := fun e => h (by simp [e])
        simpa using this
      rw [List.cons_append, List.takeWhile_cons, if_pos hx, ih (fun g => h (by simp [g]))]
  unfold cut1
  rw [if_pos (by simp), ht]
  simp
theorem lastAt_cases (s : Bs) : (lastAt s = -1 ∧ (64 : UInt8) ∉ s) ∨ ∃ i : Nat, i < s.length ∧ lastAt s = i ∧ s = s.take i ++ 64 :: s.drop (i + 1) ∧ (64 : UInt8) ∉ s.drop (i + 1) := by
  unfold lastAt
  have hsz : (ByteArray.mk s.toArray).size = s.length := by show s.toArray.size = _; simp
  have hat : ∀ j (h : j < s.length), (ByteArray.mk s.toArray).data[j]! = s[j] := fun j h => by simp [h]
  rcases Lib.lastIndexByte_spec ⟨s.toArray⟩ 64 with ⟨e, hn⟩ | ⟨i, hi, e, hc, hn⟩
  · refine .inl ⟨e, fun g => ?_⟩
    obtain ⟨j, hj, hs⟩ := List.mem_iff_getElem.1 g
    have := hn j (by rw [hsz]; exact hj)
    rw [hat j hj, hs] at this
    exact this rfl
  · rw [hsz] at hi hn
    rw [hat i hi] at hc
    have h64 : s[i] = 64 := UInt8.toNat_inj.1 (show s[i].toNat = 64 by omega)
    refine .inr ⟨i, hi, e, ?_, fun g => ?_⟩
    · conv => lhs; rw [← List.take_append_drop i s, List.drop_eq_getElem_cons hi, h64]
    · obtain ⟨j, hj, hs⟩ := List.mem_iff_getElem.1 g
      rw [List.getElem_drop] at hs
      have hj' : i + 1 + j < s.length := by simp at hj; omega
      have := hn (i + 1 + j) (by omega) hj'
      rw [hat _ hj', hs] at this
      exact this rfl
theorem lastAt_app {a b : Bs} (h : (64 : UInt8) ∉ b) : lastAt (a ++ 64 :: b) = a.length := by
  rcases lastAt_cases (a ++ 64 :: b) with ⟨_, hn⟩ | ⟨i, hi, e, hs, hn⟩
  · exact absurd (by simp) hn
  · rw [e]
    congr 1
    by_cases h1 : i = a.length
    · exact h1
    · exfalso
      by_cases h2 : i < a.length
      · refine hn ?_
        rw [List.drop_append_of_le_length (by omega)]
        simp
      · have hlen : i < a.length + 1 + b.length := by simp at hi; omega
        have h64 : (a ++ 64 :: b)[i]? = some 64 := by
          rw [hs, List.getElem?_append_right (by simp; omega)]
          have : i - (List.take i (a ++ 64 :: b)).length = 0 := by simp; omega
          rw [this]; rfl
        rw [List.getElem?_append_right (by omega), List.getElem?_cons, if_neg (by omega)] at h64
        exact h (List.mem_of_getElem? h64)
theorem schNum_name {n : Int} (h : n = 1 ∨ n = 2 ∨ n = 3) : schNum (schName n) = n := by
  rcases h with rfl | rfl | rfl <;> decide
theorem schNum_at {s : Bs} {k : Nat} (h1 : 1 ≤ k) (h3 : k ≤ 3) (he : s = schName k) : schNum s = k := by
  subst he; exact schNum_name (by omega)
theorem schNum_no {s : Bs} (h : ∀ j : Nat, 1 ≤ j → j < 4 → ¬ s = schName j) : schNum s = 0 := by
  have a : ¬ s = schName 1 := h 1 (by omega) (by omega)
  have b : ¬ s = schName 2 := h 2 (by omega) (by omega)
  have c : ¬ s = schName 3 := h 3 (by omega) (by omega)
  unfold schNum; rw [if_neg a, if_neg b, if_neg c]
theorem schName_num {s : Bs} (h : schNum s = 1 ∨ schNum s = 2 ∨ schNum s = 3) : schName (schNum s) = s := by
  unfold schNum at *
  split
  · rename_i e; exact e.symm
  · split
    · rename_i e; exact e.symm
    · split
      · rename_i e; exact e.symm
      · simp_all
theorem schName_slash {n : Int} : (47 : UInt8) ∉ schName n := by
  unfold schName
  repeat' split
  all_goals decide
theorem compOk_iff {c : Comp} : compOk c = true ↔ pathOk c.name = true ∧ valid c.sch c.ver = true := by unfold compOk; rw [Bool.and_eq_true]

theorem compOk_len {c : Comp} (h : compOk c = true) : c.name.length ≤ 200 ∧ c.ver.length ≤ 64 := by
  obtain ⟨h1, h2⟩ := compOk_iff.1 h
  unfold pathOk at h1
  unfold valid at h2
  simp only [Bool.and_eq_true, decide_eq_true_eq] at h1 h2
  exact ⟨h1.1.1.2, h2.1.2⟩
theorem schName_len (n : Int) : (schName n).length ≤ 6 := by
  unfold schName
  repeat' split
  all_goals decide

theorem parse_purl {c : Comp} (h : compOk c = true) : parseP (purl c) = some { c with par := -1, dig := zeroDig } := by
  obtain ⟨hp, hv⟩ := compOk_iff.1 h
  have hs := valid_scheme hv
  have hd : (purl c).drop 4 = schName c.sch ++ 47 :: (c.name ++ 64 :: c.ver) := by
    show (pkg ++ schName c.sch ++ [47] ++ c.name ++ [64] ++ c.ver).drop 4 = _
    simp [pkg]
  have hc : cut1 47 ((purl c).drop 4) = (schName c.sch, c.name ++ 64 :: c.ver, true) := by rw [hd]; exact cut1_app schName_slash _
  have hl : lastAt (c.name ++ 64 :: c.ver) = c.name.length := lastAt_app (valid_not hv (by decide +kernel))
  have hm : marks (purl c) = true := by
    unfold marks
    rw [hc, hl]
    have : Lib.hasPrefix (purl c) pkg = true := by simp [Lib.hasPrefix, purl, pkg]
    rw [this]; simp
  have hq : parsed (purl c) = { c with par := -1, dig := zeroDig } := by
    unfold parsed
    rw [hc]
    simp only
    rw [hl, schNum_name hs]
    simp
  unfold parseP
  rw [hm, hq, if_pos (by rw [Bool.true_and]; exact h)]
theorem purl_parse {s : Bs} {a : Comp} (h : parseP s = some a) : compOk a = true ∧ purl a = s ∧ a.par = -1 ∧ a.dig = zeroDig := by
  unfold parseP at h
  split at h
  · rename_i g
    rw [Bool.and_eq_true] at g
    obtain ⟨gm, gc⟩ := g
    simp only [Option.some.injEq] at h
    subst h
    refine ⟨gc, ?_, rfl, rfl⟩
    obtain ⟨_, hv⟩ := compOk_iff.1 gc
    have hs := valid_scheme hv
    unfold marks at gm
    rw [Bool.and_eq_true, Bool.and_eq_true] at gm
    obtain ⟨g1, g2, g3⟩ := gm
    have e1 := cut_whole 47 _ g2
    have hpre : s = pkg ++ s.drop 4 := by
      unfold Lib.hasPrefix at g1
      obtain ⟨t, ht⟩ := List.isPrefixOf_iff_prefix.1 g1
      rw [← ht]; simp [pkg]
    unfold purl parsed
    simp only
    have hn : schName (schNum (cut1 47 (s.drop 4)).1) = (cut1 47 (s.drop 4)).1 := schName_num hs
    rw [hn]
    rcases lastAt_cases (cut1 47 (s.drop 4)).2.1 with ⟨e, _⟩ | ⟨i, hi, e, e2, _⟩
    · rw [e] at g3; simp at g3
    · rw [e]
      simp only [Int.toNat_natCast]
      conv => rhs; rw [hpre, e1, e2]
      simp
  · cases h
end Go.Proofs.YtnhfaincdabdkaaGreatDoor.V
namespace Go.Proofs.YtnhfaincdabdkaaGreatDoor
open Go.RowKit

variable {F : Fence} {n : Nat} {P : Program}

/-- What such an iterator does for its caller: it hands out what it has, one by one, and between two of them it may write cell 0 of block b. J: what holds while the loop goes on; Jx: once the caller has left it. -/
def HandsP {α : Type} (F : Fence) (n : Nat) (P : Program) (g : Nat) (lb : Array Value) (encs : α → Array Value) (Kp : World → World → Prop) (S Sp : List α → Prop) (Ok : List α → α → Prop) (w : World) (b : Nat) : Prop :=
  ∀ (l : Nat) (J Jx : List α → World → Prop) (W : World), Below w.heap.size w W → (∀ s A v, J s A → J s (A.setCell ⟨b, 0, none⟩ v)) →
    (∀ pre x W1, J pre W1 → Ok pre x → YieldAt F (n - 1) P l (encs x) W1 fun e W' =>
      (e = .returned (.bool true) ∧ J (pre ++ [x]) W' ∧ Kp W1 W') ∨ (e = .returned (.bool false) ∧ Jx (pre ++ [x]) W')) →
    J [] W →
    CallsIn F n P g (#[.func (.yield l) #[] #[]] ++ lb) W fun e W' => (∃ v, e = .returned v) ∧ ((∃ xs, S xs ∧ J xs W') ∨ (∃ pre, Sp pre ∧ Jx pre W'))

/-- what a caller's loop shows: I between two rounds, Ix c once it is left by c -/
structure RoundP {α : Type} (F : Fence) (n : Nat) (P : Program) (B b : Nat) (ps : Array Tmp) (t : Array Value) (assign body : Code) (encs : α → Array Value) (Kp : World → World → Prop) (Ok : List α → α → Prop) (I : List α → World → Prop) (Ix : Code → List α → World → Prop) (act : α → Act) : Prop where
  own : OwnFrom B I
  ownx : ∀ c, OwnFrom B (Ix c)
  state : ∀ s A v, I s A → I s (A.setCell ⟨b, 0, none⟩ v)
  assigned : ∀ (l : Nat) (x : α) (W : World) (K : Act → World → Prop), K (act x) W →
    assign.wpIn (F.inRound l) (n - 1 - 1) P (Exit.then K (fun _ _ _ => False)) { tmps := (ps.zip (encs x)).foldl (fun t (p, v) => t.setIfInBounds p v) t, defers := [] } W
  run : ∀ (l : Nat) (pre : List α) (x : α) (W : World), I pre W → Ok pre x → body.wpIn (F.inRound l) (n - 1 - 1) P (ownPostK Kp I Ix (pre ++ [x]) W) (act x) W

/-- one round, from the yield to its answer -/
theorem RoundP.yields {α : Type} {B b : Nat} {ps : Array Tmp} {t : Array Value} {assign body : Code} {encs : α → Array Value} {Kp : World → World → Prop} {Ok : List α → α → Prop} {I : List α → World → Prop} {Ix : Code → List α → World → Prop} {act : α → Act}
    (h : RoundP F n P B b ps t assign body encs Kp Ok I Ix act) {fn : FuncId} (hfn : F.fn fn) (hps : ∀ x, (encs x).size = ps.size)
    (hKt : ∀ {A C D : World}, Kp A C → Kp C D → Kp A D) (hKb : ∀ (W : World) (l : Nat) (o o' : Obj), B ≤ l → W.heap[l]? = some o → o.isCells = false → o.isWalk = false → Kp W (W.putObj l o'))
    {pre : List α} {x : α} {W : World} (hi : I pre W) (hB : Booked B (recd fn t ps assign body B .ready none) W) (hx : Ok pre x) :
    YieldAt F (n - 1 - 1) P (B + 1) (encs x) W fun e W' =>
      (e = .returned (.bool true) ∧ (I (pre ++ [x]) W' ∧ Booked B (recd fn t ps assign body B .ready none) W') ∧ Kp W W') ∨
      (e = .returned (.bool false) ∧ ∃ c, Ix c (pre ++ [x]) W' ∧ Booked B (recd fn t ps assign body B .done (some c)) W') := by
  have hbusy := hB.turn (recd fn t ps assign body B .busy none)
  have hk0 := hKb W (B + 1) _ (.loop (recd fn t ps assign body B .busy none)) (Nat.le_succ B) hB.at1 rfl rfl
  refine ⟨fn, _, assign, body, run_yield (P := P) (args := encs x) hB.at1 (hps x), roundIn_of_wpIn hfn (h.assigned _ x W _ ⟨_, run_beginRound hB.at1 rfl, ?_⟩)⟩
  refine wpIn_mono (h.run _ pre x _ (hB.own h.own hi _) hx) fun e a3 W3 hp => ?_
  have left : ∀ c, KeepsOthers (W.putObj (B + 1) (.loop (recd fn t ps assign body B .busy none))) W3 → Ix c (pre ++ [x]) W3 →
      ∃ c', Ix c' (pre ++ [x]) (W3.putObj (B + 1) (.loop (recd fn t ps assign body B .done (some c)))) ∧ Booked B (recd fn t ps assign body B .done (some c')) (W3.putObj (B + 1) (.loop (recd fn t ps assign body B .done (some c)))) :=
    fun c k hx => ⟨c, (hbusy.keep k).own (h.ownx c) hx _, (hbusy.keep k).turn _⟩
  cases e with
  | normal => exact ⟨_, _, (hbusy.keep hp.1).ends none, .inl ⟨rfl, ⟨(hbusy.keep hp.1).own h.own hp.2.2 _, (hbusy.keep hp.1).turn _⟩, hKt (hKt hk0 hp.2.1) (hKb _ _ _ _ (Nat.le_succ B) (hbusy.keep hp.1).at1 rfl rfl)⟩⟩
  | ret => exact ⟨_, _, (hbusy.keep hp.1).ends (some .ret), .inr ⟨rfl, left _ hp.1 hp.2⟩⟩
  | exit id => exact ⟨_, _, (hbusy.keep hp.1).ends (some (.exit id)), .inr ⟨rfl, left _ hp.1 hp.2⟩⟩
  | goto c => exact ⟨_, _, (hbusy.keep hp.1).ends (some (.goto c)), .inr ⟨rfl, left _ hp.1 hp.2⟩⟩
  | panic ch => exact hp.elim
  | outgrown => exact hp.elim

/-- THE LOOP -/
theorem wpIn_range_handsP {α : Type} {g : Operand} {ps : Array Tmp} {assign body : Code} {Q : Exit → Act → World → Prop} {a : Act} {w : World}
    (hro : F.round = none) (h1 : 1 ≤ n) {gf : Nat} {lb : Array Value} (hg : a.eval g = .func (.func gf) #[] lb) (hFg : F.fn gf) (eg : ∀ args w, (callFunc gf args).run P w = .ok (.enter gf args) w)
    {encs : α → Array Value} {Kp : World → World → Prop} {S Sp : List α → Prop} {Ok : List α → α → Prop} {b : Nat} (hb : b < w.heap.size) (hseq : HandsP F (n - 1) P gf lb encs Kp S Sp Ok w b)
    (hKt : ∀ {A B C : World}, Kp A B → Kp B C → Kp A C) (hKb : ∀ (W : World) (l : Nat) (o o' : Obj), w.heap.size ≤ l → W.heap[l]? = some o → o.isCells = false → o.isWalk = false → Kp W (W.putObj l o')) (hps : ∀ x, (encs x).size = ps.size)
    {I : List α → World → Prop} {Ix : Code → List α → World → Prop} {act : α → Act} (hr : RoundP F n P w.heap.size b ps a.tmps assign body encs Kp Ok I Ix act) (h0 : I [] w)
    (hdone : ∀ (D : Nat) (xs : List α) (W : World), w.heap.size ≤ D → S xs → I xs W → W.heap[D]? = some (.deferred (some [])) → Q .normal { a with defers := { target := .collected D, args := #[] } :: a.defers } W)
    (hstop : ∀ (D : Nat) (c : Code) (pre : List α) (W : World), w.heap.size ≤ D → Sp pre → Ix c pre W → W.heap[D]? = some (.deferred (some [])) → c.wpIn F n P Q { a with defers := { target := .collected D, args := #[] } :: a.defers } W) :
    (Code.rangeFunc g ps assign body).wpIn F n P Q a w := by
  refine wpIn_rangeFunc fun fn hfn => ?_
  have hbk := Booked.fresh w (recd fn a.tmps ps assign body w.heap.size .ready none)
  have hbel : Below w.heap.size w ((w.alloc (.deferred (some []))).alloc (.loop (recd fn a.tmps ps assign body w.heap.size .ready none))) := ((Below.refl _ w).alloc (Nat.le_refl _) _).alloc (by simp) _
  have hI1 := hr.own.alloc (.loop (recd fn a.tmps ps assign body w.heap.size .ready none)) (hr.own.alloc (.deferred (some [])) h0)
  rw [hro]
  have hent := run_enterLoop_outer (P := P) (w := w) fn a.tmps ps assign body
  obtain ⟨W1, hW1⟩ : ∃ W1, W1 = (w.alloc (.deferred (some []))).alloc (.loop (recd fn a.tmps ps assign body w.heap.size .ready none)) := ⟨_, rfl⟩
  rw [← hW1] at hbk hbel hI1
  refine ⟨w.heap.size + 1, [{ target := .collected w.heap.size, args := #[] }], W1, { target := .fn (.func gf) lb, args := #[.func (.yield (w.heap.size + 1)) #[] #[]] }, W1, gf,
    #[.func (.yield (w.heap.size + 1)) #[] #[]] ++ lb, W1, by rw [hW1]; exact hent, ?called, ?led, ?entered, fun _ => h1, ?it⟩
  case called => simp only [resolve, hg]; simp [go_sem]
  case led => intro f' hf'; simp [Target.leads] at hf'; exact hf' ▸ hFg
  case entered => simp [invoke, go_sem, eg]
  case it =>
    refine (hseq (w.heap.size + 1) (fun pre W => I pre W ∧ Booked w.heap.size (recd fn a.tmps ps assign body w.heap.size .ready none) W)
      (fun pre W => ∃ c, Ix c pre W ∧ Booked w.heap.size (recd fn a.tmps ps assign body w.heap.size .done (some c)) W) _ hbel
      (fun s A v hs => ⟨hr.state s A v hs.1, hs.2.cell hb v⟩) (fun pre x W hj hx => hr.yields hfn hps hKt hKb hj.1 hj.2 hx) ⟨hI1, hbk⟩).mono ?_
    rintro e W2 ⟨⟨v, rfl⟩, hend⟩
    rcases hend with ⟨xs, hS, hi, hk⟩ | ⟨pre, hSp, c, hi, hk⟩
    · obtain ⟨r', he⟩ := hk.over (P := P) (by simp)
      exact ⟨none, _, he, hdone _ xs _ (Nat.le_refl _) hS (hk.own hr.own hi _) (hk.turn _).at0⟩
    · obtain ⟨r', he⟩ := hk.over (P := P) (by simp)
      exact ⟨some c, _, he, hstop _ c pre _ (Nat.le_refl _) hSp (hk.own (hr.ownx c) hi _) (hk.turn _).at0⟩

end Go.Proofs.YtnhfaincdabdkaaGreatDoor
