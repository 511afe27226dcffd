/-
  Plain Lean, no program: what range sets contain, when one lies in another, the algebra of sets.
  Plain Lean, no program: texts of range sets, and what is parsed from them.
  Plain Lean, no program: what the operations on range sets return.
  Plain Lean, no program: a range set is parsed from its text; texts of a maker's kind are parsed.
  Plain Lean, no program: the reference's cuts; when a list of intervals is in order by them.
  Plain Lean, no program: how the reference's lists of cuts and of pieces grow.
-/
import Derived.Test.YtolojkkhmamddaaGreatDoorU4
import Derived.Test.YtolojkkhmamddaaGreatDoorP6
import Derived.Lib.Join
import Derived.Lib.Split
import Derived.Lib.CountLaws
namespace Go.Proofs.YtolojkkhmamddaaGreatDoor.V

theorem plt_step (k : Bs) (p : Pos) : plt (k, false) p ↔ ¬ plt p (k, true) := by
  rcases p with ⟨a, s⟩
  have h := cb_anti k a
  have r := cb_rng k a
  unfold plt cp cor
  simp only
  rw [show cb a k = - cb k a from h]
  cases s <;> simp <;> (repeat' split) <;> omega
/-- the program's Contains -/
def hasL (n : Int) (l : List Itv) (v : Bs) : Bool := l.any fun x => (decide (x.lk = 0) || decide (cutC n x.low (v, false) ≤ 0)) && (decide (x.hk = 0) || decide (0 ≤ cutC n x.high (v, true)))
def containsL (n : Int) (l : List Itv) (v : Bs) : Bool := okR n l && (valid n v && hasL n l v)
/-- the reference's -/
def aboveB (n : Int) (v : Bs) (x : Itv) : Bool := decide (x.lk = 0) || (decide (0 < cmpV n v x.lo) || (decide (cmpV n v x.lo = 0) && decide (x.lk = 1)))
def belowB (n : Int) (v : Bs) (x : Itv) : Bool := decide (x.hk = 0) || (decide (cmpV n v x.hi < 0) || (decide (cmpV n v x.hi = 0) && decide (x.hk = 1)))
def hasR (n : Int) (l : List Itv) (v : Bs) : Bool := l.any fun x => aboveB n v x && belowB n v x
theorem any_same {α : Type} {p q : α → Bool} {l : List α} (h : ∀ x ∈ l, p x = q x) : l.any p = l.any q := by
  rw [Bool.eq_iff_iff, List.any_eq_true, List.any_eq_true]
  constructor
  · rintro ⟨x, hx, g⟩; exact ⟨x, hx, by rw [← h x hx]; exact g⟩
  · rintro ⟨x, hx, g⟩; exact ⟨x, hx, by rw [h x hx]; exact g⟩
theorem hasR_hasL {n : Int} (hn : scheme n = true) {l : List Itv} (hb : ∀ x ∈ l, boundsB n x = true) {v : Bs} (hv : valid n v = true) : hasR n l v = hasL n l v := by
  refine any_same (fun x hx => ?_)
  have hbx := hb x hx
  have e1 : aboveB n v x = (decide (x.lk = 0) || decide (cutC n x.low (v, false) ≤ 0)) := by
    unfold aboveB
    by_cases hk : x.lk = 0
    · rw [decide_eq_true hk]; rfl
    · have hlv : valid n x.lo = true := low_valid hbx hk
      rw [decide_eq_false hk, Bool.false_or, Bool.false_or]
      have hc : cmpV n v x.lo = - cmpV n x.lo v := (total_law hn hv hlv hv).1
      have hr := cb_rng (keyV n x.lo) (keyV n v)
      rw [key_law hn hlv hv] at hr
      unfold boundsB at hbx
      rw [Bool.and_eq_true] at hbx
      unfold cutC Itv.low
      simp only
      rcases (boundB_yes hbx.1 hk).1 with e | e <;> rw [hc, e] <;> rcases hr with h | h | h <;> simp  at h ⊢ <;> simp [h]
  have e2 : belowB n v x = (decide (x.hk = 0) || decide (0 ≤ cutC n x.high (v, true))) := by
    unfold belowB
    by_cases hk : x.hk = 0
    · rw [decide_eq_true hk]; rfl
    · have hlv : valid n x.hi = true := high_valid hbx hk
      rw [decide_eq_false hk, Bool.false_or, Bool.false_or]
      have hc : cmpV n v x.hi = - cmpV n x.hi v := (total_law hn hv hlv hv).1
      have hr := cb_rng (keyV n x.hi) (keyV n v)
      rw [key_law hn hlv hv] at hr
      unfold boundsB at hbx
      rw [Bool.and_eq_true] at hbx
      unfold cutC Itv.high
      simp only
      rcases (boundB_yes hbx.2 hk).1 with e | e <;> rw [hc, e] <;> rcases hr with h | h | h <;> simp  at h ⊢ <;> simp [h]
  rw [e1, e2]
theorem contains_in {n : Int} {l : List Itv} (h : Ok n l) {v : Bs} (hv : valid n v = true) : containsL n l v = inS n l (keyV n v, false) := by
  unfold containsL hasL
  rw [of_ok h, hv, Bool.true_and, Bool.true_and, inS_any h.sch _ h.bnd h.ord]
  refine any_same (fun x hx => ?_)
  have hbx := h.bnd x hx
  unfold inI
  congr 1
  · by_cases hk : x.lk = 0
    · rw [decide_eq_true hk]; rfl
    · rw [decide_eq_false hk, Bool.false_or, Bool.false_or, cutC_pos h.sch (low_valid hbx hk) hv]
      show decide (cp (pos n x.low) (keyV n v, false) ≤ 0) = _
      have := cp_anti (pos n x.low) (keyV n v, false)
      unfold plt
      by_cases hp : cp (keyV n v, false) (pos n x.low) < 0
      · rw [decide_eq_true hp, decide_eq_false (by omega)]; rfl
      · rw [decide_eq_false hp, decide_eq_true (by omega)]; rfl
  · by_cases hk : x.hk = 0
    · rw [decide_eq_true hk]; rfl
    · rw [decide_eq_false hk, Bool.false_or, Bool.false_or, cutC_pos h.sch (high_valid hbx hk) hv]
      show decide (0 ≤ cp (pos n x.high) (keyV n v, true)) = _
      refine decide_eq_decide.2 ?_
      rw [plt_step]
      unfold plt
      omega

/-! subsets -/
def minusF (x y : Bool) : Bool := x && !y
def orF (x y : Bool) : Bool := x || y
def andF (x y : Bool) : Bool := x && y
def notF (x _y : Bool) : Bool := !x
structure Sub (n : Int) (a b : List Itv) : Prop where
  first : firstB a = true → firstB b = true
  all : ∀ q, inS n a q = true → inS n b q = true
def subL (n : Int) (a b : List Itv) : Bool := decide ((opL n minusF a b).length = 0)
theorem sub_iff {n : Int} {a b : List Itv} (ha : Ok n a) (hb : Ok n b) : subL n a b = true ↔ Sub n a b := by
  unfold subL
  rw [decide_eq_true_eq, List.length_eq_zero_iff]
  constructor
  · intro h
    refine ⟨fun h1 => ?_, fun q hq => ?_⟩
    · have := opL_first (n := n) minusF a b
      rw [h] at this
      rcases hf : firstB b with _ | _
      · rw [h1, hf] at this; cases this
      · rfl
    · have := opL_in minusF ha hb q
      rw [h] at this
      rcases hf : inS n b q with _ | _
      · rw [hq, hf] at this; cases this
      · rfl
  · intro h
    have hf : minusF (firstB a) (firstB b) = false := by
      rcases h1 : firstB a with _ | _
      · rfl
      · rw [h.first h1]; rfl
    have hco := opL_comb minusF ha hb
    unfold opL
    have : comb n minusF (firstB a) (firstB b) (minusF (firstB a) (firstB b)) (cutsOf a) (cutsOf b) = [] := by
      have e : poss n (comb n minusF (firstB a) (firstB b) (minusF (firstB a) (firstB b)) (cutsOf a) (cutsOf b)) = [] := by
        refine mem_inj (x := minusF (firstB a) (firstB b)) hco.asc List.Pairwise.nil (fun q => ?_)
        rw [hco.val, hf]
        show minusF (inS n a q) (inS n b q) = false
        rcases h1 : inS n a q with _ | _
        · rfl
        · rw [h.all q h1]; rfl
      unfold poss at e
      exact List.map_eq_nil_iff.1 e
    rw [this, hf]
    rfl
/-- the same set -/
structure AlikeS (n : Int) (a b : List Itv) : Prop where
  first : firstB a = firstB b
  all : ∀ q, inS n a q = inS n b q
def alikeL (n : Int) (a b : List Itv) : Bool := subL n a b && subL n b a
theorem alike_iff {n : Int} {a b : List Itv} (ha : Ok n a) (hb : Ok n b) : alikeL n a b = true ↔ AlikeS n a b := by
  unfold alikeL
  rw [Bool.and_eq_true, sub_iff ha hb, sub_iff hb ha]
  constructor
  · rintro ⟨h1, h2⟩
    exact ⟨Bool.eq_iff_iff.2 ⟨h1.first, h2.first⟩, fun q => Bool.eq_iff_iff.2 ⟨h1.all q, h2.all q⟩⟩
  · rintro ⟨h1, h2⟩
    exact ⟨⟨fun h => by rw [← h1]; exact h, fun q h => by rw [← h2]; exact h⟩, ⟨fun h => by rw [h1]; exact h, fun q h => by rw [h2]; exact h⟩⟩
theorem cuts_op {n : Int} (f : Bool → Bool → Bool) {a b : List Itv} (ha : Ok n a) (hb : Ok n b) : (cutsOf (opL n f a b)).length ≤ (cutsOf a).length + (cutsOf b).length := by
  unfold opL
  rw [cuts_start]
  exact (opL_comb f ha hb).len
theorem len_op {n : Int} (f : Bool → Bool → Bool) {a b : List Itv} (ha : Ok n a) (hb : Ok n b) : (opL n f a b).length ≤ (cutsOf a).length + (cutsOf b).length + 1 := by
  have h1 := (opL_comb f ha hb).len
  have h4 := len_ofC (start (f (firstB a) (firstB b))) (comb n f (firstB a) (firstB b) (f (firstB a) (firstB b)) (cutsOf a) (cutsOf b))
  unfold opL
  omega
theorem ok_nil {n : Int} (h : scheme n = true) : Ok n [] := ⟨h, by simp, (fun x hx => by cases hx), trivial⟩
theorem ok_all {n : Int} (h : scheme n = true) : Ok n [noI] := ⟨h, by simp, (fun x hx => by rw [List.mem_singleton.1 hx]; rfl), rfl, (fun z hz => by cases hz), trivial⟩

/-- two sets with few cuts: what the laws say of their combinations -/
structure Few (n : Int) (a : List Itv) (k : Nat) : Prop where
  ok : Ok n a
  few : (cutsOf a).length ≤ k
theorem Few.op {n : Int} {a b : List Itv} {j k : Nat} (ha : Few n a j) (hb : Few n b k) (f : Bool → Bool → Bool) (h : j + k ≤ 31) : Few n (opL n f a b) (j + k) := by
  have h1 := ha.few
  have h2 := hb.few
  have h3 := cuts_op f ha.ok hb.ok
  have h4 := len_op f ha.ok hb.ok
  exact ⟨opL_ok f ha.ok hb.ok (by omega), by omega⟩
theorem Few.nil {n : Int} (h : scheme n = true) : Few n [] 0 := ⟨ok_nil h, by simp [cutsOf]⟩
theorem Few.len {n : Int} {a : List Itv} {j : Nat} (ha : Few n a j) : a.length ≤ 32 := ha.ok.len

theorem in_nil (n : Int) (q : Pos) : inS n [] q = false := rfl
theorem boolean_law {n : Int} {a b : List Itv} (ha : Few n a 8) (hb : Few n b 8) {v : Bs} (hv : valid n v = true) :
    containsL n (opL n orF a b) v = (containsL n a v || containsL n b v) ∧ containsL n (opL n andF a b) v = (containsL n a v && containsL n b v) ∧
    containsL n (opL n minusF a b) v = (containsL n a v && !containsL n b v) ∧ containsL n (opL n notF a []) v = !containsL n a v := by
  have hnil := Few.nil ha.ok.sch
  rw [contains_in (ha.op hb orF (by omega)).ok hv, contains_in (ha.op hb andF (by omega)).ok hv, contains_in (ha.op hb minusF (by omega)).ok hv, contains_in (ha.op hnil notF (by omega)).ok hv, contains_in ha.ok hv, contains_in hb.ok hv,
    opL_in _ ha.ok hb.ok, opL_in _ ha.ok hb.ok, opL_in _ ha.ok hb.ok, opL_in _ ha.ok hnil.ok]
  exact ⟨rfl, rfl, rfl, rfl⟩
theorem algebra_law {n : Int} {a b : List Itv} (ha : Few n a 8) (hb : Few n b 8) :
    subL n a (opL n orF a b) = true ∧ alikeL n (opL n orF a b) (opL n orF b a) = true ∧ alikeL n (opL n andF a b) (opL n andF b a) = true ∧ alikeL n (opL n notF (opL n notF a []) []) a = true ∧
    alikeL n (opL n notF (opL n orF a b) []) (opL n andF (opL n notF a []) (opL n notF b [])) = true := by
  have hnil := Few.nil ha.ok.sch
  have x := ha.op hb orF (by omega)
  have y := hb.op ha orF (by omega)
  have z := ha.op hb andF (by omega)
  have w := hb.op ha andF (by omega)
  have c := ha.op hnil notF (by omega)
  have m := hb.op hnil notF (by omega)
  have d := c.op hnil notF (by omega)
  have u := x.op hnil notF (by omega)
  have v := c.op m andF (by omega)
  rw [sub_iff ha.ok x.ok, alike_iff x.ok y.ok, alike_iff z.ok w.ok, alike_iff d.ok ha.ok, alike_iff u.ok v.ok]
  refine ⟨⟨fun h => ?_, fun q h => ?_⟩, ⟨?_, fun q => ?_⟩, ⟨?_, fun q => ?_⟩, ⟨?_, fun q => ?_⟩, ⟨?_, fun q => ?_⟩⟩
  · rw [opL_first, h]; rfl
  · rw [opL_in _ ha.ok hb.ok, h]; rfl
  · rw [opL_first, opL_first]; exact Bool.or_comm _ _
  · rw [opL_in _ ha.ok hb.ok, opL_in _ hb.ok ha.ok]; exact Bool.or_comm _ _
  · rw [opL_first, opL_first]; exact Bool.and_comm _ _
  · rw [opL_in _ ha.ok hb.ok, opL_in _ hb.ok ha.ok]; exact Bool.and_comm _ _
  · rw [opL_first, opL_first]; exact Bool.not_not _
  · rw [opL_in _ c.ok hnil.ok, opL_in _ ha.ok hnil.ok]; exact Bool.not_not _
  · rw [opL_first, opL_first, opL_first, opL_first, opL_first]; exact Bool.not_or _ _
  · rw [opL_in _ x.ok hnil.ok, opL_in _ ha.ok hb.ok, opL_in _ c.ok m.ok, opL_in _ ha.ok hnil.ok, opL_in _ hb.ok hnil.ok]; exact Bool.not_or _ _
theorem subset_law {n : Int} {a b : List Itv} (ha : Few n a 8) (hb : Few n b 8) {v : Bs} (hv : valid n v = true) :
    subL n a b = alikeL n (opL n orF a b) b ∧ (subL n a b = true → containsL n a v = true → containsL n b v = true) := by
  have x := ha.op hb orF (by omega)
  refine ⟨?_, fun h => ?_⟩
  · rw [Bool.eq_iff_iff, sub_iff ha.ok hb.ok, alike_iff x.ok hb.ok]
    constructor
    · rintro ⟨h1, h2⟩
      refine ⟨?_, fun q => ?_⟩
      · rw [opL_first]
        show (firstB a || firstB b) = _
        rcases h : firstB a with _ | _
        · rfl
        · rw [h1 h]; rfl
      · rw [opL_in _ ha.ok hb.ok]
        show (inS n a q || inS n b q) = _
        rcases h : inS n a q with _ | _
        · rfl
        · rw [h2 q h]; rfl
    · rintro ⟨h1, h2⟩
      refine ⟨fun h => ?_, fun q h => ?_⟩
      · rw [← h1, opL_first, h]; rfl
      · rw [← h2 q, opL_in _ ha.ok hb.ok, h]; rfl
  · rw [sub_iff ha.ok hb.ok] at h
    rw [contains_in ha.ok hv, contains_in hb.ok hv]
    exact h.all _
end Go.Proofs.YtolojkkhmamddaaGreatDoor.V
namespace Go.Proofs.YtolojkkhmamddaaGreatDoor.V

/-! texts -/
def lowT (x : Itv) : List Bs := if x.lk = 1 then [[62, 61] ++ x.lo] else if x.lk = 2 then [[62] ++ x.lo] else []
def highT (x : Itv) : List Bs := if x.hk = 1 then [[60, 61] ++ x.hi] else if x.hk = 2 then [[60] ++ x.hi] else []
def textI (x : Itv) : Bs :=
  if x.lk = 0 ∧ x.hk = 0 then [42] else if x.lk = 1 ∧ x.hk = 1 ∧ x.lo = x.hi then [61] ++ x.lo else Lib.join (lowT x ++ highT x) [32]
def noneT : Bs := [110, 111, 110, 101]
def orT : Bs := [32, 124, 124, 32]
def textL (l : List Itv) : Bs := if l.isEmpty then noneT else Lib.join (l.map textI) orT
def formatR (n : Int) (l : List Itv) : Bs × Int := if okR n l then (textL l, 0) else ([], 1)

/-! what is parsed -/
/-- which condition begins s, and what follows -/
def opOf (s : Bs) : Option (Nat × Bs) :=
  if s.take 2 = [62, 61] then some (0, s.drop 2) else if s.take 2 = [60, 61] then some (1, s.drop 2) else if s.take 1 = [61] then some (2, s.drop 1) else if s.take 1 = [60] then some (3, s.drop 1) else if s.take 1 = [62] then some (4, s.drop 1) else none
def condI (k : Nat) (v : Bs) : Itv :=
  if k = 0 then ⟨v, 1, [], 0⟩ else if k = 1 then ⟨[], 0, v, 1⟩ else if k = 2 then ⟨v, 1, v, 1⟩ else if k = 3 then ⟨[], 0, v, 2⟩ else ⟨v, 2, [], 0⟩
def condP (n : Int) (s : Bs) : Option Itv := match opOf s with | none => none | some (k, v) => if valid n v then some (condI k v) else none
def altGo (n : Int) (out : List Itv) : List Bs → Option (List Itv)
  | [] => some out
  | c :: r => match condP n c with | none => none | some x => altGo n (opL n andF out [x]) r
def altP (n : Int) (s : Bs) : Option (List Itv) := if s = noneT then some [] else if s = [42] then some [noI] else altGo n [noI] (splitOn 32 s)
def altsP (n : Int) : List Bs → Option (List (List Itv))
  | [] => some []
  | s :: r => match altP n s with | none => none | some x => match altsP n r with | none => none | some xs => some (x :: xs)
/-- the union of all, as long as no one is too large -/
def unionGo (n : Int) (out : List Itv) : List (List Itv) → Option (List Itv)
  | [] => some out
  | x :: r => if (opL n orF out x).length ≤ 32 then unionGo n (opL n orF out x) r else none
/-- the result of Parse: a set, or an error -/
def rgParse (n : Int) (s : Bs) : Option (List Itv) × Int :=
  if scheme n then (if s.length ≤ 8192 then (match altsP n (Lib.split s orT) with | none => (none, 2) | some xs => match unionGo n [] xs with | none => (none, 3) | some l => (some l, 0)) else (none, 3)) else (none, 14)

/-! conditions make sets of one interval -/
theorem condI_ok {n : Int} {k : Nat} {v : Bs} (hn : scheme n = true) (hv : valid n v = true) : Ok n [condI k v] := by
  have hc : cmpV n v v = 0 := (total_law hn hv hv hv).2.1
  have hb : boundsB n (condI k v) = true ∧ insideB n (condI k v) = true := by
    unfold condI boundsB boundB insideB
    repeat' split
    all_goals simp_all [cutC, Itv.low, Itv.high]
  exact ⟨hn, by simp, (fun x hx => by rw [List.mem_singleton.1 hx]; exact hb.1), hb.2, (fun z hz => by cases hz), trivial⟩
theorem condP_ok {n : Int} (hn : scheme n = true) {s : Bs} {x : Itv} (h : condP n s = some x) : Ok n [x] := by
  unfold condP at h
  split at h
  · cases h
  · split at h
    · cases h
      exact condI_ok hn ‹_›
    · cases h

/-! sets of at most one interval stay so -/
def Convex (n : Int) (a : List Itv) : Prop := (∀ p q r, plt p q → plt q r → inS n a p = true → inS n a r = true → inS n a q = true) ∧ (firstB a = true → ∀ q r, plt q r → inS n a r = true → inS n a q = true)
theorem plt_lt {p q r : Pos} (h1 : plt p q) (h2 : ¬ plt r q) : plt p r := by
  rcases plt_tri q r with h | h | h
  · exact plt_trans h1 h
  · rw [← h]; exact h1
  · exact absurd h h2
theorem one_convex {n : Int} {a : List Itv} (ha : Ok n a) (h : a.length ≤ 1) : Convex n a := by
  rcases a with _ | ⟨x, _ | ⟨y, l⟩⟩
  · exact ⟨(fun p q r _ _ h => by cases h), (fun h => by cases h)⟩
  · have e : ∀ q, inS n [x] q = inI n q x := fun q => by rw [inS_any ha.sch q ha.bnd ha.ord]; simp
    constructor
    · intro p q r h1 h2 h3 h4
      rw [e] at h3 h4 ⊢
      unfold inI at h3 h4 ⊢
      simp only [Bool.and_eq_true, Bool.or_eq_true, decide_eq_true_eq, Bool.not_eq_true', decide_eq_false_iff_not] at h3 h4 ⊢
      refine ⟨h3.1.imp id fun g gq => g (plt_trans h1 gq), h4.2.imp id fun g => plt_trans h2 g⟩
    · intro hf q r h2 h4
      rw [e] at h4 ⊢
      unfold inI at h4 ⊢
      have hk : x.lk = 0 := by simpa [firstB] using hf
      simp only [Bool.and_eq_true, Bool.or_eq_true, decide_eq_true_eq, Bool.not_eq_true', decide_eq_false_iff_not] at h4 ⊢
      exact ⟨.inl hk, h4.2.imp id fun g => plt_trans h2 g⟩
  · simp at h
theorem convex_one {n : Int} {x : Bool} {R : List Cut} (ha : asc (poss n R)) (h1 : ∀ p q r, plt p q → plt q r → mem x (poss n R) p = true → mem x (poss n R) r = true → mem x (poss n R) q = true) (h2 : x = true → ∀ q r, plt q r → mem x (poss n R) r = true → mem x (poss n R) q = true) :
    (ofC (start x) R).length ≤ 1 := by
  cases x
  · rcases R with _ | ⟨c, _ | ⟨d, _ | ⟨e, R⟩⟩⟩
    · simp [start, ofC]
    · simp [start, ofC]
    · simp [start, ofC]
    · exfalso
      obtain ⟨a1, a2⟩ := List.pairwise_cons.1 (show asc (pos n c :: poss n (d :: e :: R)) from ha)
      obtain ⟨b1, b2⟩ := List.pairwise_cons.1 (show asc (pos n d :: poss n (e :: R)) from a2)
      obtain ⟨c1, c2⟩ := List.pairwise_cons.1 (show asc (pos n e :: poss n R) from b2)
      have hcd := a1 (pos n d) (by simp [poss])
      have hde := b1 (pos n e) (by simp [poss])
      have hce := plt_trans hcd hde
      have m1 : mem false (poss n (c :: d :: e :: R)) (pos n c) = true := by
        show mem false (pos n c :: pos n d :: pos n e :: poss n R) _ = true
        rw [mem_cons, if_neg (plt_irrefl _), mem_cons, if_pos hcd]; rfl
      have m2 : mem false (poss n (c :: d :: e :: R)) (pos n d) = false := by
        show mem false (pos n c :: pos n d :: pos n e :: poss n R) _ = false
        rw [mem_cons, if_neg (plt_asymm hcd), mem_cons, if_neg (plt_irrefl _), mem_cons, if_pos hde]; rfl
      have m3 : mem false (poss n (c :: d :: e :: R)) (pos n e) = true := by
        show mem false (pos n c :: pos n d :: pos n e :: poss n R) _ = true
        rw [mem_cons, if_neg (plt_asymm hce), mem_cons, if_neg (plt_asymm hde), mem_cons, if_neg (plt_irrefl _), mem_lt c1]; rfl
      rw [h1 _ _ _ hcd hde m1 m3] at m2
      cases m2
  · rcases R with _ | ⟨c, _ | ⟨d, R⟩⟩
    · simp [start, ofC]
    · simp [start, ofC]
    · exfalso
      obtain ⟨a1, a2⟩ := List.pairwise_cons.1 (show asc (pos n c :: poss n (d :: R)) from ha)
      obtain ⟨b1, b2⟩ := List.pairwise_cons.1 (show asc (pos n d :: poss n R) from a2)
      have hcd := a1 (pos n d) (by simp [poss])
      have m1 : mem true (poss n (c :: d :: R)) (pos n c) = false := by
        show mem true (pos n c :: pos n d :: poss n R) _ = false
        rw [mem_cons, if_neg (plt_irrefl _), mem_cons, if_pos hcd]; rfl
      have m3 : mem true (poss n (c :: d :: R)) (pos n d) = true := by
        show mem true (pos n c :: pos n d :: poss n R) _ = true
        rw [mem_cons, if_neg (plt_asymm hcd), mem_cons, if_neg (plt_irrefl _), mem_lt b1]; rfl
      rw [h2 rfl _ _ hcd m3] at m1
      cases m1
/-- a set of at most one interval -/
structure One (n : Int) (a : List Itv) : Prop where
  ok : Ok n a
  one : a.length ≤ 1
theorem One.and {n : Int} {a b : List Itv} (ha : One n a) (hb : One n b) : One n (opL n andF a b) := by
  have h : (opL n andF a b).length ≤ 1 := by
    have ca := one_convex ha.ok ha.one
    have cb := one_convex hb.ok hb.one
    have hco := opL_comb andF ha.ok hb.ok
    have both : ∀ q, mem (andF (firstB a) (firstB b)) (poss n (comb n andF (firstB a) (firstB b) (andF (firstB a) (firstB b)) (cutsOf a) (cutsOf b))) q = true ↔ inS n a q = true ∧ inS n b q = true := fun q => by
      rw [hco.val]
      show andF (inS n a q) (inS n b q) = true ↔ _
      unfold andF
      rw [Bool.and_eq_true]
    refine convex_one hco.asc (fun p q r h1 h2 h3 h4 => ?_) (fun hx q r h1 h2 => ?_)
    · rw [both] at h3 h4 ⊢
      exact ⟨ca.1 p q r h1 h2 h3.1 h4.1, cb.1 p q r h1 h2 h3.2 h4.2⟩
    · rw [both] at h2 ⊢
      unfold andF at hx
      rw [Bool.and_eq_true] at hx
      exact ⟨ca.2 hx.1 q r h1 h2.1, cb.2 hx.2 q r h1 h2.2⟩
  exact ⟨opL_ok _ ha.ok hb.ok (by omega), h⟩
theorem one_nil {n : Int} (h : scheme n = true) : One n [] := ⟨ok_nil h, by simp⟩
theorem one_all {n : Int} (h : scheme n = true) : One n [noI] := ⟨ok_all h, by simp⟩
theorem One.few {n : Int} {a : List Itv} (h : One n a) : Few n a 2 := ⟨h.ok, by have := cutsOf_len a; have := h.one; omega⟩
theorem altGo_one {n : Int} (hn : scheme n = true) : ∀ {l : List Bs} {out r : List Itv}, One n out → altGo n out l = some r → One n r
  | [], out, r, h, e => by cases e; exact h
  | c :: l, out, r, h, e => by
    unfold altGo at e
    split at e
    · cases e
    · rename_i x hx
      exact altGo_one hn (h.and ⟨condP_ok hn hx, by simp⟩) e
theorem altP_one {n : Int} (hn : scheme n = true) {s : Bs} {r : List Itv} (e : altP n s = some r) : One n r := by
  unfold altP at e
  split at e
  · cases e; exact one_nil hn
  · split at e
    · cases e; exact one_all hn
    · exact altGo_one hn (one_all hn) e
theorem altsP_one {n : Int} (hn : scheme n = true) : ∀ {l : List Bs} {xs : List (List Itv)}, altsP n l = some xs → xs.length = l.length ∧ ∀ x ∈ xs, One n x
  | [], xs, e => by cases e; exact ⟨rfl, fun x hx => by cases hx⟩
  | s :: l, xs, e => by
    unfold altsP at e
    split at e
    · cases e
    · rename_i x hx
      split at e
      · cases e
      · rename_i ys hys
        cases e
        obtain ⟨i1, i2⟩ := altsP_one hn hys
        refine ⟨by rw [List.length_cons, List.length_cons, i1], fun y hy => ?_⟩
        rcases List.mem_cons.1 hy with rfl | hy
        · exact altP_one hn hx
        · exact i2 y hy
theorem unionGo_ok {n : Int} : ∀ {xs : List (List Itv)} {out r : List Itv}, Ok n out → (∀ x ∈ xs, One n x) → unionGo n out xs = some r → Ok n r
  | [], out, r, h, _, e => by cases e; exact h
  | x :: xs, out, r, h, hx, e => by
    unfold unionGo at e
    split at e
    · rename_i h32
      exact unionGo_ok (opL_ok _ h (hx x (by simp)).ok h32) (fun y hy => hx y (by simp [hy])) e
    · cases e
theorem rgParse_ok {n : Int} {s : Bs} {l : List Itv} (h : (rgParse n s).1 = some l) : Ok n l ∧ (rgParse n s).2 = 0 := by
  unfold rgParse at h ⊢
  split at h
  · rename_i hn
    rw [if_pos hn]
    split at h
    · rename_i hl
      rw [if_pos hl]
      split at h
      · cases h
      · rename_i xs hxs
        split at h
        · cases h
        · rename_i u hu
          cases h
          exact ⟨unionGo_ok (ok_nil hn) (altsP_one hn hxs).2 hu, rfl⟩
    · cases h
  · cases h

/-! a combination known -/
theorem opL_eq {n : Int} (f : Bool → Bool → Bool) {a b c : List Itv} (ha : Ok n a) (hb : Ok n b) (hc : Ok n c) (h1 : firstB c = f (firstB a) (firstB b)) (h2 : ∀ q, inS n c q = f (inS n a q) (inS n b q)) (h3 : ∀ e ∈ cutsOf c, Least n (cutsOf a ++ cutsOf b) e) : opL n f a b = c := by
  have hco := opL_comb f ha hb
  have e : comb n f (firstB a) (firstB b) (f (firstB a) (firstB b)) (cutsOf a) (cutsOf b) = cutsOf c := by
    refine least_lists (L := cutsOf a ++ cutsOf b) (mem_inj (x := f (firstB a) (firstB b)) hco.asc hc.asc (fun q => ?_)) (comb_least ha.sch f _ _ _ _ _ _ (Nat.le_refl _) ha.cuts hb.cuts ha.asc hb.asc) h3
    rw [hco.val]
    have := h2 q
    unfold inS at this
    rw [← h1]
    exact this.symm
  unfold opL
  rw [e, ← h1]
  exact hc.norm
/-- cuts of an ascending list are the least where they lie -/
theorem asc_one {n : Int} : ∀ (L : List Cut), asc (poss n L) → ∀ c, c ∈ L → ∀ d, d ∈ L → pos n d = pos n c → d = c
  | [], _, c, hc, _, _, _ => by cases hc
  | e :: L, h, c, hc, d, hd, hp => by
    obtain ⟨a1, a2⟩ := List.pairwise_cons.1 (show asc (pos n e :: poss n L) from h)
    rcases List.mem_cons.1 hc with e1 | g1
    · rcases List.mem_cons.1 hd with e2 | g2
      · rw [e1, e2]
      · have := a1 _ (List.mem_map.2 ⟨d, g2, rfl⟩)
        rw [hp, e1] at this
        exact absurd this (plt_irrefl _)
    · rcases List.mem_cons.1 hd with e2 | g2
      · have := a1 _ (List.mem_map.2 ⟨c, g1, rfl⟩)
        rw [← hp, e2] at this
        exact absurd this (plt_irrefl _)
      · exact asc_one L a2 c g1 d g2 hp
theorem asc_least {n : Int} {L : List Cut} (h : asc (poss n L)) : ∀ c ∈ L, Least n L c := fun c hc =>
  ⟨hc, fun d hd hp => by rw [asc_one L h c hc d hd hp, cb_refl]; omega⟩
end Go.Proofs.YtolojkkhmamddaaGreatDoor.V
namespace Go.Proofs.YtolojkkhmamddaaGreatDoor.V

/-- the error of two arguments -/
def chkP (n : Int) (a : List Itv) (m : Int) (b : List Itv) : Int := if okR n a && okR m b then (if n = m then 0 else 14) else 1
/-- a result that is not too large -/
def limP (n : Int) (l : List Itv) : Int × List Itv × Int := if l.length ≤ 32 then (n, l, 0) else (0, [], 3)
def opP (f : Bool → Bool → Bool) (n : Int) (a : List Itv) (m : Int) (b : List Itv) : Int × List Itv × Int := if chkP n a m b = 0 then limP n (opL n f a b) else (0, [], chkP n a m b)
def compP (n : Int) (a : List Itv) : Int × List Itv × Int := if okR n a then limP n (opL n notF a []) else (0, [], 1)
def subP (n : Int) (a : List Itv) (m : Int) (b : List Itv) : Bool × Int := if chkP n a m b = 0 then (subL n a b, 0) else (false, chkP n a m b)
theorem chk_zero {n m : Int} {a b : List Itv} (h : chkP n a m b = 0) : Ok n a ∧ Ok n b ∧ n = m := by
  unfold chkP at h
  split at h
  · rename_i h1
    rw [Bool.and_eq_true] at h1
    split at h
    · rename_i h2
      subst h2
      exact ⟨ok_of h1.1, ok_of h1.2, rfl⟩
    · cases h
  · cases h
theorem chk_of {n : Int} {a b : List Itv} (ha : Ok n a) (hb : Ok n b) : chkP n a n b = 0 := by
  unfold chkP
  rw [of_ok ha, of_ok hb]
  simp
theorem opP_few {n : Int} {a b : List Itv} {j k : Nat} (f : Bool → Bool → Bool) (ha : Few n a j) (hb : Few n b k) (h : j + k ≤ 31) : opP f n a n b = (n, opL n f a b, 0) := by
  unfold opP limP
  rw [if_pos (chk_of ha.ok hb.ok), if_pos (ha.op hb f h).len]
theorem compP_few {n : Int} {a : List Itv} {j : Nat} (ha : Few n a j) (h : j ≤ 31) : compP n a = (n, opL n notF a [], 0) := by
  unfold compP limP
  rw [if_pos (of_ok ha.ok), if_pos (ha.op (Few.nil ha.ok.sch) notF (by omega)).len]
theorem subP_ok {n : Int} {a b : List Itv} (ha : Ok n a) (hb : Ok n b) : subP n a n b = (subL n a b, 0) := by
  unfold subP
  rw [if_pos (chk_of ha hb)]
end Go.Proofs.YtolojkkhmamddaaGreatDoor.V
namespace Go.Proofs.YtolojkkhmamddaaGreatDoor.V

/-! alternatives are found again -/
theorem index_or : ∀ {t : Bs} (r : Bs), (124 : UInt8) ∉ t → Lib.index (t ++ (orT ++ r)) orT = (t.length : Int)
  | [], r, _ => by
    show Lib.index (32 :: 124 :: 124 :: 32 :: r) orT = 0
    unfold Lib.index
    simp [orT, List.isPrefixOf]
  | [b], r, h => by
    rw [List.mem_singleton] at h
    show Lib.index (b :: (orT ++ r)) orT = 1
    unfold Lib.index
    have h1 : orT.isPrefixOf (b :: (orT ++ r)) = false := by simp [orT, List.isPrefixOf]
    have h2 := index_or (t := []) r (by simp)
    rw [List.nil_append] at h2
    rw [h1, h2]
    simp
  | b :: c :: t, r, h => by
    rw [List.mem_cons, List.mem_cons, not_or, not_or] at h
    have h2 := index_or (t := c :: t) r (by rw [List.mem_cons, not_or]; exact ⟨h.2.1, h.2.2⟩)
    have h1 : orT.isPrefixOf (b :: c :: t ++ (orT ++ r)) = false := by
      have hc : ((124 : UInt8) == c) = false := by simpa using h.2.1
      simp [orT, List.isPrefixOf, hc]
    rw [List.cons_append]
    unfold Lib.index
    rw [← List.cons_append, h1, h2]
    have h3 : (((c :: t).length : Int) == -1) = false := by rw [beq_eq_false_iff_ne]; omega
    rw [h3]
    simp
theorem index_no : ∀ {t : Bs}, (124 : UInt8) ∉ t → Lib.index t orT = -1
  | [], _ => rfl
  | [b], _ => by
    unfold Lib.index
    simp [orT, List.isPrefixOf, Lib.index]
  | b :: c :: t, h => by
    rw [List.mem_cons, List.mem_cons, not_or, not_or] at h
    have h2 := index_no (t := c :: t) (by rw [List.mem_cons, not_or]; exact ⟨h.2.1, h.2.2⟩)
    have h1 : orT.isPrefixOf (b :: c :: t) = false := by
      have hc : ((124 : UInt8) == c) = false := by simpa using h.2.1
      simp [orT, List.isPrefixOf, hc]
    unfold Lib.index
    rw [h1, h2]
    simp
theorem split_join : ∀ (r : List Bs) (x : Bs), (∀ y ∈ x :: r, (124 : UInt8) ∉ y) → Lib.split (Lib.join (x :: r) orT) orT = x :: r
  | [], x, h => by
    rw [Lib.join_one]
    unfold Lib.split
    rw [Lib.count_miss (index_no (h x (by simp)))]
    rfl
  | y :: r, x, h => by
    have ih := split_join r y (fun z hz => h z (List.mem_cons_of_mem _ hz))
    have e : Lib.join (x :: y :: r) orT = x ++ (orT ++ Lib.join (y :: r) orT) := by
      rw [Lib.join_cons, Lib.join_cons]
      simp [Lib.joinTail, List.append_assoc]
    have hi := index_or (t := x) (Lib.join (y :: r) orT) (h x (by simp))
    rw [e]
    unfold Lib.split at ih ⊢
    rw [Lib.count_hit (by simp [orT]) hi, Nat.add_comm]
    unfold Lib.splitK
    have hne : ¬ (Lib.index (x ++ (orT ++ Lib.join (y :: r) orT)) orT == -1) = true := by rw [hi, beq_iff_eq]; omega
    rw [if_neg hne, hi]
    have ed : (x ++ (orT ++ Lib.join (y :: r) orT)).drop (x.length + orT.length) = Lib.join (y :: r) orT := by
      rw [← List.append_assoc, List.drop_left' (by simp)]
    simp only [Int.toNat_natCast, Nat.add_zero]
    rw [ed, ih, List.take_left' rfl]

/-! conditions are found again -/
def opT (k : Nat) : Bs := if k = 0 then [62, 61] else if k = 1 then [60, 61] else if k = 2 then [61] else if k = 3 then [60] else [62]
theorem valid_len {n : Int} {v : Bs} (h : valid n v = true) : 1 ≤ v.length ∧ v.length ≤ 64 := by
  unfold valid at h
  rw [Bool.and_eq_true, Bool.and_eq_true] at h
  exact ⟨by simpa using h.1.1, by simpa using h.1.2⟩
theorem opOf_op {n : Int} {v : Bs} {k : Nat} (hk : k < 5) (hv : valid n v = true) : opOf (opT k ++ v) = some (k, v) := by
  have hl := (valid_len hv).1
  have h61 : (61 : UInt8) ∉ v := valid_not hv (by decide +kernel)
  obtain ⟨b, u, rfl⟩ : ∃ b u, v = b :: u := by
    rcases v with _ | ⟨b, u⟩
    · simp at hl
    · exact ⟨b, u, rfl⟩
  have hb : ¬ b = 61 := fun e => h61 (by rw [e]; simp)
  have h5 : k = 0 ∨ k = 1 ∨ k = 2 ∨ k = 3 ∨ k = 4 := by omega
  rcases h5 with rfl | rfl | rfl | rfl | rfl <;> simp [opOf, opT, hb]
theorem condP_op {n : Int} {v : Bs} {k : Nat} (hk : k < 5) (hv : valid n v = true) : condP n (opT k ++ v) = some (condI k v) := by
  unfold condP
  rw [opOf_op hk hv]
  simp [hv]
theorem op_not {n : Int} {v : Bs} {k : Nat} (hv : valid n v = true) {c : UInt8} (hc : verB c = false) (h1 : c ≠ 60) (h2 : c ≠ 61) (h3 : c ≠ 62) : c ∉ opT k ++ v := by
  have := valid_not hv hc
  rw [List.mem_append, not_or]
  refine ⟨?_, this⟩
  unfold opT
  repeat' split
  all_goals simp [h1, h2, h3]
theorem op_head {v : Bs} (k : Nat) : ∃ b u, opT k ++ v = b :: u ∧ b ≠ 110 ∧ b ≠ 42 := by
  unfold opT
  repeat' split
  all_goals exact ⟨_, _, rfl, by decide, by decide⟩
theorem op_len {n : Int} {v : Bs} (k : Nat) (hv : valid n v = true) : (opT k ++ v).length ≤ 66 := by
  have := (valid_len hv).2
  unfold opT
  rw [List.length_append]
  repeat' split
  all_goals (simp; omega)
theorem splitOn_app {c : UInt8} : ∀ {a : Bs} (b : Bs), c ∉ a → splitOn c (a ++ c :: b) = a :: splitOn c b
  | [], b, _ => by simp [splitOn]
  | d :: a, b, h => by
    rw [List.mem_cons, not_or] at h
    have h1 : (d == c) = false := by simpa using fun e => h.1 e.symm
    rw [List.cons_append, splitOn, h1, splitOn_app b h.2]
    simp

/-! sets of one interval -/
theorem and_all {n : Int} {a : List Itv} (ha : Ok n a) : opL n andF [noI] a = a := by
  refine opL_eq andF (ok_all ha.sch) ha ha ?_ (fun q => ?_) (fun e he => ?_)
  · show _ = (firstB [noI] && firstB a)
    rw [show firstB [noI] = true from rfl, Bool.true_and]
  · show _ = (inS n [noI] q && inS n a q)
    rw [show inS n [noI] q = true from rfl, Bool.true_and]
  · exact asc_least (L := cutsOf [noI] ++ cutsOf a) (show asc (poss n (cutsOf a)) from ha.asc) e he
theorem inS_one {n : Int} {x : Itv} (h : Ok n [x]) (q : Pos) : inS n [x] q = inI n q x := by
  rw [inS_any h.sch q h.bnd h.ord]; simp
theorem and_two {n : Int} {x : Itv} (hx : Ok n [x]) (hl : x.lk ≠ 0) (hh : x.hk ≠ 0) (ha : Ok n [⟨x.lo, x.lk, [], 0⟩]) (hb : Ok n [⟨[], 0, x.hi, x.hk⟩]) :
    opL n andF [⟨x.lo, x.lk, [], 0⟩] [⟨[], 0, x.hi, x.hk⟩] = [x] := by
  have hcut : cutsOf [(⟨x.lo, x.lk, [], 0⟩ : Itv)] ++ cutsOf [(⟨[], 0, x.hi, x.hk⟩ : Itv)] = cutsOf [x] := by
    simp [cutsOf, hl, hh, Itv.low, Itv.high]
  refine opL_eq andF ha hb hx ?_ (fun q => ?_) (fun e he => ?_)
  · simp [firstB, andF, hl]
  · rw [inS_one ha, inS_one hb, inS_one hx]
    simp only [inI, andF, hl, hh, Itv.low, Itv.high, decide_true, decide_false, Bool.false_or, Bool.true_or, Bool.and_true, Bool.true_and]
    rfl
  · rw [hcut]
    exact asc_least hx.asc e he
theorem cond_alt {n : Int} {v : Bs} {k : Nat} (hk : k < 5) (hn : scheme n = true) (hv : valid n v = true) : altP n (opT k ++ v) = some [condI k v] := by
  obtain ⟨b, u, e, h1, h2⟩ := op_head (v := v) k
  unfold altP
  rw [if_neg (by rw [e]; simp [noneT, h1]), if_neg (by rw [e]; simp [h2]), splitOn_none (op_not hv (by decide +kernel) (by decide) (by decide) (by decide))]
  unfold altGo altGo
  rw [condP_op hk hv]
  simp only
  rw [and_all (condI_ok hn hv)]
theorem cond_alt2 {n : Int} {v u : Bs} {k j : Nat} (hk : k < 5) (hj : j < 5) (hn : scheme n = true) (hv : valid n v = true) (hu : valid n u = true) : altP n (opT k ++ v ++ 32 :: (opT j ++ u)) = some (opL n andF [condI k v] [condI j u]) := by
  obtain ⟨b, t, e, h1, h2⟩ := op_head (v := v) k
  unfold altP
  rw [if_neg (by rw [e]; simp [noneT, h1]), if_neg (by rw [e]; simp [h2]), splitOn_app _ (op_not hv (by decide +kernel) (by decide) (by decide) (by decide)), splitOn_none (op_not hu (by decide +kernel) (by decide) (by decide) (by decide))]
  unfold altGo altGo altGo
  rw [condP_op hk hv, condP_op hj hu]
  simp only
  rw [and_all (condI_ok hn hv)]

/-! a text is parsed back -/
theorem low_cond {n : Int} {x : Itv} (h : boundsB n x = true) (hl : x.lk ≠ 0) : ∃ k, k < 5 ∧ valid n x.lo = true ∧ lowT x = [opT k ++ x.lo] ∧ condI k x.lo = ⟨x.lo, x.lk, [], 0⟩ := by
  have hv : valid n x.lo = true := low_valid h hl
  unfold boundsB at h
  rw [Bool.and_eq_true] at h
  rcases (boundB_yes h.1 hl).1 with e | e
  · exact ⟨0, by omega, hv, by simp [lowT, e, opT], by simp [condI, e]⟩
  · exact ⟨4, by omega, hv, by simp [lowT, e, opT], by simp [condI, e]⟩
theorem high_cond {n : Int} {x : Itv} (h : boundsB n x = true) (hl : x.hk ≠ 0) : ∃ k, k < 5 ∧ valid n x.hi = true ∧ highT x = [opT k ++ x.hi] ∧ condI k x.hi = ⟨[], 0, x.hi, x.hk⟩ := by
  have hv : valid n x.hi = true := high_valid h hl
  unfold boundsB at h
  rw [Bool.and_eq_true] at h
  rcases (boundB_yes h.2 hl).1 with e | e
  · exact ⟨1, by omega, hv, by simp [highT, e, opT], by simp [condI, e]⟩
  · exact ⟨3, by omega, hv, by simp [highT, e, opT], by simp [condI, e]⟩
theorem low_none {n : Int} {x : Itv} (h : boundsB n x = true) (hl : x.lk = 0) : x.lo = [] ∧ lowT x = [] := by
  unfold boundsB at h
  rw [Bool.and_eq_true] at h
  exact ⟨boundB_no h.1 hl, by simp [lowT, hl]⟩
theorem high_none {n : Int} {x : Itv} (h : boundsB n x = true) (hl : x.hk = 0) : x.hi = [] ∧ highT x = [] := by
  unfold boundsB at h
  rw [Bool.and_eq_true] at h
  exact ⟨boundB_no h.2 hl, by simp [highT, hl]⟩
/-- what the text of an interval is -/
structure Back (n : Int) (x : Itv) : Prop where
  alt : altP n (textI x) = some [x]
  bar : (124 : UInt8) ∉ textI x
  len : (textI x).length ≤ 133
theorem text_back {n : Int} {x : Itv} (h : Ok n [x]) : Back n x := by
  have hn := h.sch
  have hb := h.bnd x (by simp)
  by_cases hl : x.lk = 0
  · obtain ⟨e1, e2⟩ := low_none hb hl
    by_cases hh : x.hk = 0
    · obtain ⟨e3, e4⟩ := high_none hb hh
      have e : x = noI := by cases x; simp_all [noI]
      have et : textI x = [42] := by unfold textI; rw [if_pos ⟨hl, hh⟩]
      exact ⟨by rw [et, e]; rfl, by rw [et]; decide, by rw [et]; decide⟩
    · obtain ⟨k, hk, hv, e3, e4⟩ := high_cond hb hh
      have et : textI x = opT k ++ x.hi := by
        unfold textI
        rw [if_neg (fun g => hh g.2), if_neg (fun g => by have := g.1; omega), e2, e3, List.nil_append, Lib.join_one]
      have e : (⟨[], 0, x.hi, x.hk⟩ : Itv) = x := by cases x; simp_all
      exact ⟨by rw [et, cond_alt hk hn hv, e4, e], by rw [et]; exact op_not hv (by decide +kernel) (by decide) (by decide) (by decide), by rw [et]; have := op_len k hv; omega⟩
  · obtain ⟨k, hk, hv, e1, e2⟩ := low_cond hb hl
    by_cases hh : x.hk = 0
    · obtain ⟨e3, e4⟩ := high_none hb hh
      have et : textI x = opT k ++ x.lo := by
        unfold textI
        rw [if_neg (fun g => hl g.1), if_neg (fun g => by have := g.2.1; omega), e1, e4, List.append_nil, Lib.join_one]
      have e : (⟨x.lo, x.lk, [], 0⟩ : Itv) = x := by cases x; simp_all
      exact ⟨by rw [et, cond_alt hk hn hv, e2, e], by rw [et]; exact op_not hv (by decide +kernel) (by decide) (by decide) (by decide), by rw [et]; have := op_len k hv; omega⟩
    · by_cases hq : x.lk = 1 ∧ x.hk = 1 ∧ x.lo = x.hi
      · have et : textI x = opT 2 ++ x.lo := by
          unfold textI
          rw [if_neg (fun g => hl g.1), if_pos hq]
          rfl
        have e : condI 2 x.lo = x := by
          obtain ⟨q1, q2, q3⟩ := hq
          cases x; simp_all [condI]
        exact ⟨by rw [et, cond_alt (by omega) hn hv, e], by rw [et]; exact op_not hv (by decide +kernel) (by decide) (by decide) (by decide), by rw [et]; have := op_len 2 hv; omega⟩
      · obtain ⟨j, hj, hu, e3, e4⟩ := high_cond hb hh
        have et : textI x = opT k ++ x.lo ++ 32 :: (opT j ++ x.hi) := by
          unfold textI
          rw [if_neg (fun g => hl g.1), if_neg hq, e1, e3]
          show Lib.join [_, _] [32] = _
          rw [Lib.join_cons]
          simp [Lib.joinTail]
        have a1 := condI_ok (k := k) hn hv
        have a2 := condI_ok (k := j) hn hu
        rw [e2] at a1
        rw [e4] at a2
        refine ⟨by rw [et, cond_alt2 hk hj hn hv hu, e2, e4, and_two h hl hh a1 a2], ?_, ?_⟩
        · rw [et]
          have b1 := op_not (k := k) hv (c := 124) (by decide +kernel) (by decide) (by decide) (by decide)
          have b2 := op_not (k := j) hu (c := 124) (by decide +kernel) (by decide) (by decide) (by decide)
          rw [List.mem_append, List.mem_cons, not_or, not_or]
          exact ⟨b1, by decide, b2⟩
        · rw [et]
          have b1 := op_len k hv
          have b2 := op_len j hu
          rw [List.length_append, List.length_cons]
          omega

/-! parts of a valid list -/
theorem ok_pre {n : Int} {a b : List Itv} (h : Ok n (a ++ b)) : Ok n a := by
  refine ⟨h.sch, by have := h.len; rw [List.length_append] at this; omega, fun x hx => h.bnd x (by simp [hx]), ord_of (fun k hk => ?_)⟩
  have := to_ord h.ord k (by rw [List.length_append]; omega)
  unfold okAt at this ⊢
  have e : ∀ j, j ≤ k → (a ++ b).getD j noI = a.getD j noI := fun j hj => by
    rw [List.getD_eq_getElem?_getD, List.getD_eq_getElem?_getD, List.getElem?_append_left (by omega)]
  rwa [e k (by omega), e (k - 1) (by omega)] at this
theorem ok_one {n : Int} {a : List Itv} (h : Ok n a) {x : Itv} (hx : x ∈ a) : Ok n [x] := by
  obtain ⟨k, hk, rfl⟩ := List.getElem_of_mem hx
  have := to_ord h.ord k hk
  unfold okAt at this
  rw [Bool.and_eq_true] at this
  refine ⟨h.sch, by simp, fun y hy => by rw [List.mem_singleton.1 hy]; exact h.bnd _ hx, ⟨?_, ⟨(fun z hz => by cases hz), trivial⟩⟩⟩
  have := this.1
  rwa [List.getD_eq_getElem?_getD, List.getElem?_eq_getElem hk] at this
theorem union_step {n : Int} {a : List Itv} {x : Itv} (h : Ok n (a ++ [x])) : opL n orF a [x] = a ++ [x] := by
  have ha := ok_pre h
  have hx := ok_one h (x := x) (by simp)
  refine opL_eq orF ha hx h ?_ (fun q => ?_) (fun e he => ?_)
  · unfold firstB orF; rw [List.any_append]
  · rw [inS_any h.sch q h.bnd h.ord, inS_any ha.sch q ha.bnd ha.ord, inS_any hx.sch q hx.bnd hx.ord, List.any_append]
    rfl
  · rw [← cutsOf_app]
    exact asc_least h.asc e he
theorem union_back {n : Int} : ∀ (r a : List Itv), Ok n (a ++ r) → unionGo n a (r.map fun x => [x]) = some (a ++ r)
  | [], a, _ => by simp [unionGo]
  | x :: r, a, h => by
    have h1 : Ok n (a ++ [x] ++ r) := by rw [List.append_assoc]; exact h
    have h2 := ok_pre h1
    rw [List.map_cons]
    unfold unionGo
    rw [union_step h2, if_pos h2.len, union_back r (a ++ [x]) h1, List.append_assoc]
    rfl
theorem alts_back {n : Int} : ∀ (l : List Itv), (∀ x ∈ l, Back n x) → altsP n (l.map textI) = some (l.map fun x => [x])
  | [], _ => rfl
  | x :: l, h => by
    rw [List.map_cons, List.map_cons]
    unfold altsP
    rw [(h x (by simp)).alt, alts_back l (fun y hy => h y (by simp [hy]))]
theorem lens_le {l : List Bs} {m : Nat} : (∀ x ∈ l, x.length ≤ m) → Lib.lens l ≤ l.length * m := by
  intro h
  induction l with
  | nil => simp [Lib.lens]
  | cons x l ih =>
    have h1 := h x (by simp)
    have h2 := ih (fun y hy => h y (by simp [hy]))
    unfold Lib.lens at h2 ⊢
    rw [List.map_cons, List.sum_cons, List.length_cons, Nat.add_mul]
    omega
theorem join_le {r : List Bs} {x : Bs} {m : Nat} (h : ∀ y ∈ x :: r, y.length ≤ m) : (Lib.join (x :: r) orT).length ≤ (r.length + 1) * (m + 4) := by
  have h1 := lens_le h
  rw [Lib.join_length]
  rw [List.length_cons] at h1
  rw [show orT.length = 4 from rfl]
  have : (r.length + 1) * (m + 4) = (r.length + 1) * m + (r.length + 1) * 4 := Nat.mul_add _ _ _
  omega
theorem nil_nil {n : Int} (h : scheme n = true) : opL n orF [] [] = [] := opL_eq orF (ok_nil h) (ok_nil h) (ok_nil h) rfl (fun q => rfl) (fun e he => by cases he)
theorem parse_back {n : Int} {l : List Itv} (h : Ok n l) : rgParse n (textL l) = (some l, 0) := by
  have hn := h.sch
  rcases l with _ | ⟨x, r⟩
  · unfold rgParse
    rw [if_pos hn, if_pos (by decide)]
    have e : Lib.split (textL []) orT = [noneT] := by
      have := split_join [] noneT (by decide)
      rwa [Lib.join_one] at this
    rw [e]
    have e2 : altsP n [noneT] = some [[]] := rfl
    rw [e2]
    simp only
    unfold unionGo unionGo
    rw [nil_nil hn]
    rfl
  · have hb : ∀ y ∈ x :: r, Back n y := fun y hy => text_back (ok_one h hy)
    have e : textL (x :: r) = Lib.join (textI x :: r.map textI) orT := rfl
    have hbar : ∀ y ∈ textI x :: r.map textI, (124 : UInt8) ∉ y := by
      intro y hy
      rw [← List.map_cons (f := textI), List.mem_map] at hy
      obtain ⟨z, hz, rfl⟩ := hy
      exact (hb z hz).bar
    have hle : ∀ y ∈ textI x :: r.map textI, y.length ≤ 133 := by
      intro y hy
      rw [← List.map_cons (f := textI), List.mem_map] at hy
      obtain ⟨z, hz, rfl⟩ := hy
      exact (hb z hz).len
    have h1 := join_le hle
    have h2 := h.len
    rw [List.length_map] at h1
    rw [List.length_cons] at h2
    unfold rgParse
    rw [if_pos hn, e, if_pos (by omega), split_join _ _ hbar, ← List.map_cons (f := textI), alts_back _ hb]
    have := union_back (n := n) (x :: r) [] h
    simp only [this, List.nil_append]

/-! texts of a maker's kind -/
/-- an alternative of a maker's kind -/
def AltM (n : Int) (s : Bs) : Prop := s = noneT ∨ s = [42] ∨ (∃ k v, k < 5 ∧ valid n v = true ∧ s = opT k ++ v) ∨ ∃ k v j u, k < 5 ∧ j < 5 ∧ valid n v = true ∧ valid n u = true ∧ s = opT k ++ v ++ 32 :: (opT j ++ u)
theorem AltM.ok {n : Int} (hn : scheme n = true) {s : Bs} (h : AltM n s) : (124 : UInt8) ∉ s ∧ s.length ≤ 133 ∧ ∃ a, altP n s = some a := by
  rcases h with rfl | rfl | ⟨k, v, hk, hv, rfl⟩ | ⟨k, v, j, u, hk, hj, hv, hu, rfl⟩
  · exact ⟨by decide, by decide, _, rfl⟩
  · exact ⟨by decide, by decide, _, rfl⟩
  · exact ⟨op_not hv (by decide +kernel) (by decide) (by decide) (by decide), by have := op_len k hv; omega, _, cond_alt hk hn hv⟩
  · have b1 := op_not (k := k) hv (c := 124) (by decide +kernel) (by decide) (by decide) (by decide)
    have b2 := op_not (k := j) hu (c := 124) (by decide +kernel) (by decide) (by decide) (by decide)
    have c1 := op_len k hv
    have c2 := op_len j hu
    refine ⟨by rw [List.mem_append, List.mem_cons, not_or, not_or]; exact ⟨b1, by decide, b2⟩, by rw [List.length_append, List.length_cons]; omega, _, cond_alt2 hk hj hn hv hu⟩
theorem alts_made {n : Int} (hn : scheme n = true) : ∀ {l : List Bs}, (∀ s ∈ l, AltM n s) → ∃ xs, altsP n l = some xs
  | [], _ => ⟨_, rfl⟩
  | s :: l, h => by
    obtain ⟨_, _, a, ha⟩ := (h s (by simp)).ok hn
    obtain ⟨xs, hxs⟩ := alts_made hn (l := l) (fun y hy => h y (by simp [hy]))
    exact ⟨a :: xs, by unfold altsP; rw [ha, hxs]⟩
theorem union_made {n : Int} : ∀ {xs : List (List Itv)} {out : List Itv} {k : Nat}, Few n out k → (∀ x ∈ xs, One n x) → k + 2 * xs.length ≤ 31 → ∃ r, unionGo n out xs = some r ∧ Few n r (k + 2 * xs.length)
  | [], out, k, h, _, _ => ⟨out, rfl, h⟩
  | x :: xs, out, k, h, hx, hk => by
    rw [List.length_cons] at hk
    have h1 := h.op (hx x (by simp)).few orF (by omega)
    obtain ⟨r, e, hr⟩ := union_made (xs := xs) h1 (fun y hy => hx y (by simp [hy])) (by omega)
    refine ⟨r, ?_, ?_⟩
    · unfold unionGo; rw [if_pos h1.ok.len, e]
    · rw [List.length_cons]
      exact ⟨hr.ok, by have := hr.few; omega⟩
theorem made_parse {n : Int} (hn : scheme n = true) {x : Bs} {r : List Bs} (h : ∀ s ∈ x :: r, AltM n s) (hr : r.length ≤ 3) : ∃ l, rgParse n (Lib.join (x :: r) orT) = (some l, 0) ∧ Few n l 8 := by
  have hbar : ∀ s ∈ x :: r, (124 : UInt8) ∉ s := fun s hs => ((h s hs).ok hn).1
  have hle := join_le (fun s hs => ((h s hs).ok hn).2.1)
  obtain ⟨xs, hxs⟩ := alts_made hn h
  have hone := altsP_one hn hxs
  have hlx : xs.length ≤ 4 := by rw [hone.1, List.length_cons]; omega
  obtain ⟨l, hl, hf⟩ := union_made (Few.nil hn) hone.2 (by omega)
  refine ⟨l, ?_, hf.ok, by have := hf.few; omega⟩
  unfold rgParse
  rw [if_pos hn, if_pos (by have : (r.length + 1) * (133 + 4) ≤ 4 * 137 := Nat.mul_le_mul (by omega) (by omega); omega), split_join _ _ hbar, hxs]
  simp only [hl]
end Go.Proofs.YtolojkkhmamddaaGreatDoor.V
namespace Go.Proofs.YtolojkkhmamddaaGreatDoor.V

/-- a cut that can be compared -/
def EcOk (n : Int) (x : Ec) : Prop := x = ebot ∨ x = etop ∨ ∃ c : Cut, valid n c.1 = true ∧ x = eat c
theorem eLow_ok {n : Int} {x : Itv} (h : boundsB n x = true) : EcOk n (eLow x) := by
  by_cases hk : x.lk = 0
  · exact .inl (eLow_no hk)
  · exact .inr (.inr ⟨x.low, low_valid h hk, eLow_at h hk⟩)
theorem eHigh_ok {n : Int} {x : Itv} (h : boundsB n x = true) : EcOk n (eHigh x) := by
  by_cases hk : x.hk = 0
  · exact .inr (.inl (eHigh_no hk))
  · exact .inr (.inr ⟨x.high, high_valid h hk, eHigh_at h hk⟩)
theorem ecmp_inside {n : Int} {x : Itv} (h : boundsB n x = true) : decide (ecmp n (eLow x) (eHigh x) < 0) = insideB n x := by
  unfold insideB
  by_cases h1 : x.lk = 0
  · rw [eLow_no h1, decide_eq_true h1, Bool.true_or]
    refine decide_eq_true ?_
    by_cases h2 : x.hk = 0
    · rw [eHigh_no h2]; unfold ecmp ebot etop; simp
    · rw [eHigh_at h h2]; unfold ecmp ebot eat; simp
  · rw [decide_eq_false h1, Bool.false_or]
    by_cases h2 : x.hk = 0
    · rw [decide_eq_true h2, Bool.true_or, eLow_at h h1, eHigh_no h2]
      exact decide_eq_true (by unfold ecmp eat etop; simp)
    · rw [decide_eq_false h2, Bool.false_or, eLow_at h h1, eHigh_at h h2, ecmp_at]
theorem ecmp_next {n : Int} {y x : Itv} (hy : boundsB n y = true) (hx : boundsB n x = true) : decide (ecmp n (eHigh y) (eLow x) < 0) = nextB n y x := by
  unfold nextB
  by_cases h1 : y.hk = 0
  · rw [eHigh_no h1, decide_eq_true h1]
    refine decide_eq_false ?_
    by_cases h2 : x.lk = 0
    · rw [eLow_no h2]; unfold ecmp etop ebot; simp
    · rw [eLow_at hx h2]; unfold ecmp etop eat; simp
  · rw [decide_eq_false h1]
    by_cases h2 : x.lk = 0
    · rw [decide_eq_true h2, eHigh_at hy h1, eLow_no h2]
      exact decide_eq_false (by unfold ecmp eat ebot; simp)
    · rw [decide_eq_false h2, eHigh_at hy h1, eLow_at hx h2, ecmp_at]
      rfl
theorem ecmp_rng {n : Int} (hn : scheme n = true) {a b : Ec} (ha : EcOk n a) (hb : EcOk n b) : -2 ≤ ecmp n a b ∧ ecmp n a b ≤ 2 := by
  rcases ha with rfl | rfl | ⟨c, hc, rfl⟩ <;> rcases hb with rfl | rfl | ⟨d, hd, rfl⟩
  all_goals first
    | (rw [ecmp_at, cutC_pos hn hc hd]; have := cp_rng (pos n c) (pos n d); omega)
    | (unfold ecmp ebot etop; simp; done)
    | (unfold ecmp eat ebot; simp; done)
    | (unfold ecmp eat etop; simp; done)
    | (unfold ecmp ebot; simp; done)
    | (unfold ecmp etop; simp; done)
end Go.Proofs.YtolojkkhmamddaaGreatDoor.V
namespace Go.Proofs.YtolojkkhmamddaaGreatDoor.V

theorem radd_ok {n : Int} {x : Ec} (hx : EcOk n x) : ∀ {l : List Ec}, (∀ y ∈ l, EcOk n y) → ∀ y ∈ radd n x l, EcOk n y
  | [], _, y, hy => by
    rw [radd] at hy
    rw [List.mem_singleton.1 hy]; exact hx
  | z :: l, h, y, hy => by
    have ih := radd_ok hx (l := l) (fun y hy => h y (by simp [hy]))
    unfold radd at hy
    split at hy
    · rcases List.mem_cons.1 hy with rfl | hy
      · exact h _ (by simp)
      · exact ih y hy
    · split at hy
      · rcases List.mem_cons.1 hy with rfl | hy
        · split
          · exact h _ (by simp)
          · exact hx
        · exact h y (by simp [hy])
      · rcases List.mem_cons.1 hy with rfl | hy
        · exact hx
        · exact h y hy
theorem radd_len (n : Int) (x : Ec) : ∀ l : List Ec, (radd n x l).length ≤ l.length + 1 ∧ 0 < (radd n x l).length
  | [] => by simp [radd]
  | z :: l => by
    have ih := radd_len n x l
    unfold radd
    split
    · simp; omega
    · split
      · simp
      · simp
theorem addI_ok {n : Int} {x : Itv} (hx : boundsB n x = true) {l : List Ec} (h : ∀ y ∈ l, EcOk n y) : ∀ y ∈ addI n l x, EcOk n y :=
  radd_ok (eHigh_ok hx) (radd_ok (eLow_ok hx) h)
theorem addI_len (n : Int) (l : List Ec) (x : Itv) : (addI n l x).length ≤ l.length + 2 := by
  have h1 := (radd_len n (eLow x) l).1
  have h2 := (radd_len n (eHigh x) (radd n (eLow x) l)).1
  unfold addI
  omega
theorem fold_ok {n : Int} : ∀ {m : List Itv} {l : List Ec}, (∀ x ∈ m, boundsB n x = true) → (∀ y ∈ l, EcOk n y) → ∀ y ∈ m.foldl (addI n) l, EcOk n y
  | [], _, _, h => h
  | x :: m, l, hm, h => fold_ok (m := m) (fun z hz => hm z (by simp [hz])) (addI_ok (hm x (by simp)) h)
theorem fold_len (n : Int) : ∀ (m : List Itv) (l : List Ec), (m.foldl (addI n) l).length ≤ l.length + 2 * m.length
  | [], l => by simp
  | x :: m, l => by
    have h1 := fold_len n m (addI n l x)
    have h2 := addI_len n l x
    rw [List.foldl_cons, List.length_cons]
    omega
theorem fold_pos (n : Int) : ∀ (m : List Itv) (l : List Ec), 0 < l.length → 0 < (m.foldl (addI n) l).length
  | [], _l, h => h
  | x :: m, l, _h => fold_pos n m (addI n l x) (radd_len n _ _).2
theorem fold_step {n : Int} {m : List Itv} {k : Nat} (l : List Ec) (h : k < m.length) : (m.take (k + 1)).foldl (addI n) l = radd n (eHigh m[k]) (radd n (eLow m[k]) ((m.take k).foldl (addI n) l)) := by
  rw [List.take_succ_eq_append_getElem h, List.foldl_append]
  rfl
theorem ends_ok (n : Int) : ∀ y ∈ [ebot, etop], EcOk n y := by
  intro y hy
  simp at hy
  rcases hy with rfl | rfl
  · exact .inl rfl
  · exact .inr (.inl rfl)
theorem EcOk.side {n : Int} {x : Ec} (h : EcOk n x) : 0 ≤ x.s ∧ x.s ≤ 1 := by
  rcases h with rfl | rfl | ⟨c, _, rfl⟩
  · simp [ebot]
  · simp [etop]
  · unfold eat; split <;> simp

/-! pieces -/
theorem rrun_skip {h : Ec → Ec → Bool} {C : List Ec} {i : Nat} (hi : i + 1 < C.length) (hn : h C[i] C[i + 1] = false) : rrun h none (C.drop i) = rrun h none (C.drop (i + 1)) := by
  rw [List.drop_eq_getElem_cons (by omega : i < C.length), List.drop_eq_getElem_cons hi]
  rw [rrun]
  simp [hn]
theorem rrun_open {h : Ec → Ec → Bool} {C : List Ec} {i : Nat} (hi : i + 1 < C.length) (hn : h C[i] C[i + 1] = true) : rrun h none (C.drop i) = rrun h (some C[i]) (C.drop (i + 1)) := by
  rw [List.drop_eq_getElem_cons (by omega : i < C.length), List.drop_eq_getElem_cons hi]
  rw [rrun]
  simp [hn]
theorem rrun_on {h : Ec → Ec → Bool} {C : List Ec} {i : Nat} {f : Ec} (hi : i + 1 < C.length) (hn : h C[i] C[i + 1] = true) : rrun h (some f) (C.drop i) = rrun h (some f) (C.drop (i + 1)) := by
  rw [List.drop_eq_getElem_cons (by omega : i < C.length), List.drop_eq_getElem_cons hi]
  rw [rrun]
  simp [hn]
theorem rrun_end {h : Ec → Ec → Bool} {C : List Ec} {i : Nat} (hi : ¬ i + 1 < C.length) : rrun h none (C.drop i) = [] := by
  have hl : (C.drop i).length ≤ 1 := by rw [List.length_drop]; omega
  rcases hd : C.drop i with _ | ⟨e, _ | ⟨e', l⟩⟩
  · rfl
  · rfl
  · rw [hd] at hl; simp at hl
theorem rrun_close {h : Ec → Ec → Bool} {C : List Ec} {i : Nat} {f : Ec} (hi : i < C.length) (hn : ∀ hj : i + 1 < C.length, h C[i] C[i + 1] = false) : rrun h (some f) (C.drop i) = btw f C[i] :: rrun h none (C.drop i) := by
  by_cases hj : i + 1 < C.length
  · have := hn hj
    rw [List.drop_eq_getElem_cons hi, List.drop_eq_getElem_cons hj, rrun, rrun]
    simp [this]
  · rw [List.drop_eq_getElem_cons hi, List.drop_eq_nil_of_le (by omega), rrun, rrun]
theorem rrun_len (h : Ec → Ec → Bool) : ∀ (l : List Ec) (f : Option Ec), (rrun h f l).length ≤ l.length
  | [], f => by simp [rrun]
  | [e], none => by simp [rrun]
  | [e], some f => by simp [rrun]
  | e :: e' :: l, none => by
    have h1 := rrun_len h (e' :: l) (some e)
    have h2 := rrun_len h (e' :: l) none
    rw [rrun]
    split <;> simp at * <;> omega
  | e :: e' :: l, some f => by
    have h1 := rrun_len h (e' :: l) (some f)
    have h2 := rrun_len h (e' :: l) none
    rw [rrun]
    split <;> simp at * <;> omega
end Go.Proofs.YtolojkkhmamddaaGreatDoor.V
