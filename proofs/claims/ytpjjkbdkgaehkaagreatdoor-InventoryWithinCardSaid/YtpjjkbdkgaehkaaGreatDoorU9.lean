/-
  Plain Lean, no program: what range sets contain, when one lies in another, the algebra of sets.
  Plain Lean, no program: texts of range sets, and what is parsed from them.
  Plain Lean, no program: what the operations on range sets return.
  Plain Lean, no program: a range set is parsed from its text; texts of a maker's kind are parsed.
  Plain Lean, no program: the reference's cuts; when a list of intervals is in order by them.
  Plain Lean, no program: how the reference's lists of cuts and of pieces grow.
-/
import Derived.Test.YtpjjkbdkgaehkaaGreatDoorU4
import Derived.Test.YtpjjkbdkgaehkaaGreatDoorP6
import Derived.Lib.Join
import Derived.Lib.Split
import Derived.Lib.CountLaws
namespace Go.Proofs.YtpjjkbdkgaehkaaGreatDoor.V

/-- the program's Contains -/
def hasL (n : Int) (l : List Itv) (v : Bs) : Bool := l.any fun x => (decide (x.lk = 0) || decide (cutC n x.low (v, false) ≤ 0)) && (decide (x.hk = 0) || decide (0 ≤ cutC n x.high (v, true)))
def containsL (n : Int) (l : List Itv) (v : Bs) : Bool := okR n l && (valid n v && hasL n l v)
/-- the reference's -/
def aboveB (n : Int) (v : Bs) (x : Itv) : Bool := decide (x.lk = 0) || (decide (0 < cmpV n v x.lo) || (decide (cmpV n v x.lo = 0) && decide (x.lk = 1)))
def belowB (n : Int) (v : Bs) (x : Itv) : Bool := decide (x.hk = 0) || (decide (cmpV n v x.hi < 0) || (decide (cmpV n v x.hi = 0) && decide (x.hk = 1)))
def hasR (n : Int) (l : List Itv) (v : Bs) : Bool := l.any fun x => aboveB n v x && belowB n v x
theorem any_same {α : Type} {p q : α → Bool} {l : List α} (h : ∀ x ∈ l, p x = q x) : l.any p = l.any q := by
  rw [Bool.eq_iff_iff, List.any_eq_true, List.any_eq_true]
  constructor
  · rintro ⟨x, hx, g⟩; exact ⟨x, hx, by rw [← h x hx]; exact g⟩
  · rintro ⟨x, hx, g⟩; exact ⟨x, hx, by rw [h x hx]; exact g⟩
theorem hasR_hasL {n : Int} (hn : scheme n = true) {l : List Itv} (hb : ∀ x ∈ l, boundsB n x = true) {v : Bs} (hv : valid n v = true) : hasR n l v = hasL n l v := by
  refine any_same (fun x hx => ?_)
  have hbx := hb x hx
  have e1 : aboveB n v x = (decide (x.lk = 0) || decide (cutC n x.low (v, false) ≤ 0)) := by
    unfold aboveB
    by_cases hk : x.lk = 0
    · rw [decide_eq_true hk]; rfl
    · have hlv : valid n x.lo = true := low_valid hbx hk
      rw [decide_eq_false hk, Bool.false_or, Bool.false_or]
      have hc : cmpV n v x.lo = - cmpV n x.lo v := (total_law hn hv hlv hv).1
      have hr := cb_rng (keyV n x.lo) (keyV n v)
      rw [key_law hn hlv hv] at hr
      unfold boundsB at hbx
      rw [Bool.and_eq_true] at hbx
      unfold cutC Itv.low
      simp only
      rcases (boundB_yes hbx.1 hk).1 with e | e <;> rw [hc, e] <;> rcases hr with h | h | h <;> simp  at h ⊢ <;> simp [h]
  have e2 : belowB n v x = (decide (x.hk = 0) || decide (0 ≤ cutC n x.high (v, true))) := by
    unfold belowB
    by_cases hk : x.hk = 0
    · rw [decide_eq_true hk]; rfl
    · have hlv : valid n x.hi = true := high_valid hbx hk
      rw [decide_eq_false hk, Bool.false_or, Bool.false_or]
      have hc : cmpV n v x.hi = - cmpV n x.hi v := (total_law hn hv hlv hv).1
      have hr := cb_rng (keyV n x.hi) (keyV n v)
      rw [key_law hn hlv hv] at hr
      unfold boundsB at hbx
      rw [Bool.and_eq_true] at hbx
      unfold cutC Itv.high
      simp only
      rcases (boundB_yes hbx.2 hk).1 with e | e <;> rw [hc, e] <;> rcases hr with h | h | h <;> simp  at h ⊢ <;> simp [h]
  rw [e1, e2]
/-! subsets -/
def orF (x y : Bool) : Bool := x || y
def andF (x y : Bool) : Bool := x && y
theorem cuts_op {n : Int} (f : Bool → Bool → Bool) {a b : List Itv} (ha : Ok n a) (hb : Ok n b) : (cutsOf (opL n f a b)).length ≤ (cutsOf a).length + (cutsOf b).length := by
  unfold opL
  rw [cuts_start]
  exact (opL_comb f ha hb).len
theorem len_op {n : Int} (f : Bool → Bool → Bool) {a b : List Itv} (ha : Ok n a) (hb : Ok n b) : (opL n f a b).length ≤ (cutsOf a).length + (cutsOf b).length + 1 := by
  have h1 := (opL_comb f ha hb).len
  have h4 := len_ofC (start (f (firstB a) (firstB b))) (comb n f (firstB a) (firstB b) (f (firstB a) (firstB b)) (cutsOf a) (cutsOf b))
  unfold opL
  omega
theorem ok_nil {n : Int} (h : scheme n = true) : Ok n [] := ⟨h, by simp, (fun x hx => by cases hx), trivial⟩
theorem ok_all {n : Int} (h : scheme n = true) : Ok n [noI] := ⟨h, by simp, (fun x hx => by rw [List.mem_singleton.1 hx]; rfl), rfl, (fun z hz => by cases hz), trivial⟩

/-- two sets with few cuts: what the laws say of their combinations -/
structure Few (n : Int) (a : List Itv) (k : Nat) : Prop where
  ok : Ok n a
  few : (cutsOf a).length ≤ k
theorem Few.op {n : Int} {a b : List Itv} {j k : Nat} (ha : Few n a j) (hb : Few n b k) (f : Bool → Bool → Bool) (h : j + k ≤ 31) : Few n (opL n f a b) (j + k) := by
  have h1 := ha.few
  have h2 := hb.few
  have h3 := cuts_op f ha.ok hb.ok
  have h4 := len_op f ha.ok hb.ok
  exact ⟨opL_ok f ha.ok hb.ok (by omega), by omega⟩
theorem Few.nil {n : Int} (h : scheme n = true) : Few n [] 0 := ⟨ok_nil h, by simp [cutsOf]⟩
theorem Few.len {n : Int} {a : List Itv} {j : Nat} (ha : Few n a j) : a.length ≤ 32 := ha.ok.len

end Go.Proofs.YtpjjkbdkgaehkaaGreatDoor.V
namespace Go.Proofs.YtpjjkbdkgaehkaaGreatDoor.V

/-! texts -/
def noneT : Bs := [110, 111, 110, 101]
def orT : Bs := [32, 124, 124, 32]
/-! what is parsed -/
/-- which condition begins s, and what follows -/
def opOf (s : Bs) : Option (Nat × Bs) :=
  if s.take 2 = [62, 61] then some (0, s.drop 2) else if s.take 2 = [60, 61] then some (1, s.drop 2) else if s.take 1 = [61] then some (2, s.drop 1) else if s.take 1 = [60] then some (3, s.drop 1) else if s.take 1 = [62] then some (4, s.drop 1) else none
def condI (k : Nat) (v : Bs) : Itv :=
  if k = 0 then ⟨v, 1, [], 0⟩ else if k = 1 then ⟨[], 0, v, 1⟩ else if k = 2 then ⟨v, 1, v, 1⟩ else if k = 3 then ⟨[], 0, v, 2⟩ else ⟨v, 2, [], 0⟩
def condP (n : Int) (s : Bs) : Option Itv := match opOf s with | none => none | some (k, v) => if valid n v then some (condI k v) else none
def altGo (n : Int) (out : List Itv) : List Bs → Option (List Itv)
  | [] => some out
  | c :: r => match condP n c with | none => none | some x => altGo n (opL n andF out [x]) r
def altP (n : Int) (s : Bs) : Option (List Itv) := if s = noneT then some [] else if s = [42] then some [noI] else altGo n [noI] (splitOn 32 s)
def altsP (n : Int) : List Bs → Option (List (List Itv))
  | [] => some []
  | s :: r => match altP n s with | none => none | some x => match altsP n r with | none => none | some xs => some (x :: xs)
/-- the union of all, as long as no one is too large -/
def unionGo (n : Int) (out : List Itv) : List (List Itv) → Option (List Itv)
  | [] => some out
  | x :: r => if (opL n orF out x).length ≤ 32 then unionGo n (opL n orF out x) r else none
/-- the result of Parse: a set, or an error -/
def rgParse (n : Int) (s : Bs) : Option (List Itv) × Int :=
  if scheme n then (if s.length ≤ 8192 then (match altsP n (Lib.split s orT) with | none => (none, 2) | some xs => match unionGo n [] xs with | none => (none, 3) | some l => (some l, 0)) else (none, 3)) else (none, 14)

/-! conditions make sets of one interval -/
theorem condI_ok {n : Int} {k : Nat} {v : Bs} (hn : scheme n = true) (hv : valid n v = true) : Ok n [condI k v] := by
  have hc : cmpV n v v = 0 := (total_law hn hv hv hv).2.1
  have hb : boundsB n (condI k v) = true ∧ insideB n (condI k v) = true := by
    unfold condI boundsB boundB insideB
    repeat' split
    all_goals simp_all [cutC, Itv.low, Itv.high]
  exact ⟨hn, by simp, (fun x hx => by rw [List.mem_singleton.1 hx]; exact hb.1), hb.2, (fun z hz => by cases hz), trivial⟩
theorem condP_ok {n : Int} (hn : scheme n = true) {s : Bs} {x : Itv} (h : condP n s = some x) : Ok n [x] := by
  unfold condP at h
  split at h
  · cases h
  · split at h
    · cases h
      exact condI_ok hn ‹_›
    · cases h

/-! sets of at most one interval stay so -/
def Convex (n : Int) (a : List Itv) : Prop := (∀ p q r, plt p q → plt q r → inS n a p = true → inS n a r = true → inS n a q = true) ∧ (firstB a = true → ∀ q r, plt q r → inS n a r = true → inS n a q = true)
theorem one_convex {n : Int} {a : List Itv} (ha : Ok n a) (h : a.length ≤ 1) : Convex n a := by
  rcases a with _ | ⟨x, _ | ⟨y, l⟩⟩
  · exact ⟨(fun p q r _ _ h => by cases h), (fun h => by cases h)⟩
  · have e : ∀ q, inS n [x] q = inI n q x := fun q => by rw [inS_any ha.sch q ha.bnd ha.ord]; simp
    constructor
    · intro p q r h1 h2 h3 h4
      rw [e] at h3 h4 ⊢
      unfold inI at h3 h4 ⊢
      simp only [Bool.and_eq_true, Bool.or_eq_true, decide_eq_true_eq, Bool.not_eq_true', decide_eq_false_iff_not] at h3 h4 ⊢
      refine ⟨h3.1.imp id fun g gq => g (plt_trans h1 gq), h4.2.imp id fun g => plt_trans h2 g⟩
    · intro hf q r h2 h4
      rw [e] at h4 ⊢
      unfold inI at h4 ⊢
      have hk : x.lk = 0 := by simpa [firstB] using hf
      simp only [Bool.and_eq_true, Bool.or_eq_true, decide_eq_true_eq, Bool.not_eq_true', decide_eq_false_iff_not] at h4 ⊢
      exact ⟨.inl hk, h4.2.imp id fun g => plt_trans h2 g⟩
  · simp at h
theorem convex_one {n : Int} {x : Bool} {R : List Cut} (ha : asc (poss n R)) (h1 : ∀ p q r, plt p q → plt q r → mem x (poss n R) p = true → mem x (poss n R) r = true → mem x (poss n R) q = true) (h2 : x = true → ∀ q r, plt q r → mem x (poss n R) r = true → mem x (poss n R) q = true) :
    (ofC (start x) R).length ≤ 1 := by
  cases x
  · rcases R with _ | ⟨c, _ | ⟨d, _ | ⟨e, R⟩⟩⟩
    · simp [start, ofC]
    · simp [start, ofC]
    · simp [start, ofC]
    · exfalso
      obtain ⟨a1, a2⟩ := List.pairwise_cons.1 (show asc (pos n c :: poss n (d :: e :: R)) from ha)
      obtain ⟨b1, b2⟩ := List.pairwise_cons.1 (show asc (pos n d :: poss n (e :: R)) from a2)
      obtain ⟨c1, c2⟩ := List.pairwise_cons.1 (show asc (pos n e :: poss n R) from b2)
      have hcd := a1 (pos n d) (by simp [poss])
      have hde := b1 (pos n e) (by simp [poss])
      have hce := plt_trans hcd hde
      have m1 : mem false (poss n (c :: d :: e :: R)) (pos n c) = true := by
        show mem false (pos n c :: pos n d :: pos n e :: poss n R) _ = true
        rw [mem_cons, if_neg (plt_irrefl _), mem_cons, if_pos hcd]; rfl
      have m2 : mem false (poss n (c :: d :: e :: R)) (pos n d) = false := by
        show mem false (pos n c :: pos n d :: pos n e :: poss n R) _ = false
        rw [mem_cons, if_neg (plt_asymm hcd), mem_cons, if_neg (plt_irrefl _), mem_cons, if_pos hde]; rfl
      have m3 : mem false (poss n (c :: d :: e :: R)) (pos n e) = true := by
        show mem false (pos n c :: pos n d :: pos n e :: poss n R) _ = true
        rw [mem_cons, if_neg (plt_asymm hce), mem_cons, if_neg (plt_asymm hde), mem_cons, if_neg (plt_irrefl _), mem_lt c1]; rfl
      rw [h1 _ _ _ hcd hde m1 m3] at m2
      cases m2
  · rcases R with _ | ⟨c, _ | ⟨d, R⟩⟩
    · simp [start, ofC]
    · simp [start, ofC]
    · exfalso
      obtain ⟨a1, a2⟩ := List.pairwise_cons.1 (show asc (pos n c :: poss n (d :: R)) from ha)
      obtain ⟨b1, b2⟩ := List.pairwise_cons.1 (show asc (pos n d :: poss n R) from a2)
      have hcd := a1 (pos n d) (by simp [poss])
      have m1 : mem true (poss n (c :: d :: R)) (pos n c) = false := by
        show mem true (pos n c :: pos n d :: poss n R) _ = false
        rw [mem_cons, if_neg (plt_irrefl _), mem_cons, if_pos hcd]; rfl
      have m3 : mem true (poss n (c :: d :: R)) (pos n d) = true := by
        show mem true (pos n c :: pos n d :: poss n R) _ = true
        rw [mem_cons, if_neg (plt_asymm hcd), mem_cons, if_neg (plt_irrefl _), mem_lt b1]; rfl
      rw [h2 rfl _ _ hcd m3] at m1
      cases m1
/-- a set of at most one interval -/
structure One (n : Int) (a : List Itv) : Prop where
  ok : Ok n a
  one : a.length ≤ 1
theorem One.and {n : Int} {a b : List Itv} (ha : One n a) (hb : One n b) : One n (opL n andF a b) := by
  have h : (opL n andF a b).length ≤ 1 := by
    have ca := one_convex ha.ok ha.one
    have cb := one_convex hb.ok hb.one
    have hco := opL_comb andF ha.ok hb.ok
    have both : ∀ q, mem (andF (firstB a) (firstB b)) (poss n (comb n andF (firstB a) (firstB b) (andF (firstB a) (firstB b)) (cutsOf a) (cutsOf b))) q = true ↔ inS n a q = true ∧ inS n b q = true := fun q => by
      rw [hco.val]
      show andF (inS n a q) (inS n b q) = true ↔ _
      unfold andF
      rw [Bool.and_eq_true]
    refine convex_one hco.asc (fun p q r h1 h2 h3 h4 => ?_) (fun hx q r h1 h2 => ?_)
    · rw [both] at h3 h4 ⊢
      exact ⟨ca.1 p q r h1 h2 h3.1 h4.1, cb.1 p q r h1 h2 h3.2 h4.2⟩
    · rw [both] at h2 ⊢
      unfold andF at hx
      rw [Bool.and_eq_true] at hx
      exact ⟨ca.2 hx.1 q r h1 h2.1, cb.2 hx.2 q r h1 h2.2⟩
  exact ⟨opL_ok _ ha.ok hb.ok (by omega), h⟩
theorem one_nil {n : Int} (h : scheme n = true) : One n [] := ⟨ok_nil h, by simp⟩
theorem one_all {n : Int} (h : scheme n = true) : One n [noI] := ⟨ok_all h, by simp⟩
theorem One.few {n : Int} {a : List Itv} (h : One n a) : Few n a 2 := ⟨h.ok, by have := cutsOf_len a; have := h.one; omega⟩
theorem altGo_one {n : Int} (hn : scheme n = true) : ∀ {l : List Bs} {out r : List Itv}, One n out → altGo n out l = some r → One n r
  | [], out, r, h, e => by cases e; exact h
  | c :: l, out, r, h, e => by
    unfold altGo at e
    split at e
    · cases e
    · rename_i x hx
      exact altGo_one hn (h.and ⟨condP_ok hn hx, by simp⟩) e
theorem altP_one {n : Int} (hn : scheme n = true) {s : Bs} {r : List Itv} (e : altP n s = some r) : One n r := by
  unfold altP at e
  split at e
  · cases e; exact one_nil hn
  · split at e
    · cases e; exact one_all hn
    · exact altGo_one hn (one_all hn) e
theorem altsP_one {n : Int} (hn : scheme n = true) : ∀ {l : List Bs} {xs : List (List Itv)}, altsP n l = some xs → xs.length = l.length ∧ ∀ x ∈ xs, One n x
  | [], xs, e => by cases e; exact ⟨rfl, fun x hx => by cases hx⟩
  | s :: l, xs, e => by
    unfold altsP at e
    split at e
    · cases e
    · rename_i x hx
      split at e
      · cases e
      · rename_i ys hys
        cases e
        obtain ⟨i1, i2⟩ := altsP_one hn hys
        refine ⟨by rw [List.length_cons, List.length_cons, i1], fun y hy => ?_⟩
        rcases List.mem_cons.1 hy with rfl | hy
        · exact altP_one hn hx
        · exact i2 y hy
theorem unionGo_ok {n : Int} : ∀ {xs : List (List Itv)} {out r : List Itv}, Ok n out → (∀ x ∈ xs, One n x) → unionGo n out xs = some r → Ok n r
  | [], out, r, h, _, e => by cases e; exact h
  | x :: xs, out, r, h, hx, e => by
    unfold unionGo at e
    split at e
    · rename_i h32
      exact unionGo_ok (opL_ok _ h (hx x (by simp)).ok h32) (fun y hy => hx y (by simp [hy])) e
    · cases e
theorem rgParse_ok {n : Int} {s : Bs} {l : List Itv} (h : (rgParse n s).1 = some l) : Ok n l ∧ (rgParse n s).2 = 0 := by
  unfold rgParse at h ⊢
  split at h
  · rename_i hn
    rw [if_pos hn]
    split at h
    · rename_i hl
      rw [if_pos hl]
      split at h
      · cases h
      · rename_i xs hxs
        split at h
        · cases h
        · rename_i u hu
          cases h
          exact ⟨unionGo_ok (ok_nil hn) (altsP_one hn hxs).2 hu, rfl⟩
    · cases h
  · cases h

/-! a combination known -/
theorem opL_eq {n : Int} (f : Bool → Bool → Bool) {a b c : List Itv} (ha : Ok n a) (hb : Ok n b) (hc : Ok n c) (h1 : firstB c = f (firstB a) (firstB b)) (h2 : ∀ q, inS n c q = f (inS n a q) (inS n b q)) (h3 : ∀ e ∈ cutsOf c, Least n (cutsOf a ++ cutsOf b) e) : opL n f a b = c := by
  have hco := opL_comb f ha hb
  have e : comb n f (firstB a) (firstB b) (f (firstB a) (firstB b)) (cutsOf a) (cutsOf b) = cutsOf c := by
    refine least_lists (L := cutsOf a ++ cutsOf b) (mem_inj (x := f (firstB a) (firstB b)) hco.asc hc.asc (fun q => ?_)) (comb_least ha.sch f _ _ _ _ _ _ (Nat.le_refl _) ha.cuts hb.cuts ha.asc hb.asc) h3
    rw [hco.val]
    have := h2 q
    unfold inS at this
    rw [← h1]
    exact this.symm
  unfold opL
  rw [e, ← h1]
  exact hc.norm
/-- cuts of an ascending list are the least where they lie -/
theorem asc_one {n : Int} : ∀ (L : List Cut), asc (poss n L) → ∀ c, c ∈ L → ∀ d, d ∈ L → pos n d = pos n c → d = c
  | [], _, c, hc, _, _, _ => by cases hc
  | e :: L, h, c, hc, d, hd, hp => by
    obtain ⟨a1, a2⟩ := List.pairwise_cons.1 (show asc (pos n e :: poss n L) from h)
    rcases List.mem_cons.1 hc with e1 | g1
    · rcases List.mem_cons.1 hd with e2 | g2
      · rw [e1, e2]
      · have := a1 _ (List.mem_map.2 ⟨d, g2, rfl⟩)
        rw [hp, e1] at this
        exact absurd this (plt_irrefl _)
    · rcases List.mem_cons.1 hd with e2 | g2
      · have := a1 _ (List.mem_map.2 ⟨c, g1, rfl⟩)
        rw [← hp, e2] at this
        exact absurd this (plt_irrefl _)
      · exact asc_one L a2 c g1 d g2 hp
theorem asc_least {n : Int} {L : List Cut} (h : asc (poss n L)) : ∀ c ∈ L, Least n L c := fun c hc =>
  ⟨hc, fun d hd hp => by rw [asc_one L h c hc d hd hp, cb_refl]; omega⟩
end Go.Proofs.YtpjjkbdkgaehkaaGreatDoor.V
namespace Go.Proofs.YtpjjkbdkgaehkaaGreatDoor.V

/-- the error of two arguments -/
def chkP (n : Int) (a : List Itv) (m : Int) (b : List Itv) : Int := if okR n a && okR m b then (if n = m then 0 else 14) else 1
/-- a result that is not too large -/
def limP (n : Int) (l : List Itv) : Int × List Itv × Int := if l.length ≤ 32 then (n, l, 0) else (0, [], 3)
def opP (f : Bool → Bool → Bool) (n : Int) (a : List Itv) (m : Int) (b : List Itv) : Int × List Itv × Int := if chkP n a m b = 0 then limP n (opL n f a b) else (0, [], chkP n a m b)
theorem chk_of {n : Int} {a b : List Itv} (ha : Ok n a) (hb : Ok n b) : chkP n a n b = 0 := by
  unfold chkP
  rw [of_ok ha, of_ok hb]
  simp
theorem opP_few {n : Int} {a b : List Itv} {j k : Nat} (f : Bool → Bool → Bool) (ha : Few n a j) (hb : Few n b k) (h : j + k ≤ 31) : opP f n a n b = (n, opL n f a b, 0) := by
  unfold opP limP
  rw [if_pos (chk_of ha.ok hb.ok), if_pos (ha.op hb f h).len]
end Go.Proofs.YtpjjkbdkgaehkaaGreatDoor.V
namespace Go.Proofs.YtpjjkbdkgaehkaaGreatDoor.V

/-! alternatives are found again -/
/-! conditions are found again -/
def opT (k : Nat) : Bs := if k = 0 then [62, 61] else if k = 1 then [60, 61] else if k = 2 then [61] else if k = 3 then [60] else [62]
theorem valid_len {n : Int} {v : Bs} (h : valid n v = true) : 1 ≤ v.length ∧ v.length ≤ 64 := by
  unfold valid at h
  rw [Bool.and_eq_true, Bool.and_eq_true] at h
  exact ⟨by simpa using h.1.1, by simpa using h.1.2⟩
theorem opOf_op {n : Int} {v : Bs} {k : Nat} (hk : k < 5) (hv : valid n v = true) : opOf (opT k ++ v) = some (k, v) := by
  have hl := (valid_len hv).1
  have h61 : (61 : UInt8) ∉ v := valid_not hv (by decide +kernel)
  obtain ⟨b, u, rfl⟩ : ∃ b u, v = b :: u := by
    rcases v with _ | ⟨b, u⟩
    · simp at hl
    · exact ⟨b, u, rfl⟩
  have hb : ¬ b = 61 := fun e => h61 (by rw [e]; simp)
  have h5 : k = 0 ∨ k = 1 ∨ k = 2 ∨ k = 3 ∨ k = 4 := by omega
  rcases h5 with rfl | rfl | rfl | rfl | rfl <;> simp [opOf, opT, hb]
theorem condP_op {n : Int} {v : Bs} {k : Nat} (hk : k < 5) (hv : valid n v = true) : condP n (opT k ++ v) = some (condI k v) := by
  unfold condP
  rw [opOf_op hk hv]
  simp [hv]
theorem op_not {n : Int} {v : Bs} {k : Nat} (hv : valid n v = true) {c : UInt8} (hc : verB c = false) (h1 : c ≠ 60) (h2 : c ≠ 61) (h3 : c ≠ 62) : c ∉ opT k ++ v := by
  have := valid_not hv hc
  rw [List.mem_append, not_or]
  refine ⟨?_, this⟩
  unfold opT
  repeat' split
  all_goals simp [h1, h2, h3]
theorem op_head {v : Bs} (k : Nat) : ∃ b u, opT k ++ v = b :: u ∧ b ≠ 110 ∧ b ≠ 42 := by
  unfold opT
  repeat' split
  all_goals exact ⟨_, _, rfl, by decide, by decide⟩
theorem op_len {n : Int} {v : Bs} (k : Nat) (hv : valid n v = true) : (opT k ++ v).length ≤ 66 := by
  have := (valid_len hv).2
  unfold opT
  rw [List.length_append]
  repeat' split
  all_goals (simp; omega)
theorem splitOn_app {c : UInt8} : ∀ {a : Bs} (b : Bs), c ∉ a → splitOn c (a ++ c :: b) = a :: splitOn c b
  | [], b, _ => by simp [splitOn]
  | d :: a, b, h => by
    rw [List.mem_cons, not_or] at h
    have h1 : (d == c) = false := by simpa using fun e => h.1 e.symm
    rw [List.cons_append, splitOn, h1, splitOn_app b h.2]
    simp

/-! sets of one interval -/
theorem and_all {n : Int} {a : List Itv} (ha : Ok n a) : opL n andF [noI] a = a := by
  refine opL_eq andF (ok_all ha.sch) ha ha ?_ (fun q => ?_) (fun e he => ?_)
  · show _ = (firstB [noI] && firstB a)
    rw [show firstB [noI] = true from rfl, Bool.true_and]
  · show _ = (inS n [noI] q && inS n a q)
    rw [show inS n [noI] q = true from rfl, Bool.true_and]
  · exact asc_least (L := cutsOf [noI] ++ cutsOf a) (show asc (poss n (cutsOf a)) from ha.asc) e he
theorem cond_alt {n : Int} {v : Bs} {k : Nat} (hk : k < 5) (hn : scheme n = true) (hv : valid n v = true) : altP n (opT k ++ v) = some [condI k v] := by
  obtain ⟨b, u, e, h1, h2⟩ := op_head (v := v) k
  unfold altP
  rw [if_neg (by rw [e]; simp [noneT, h1]), if_neg (by rw [e]; simp [h2]), splitOn_none (op_not hv (by decide +kernel) (by decide) (by decide) (by decide))]
  unfold altGo altGo
  rw [condP_op hk hv]
  simp only
  rw [and_all (condI_ok hn hv)]
theorem cond_alt2 {n : Int} {v u : Bs} {k j : Nat} (hk : k < 5) (hj : j < 5) (hn : scheme n = true) (hv : valid n v = true) (hu : valid n u = true) : altP n (opT k ++ v ++ 32 :: (opT j ++ u)) = some (opL n andF [condI k v] [condI j u]) := by
  obtain ⟨b, t, e, h1, h2⟩ := op_head (v := v) k
  unfold altP
  rw [if_neg (by rw [e]; simp [noneT, h1]), if_neg (by rw [e]; simp [h2]), splitOn_app _ (op_not hv (by decide +kernel) (by decide) (by decide) (by decide)), splitOn_none (op_not hu (by decide +kernel) (by decide) (by decide) (by decide))]
  unfold altGo altGo altGo
  rw [condP_op hk hv, condP_op hj hu]
  simp only
  rw [and_all (condI_ok hn hv)]

/-! a text is parsed back -/
/-! parts of a valid list -/
/-! texts of a maker's kind -/
/-- an alternative of a maker's kind -/
def AltM (n : Int) (s : Bs) : Prop := s = noneT ∨ s = [42] ∨ (∃ k v, k < 5 ∧ valid n v = true ∧ s = opT k ++ v) ∨ ∃ k v j u, k < 5 ∧ j < 5 ∧ valid n v = true ∧ valid n u = true ∧ s = opT k ++ v ++ 32 :: (opT j ++ u)
theorem AltM.ok {n : Int} (hn : scheme n = true) {s : Bs} (h : AltM n s) : (124 : UInt8) ∉ s ∧ s.length ≤ 133 ∧ ∃ a, altP n s = some a := by
  rcases h with rfl | rfl | ⟨k, v, hk, hv, rfl⟩ | ⟨k, v, j, u, hk, hj, hv, hu, rfl⟩
  · exact ⟨by decide, by decide, _, rfl⟩
  · exact ⟨by decide, by decide, _, rfl⟩
  · exact ⟨op_not hv (by decide +kernel) (by decide) (by decide) (by decide), by have := op_len k hv; omega, _, cond_alt hk hn hv⟩
  · have b1 := op_not (k := k) hv (c := 124) (by decide +kernel) (by decide) (by decide) (by decide)
    have b2 := op_not (k := j) hu (c := 124) (by decide +kernel) (by decide) (by decide) (by decide)
    have c1 := op_len k hv
    have c2 := op_len j hu
    refine ⟨by rw [List.mem_append, List.mem_cons, not_or, not_or]; exact ⟨b1, by decide, b2⟩, by rw [List.length_append, List.length_cons]; omega, _, cond_alt2 hk hj hn hv hu⟩
end Go.Proofs.YtpjjkbdkgaehkaaGreatDoor.V
namespace Go.Proofs.YtpjjkbdkgaehkaaGreatDoor.V

/-- a cut that can be compared -/
def EcOk (n : Int) (x : Ec) : Prop := x = ebot ∨ x = etop ∨ ∃ c : Cut, valid n c.1 = true ∧ x = eat c
theorem eLow_ok {n : Int} {x : Itv} (h : boundsB n x = true) : EcOk n (eLow x) := by
  by_cases hk : x.lk = 0
  · exact .inl (eLow_no hk)
  · exact .inr (.inr ⟨x.low, low_valid h hk, eLow_at h hk⟩)
theorem eHigh_ok {n : Int} {x : Itv} (h : boundsB n x = true) : EcOk n (eHigh x) := by
  by_cases hk : x.hk = 0
  · exact .inr (.inl (eHigh_no hk))
  · exact .inr (.inr ⟨x.high, high_valid h hk, eHigh_at h hk⟩)
theorem ecmp_inside {n : Int} {x : Itv} (h : boundsB n x = true) : decide (ecmp n (eLow x) (eHigh x) < 0) = insideB n x := by
  unfold insideB
  by_cases h1 : x.lk = 0
  · rw [eLow_no h1, decide_eq_true h1, Bool.true_or]
    refine decide_eq_true ?_
    by_cases h2 : x.hk = 0
    · rw [eHigh_no h2]; unfold ecmp ebot etop; simp
    · rw [eHigh_at h h2]; unfold ecmp ebot eat; simp
  · rw [decide_eq_false h1, Bool.false_or]
    by_cases h2 : x.hk = 0
    · rw [decide_eq_true h2, Bool.true_or, eLow_at h h1, eHigh_no h2]
      exact decide_eq_true (by unfold ecmp eat etop; simp)
    · rw [decide_eq_false h2, Bool.false_or, eLow_at h h1, eHigh_at h h2, ecmp_at]
theorem ecmp_next {n : Int} {y x : Itv} (hy : boundsB n y = true) (hx : boundsB n x = true) : decide (ecmp n (eHigh y) (eLow x) < 0) = nextB n y x := by
  unfold nextB
  by_cases h1 : y.hk = 0
  · rw [eHigh_no h1, decide_eq_true h1]
    refine decide_eq_false ?_
    by_cases h2 : x.lk = 0
    · rw [eLow_no h2]; unfold ecmp etop ebot; simp
    · rw [eLow_at hx h2]; unfold ecmp etop eat; simp
  · rw [decide_eq_false h1]
    by_cases h2 : x.lk = 0
    · rw [decide_eq_true h2, eHigh_at hy h1, eLow_no h2]
      exact decide_eq_false (by unfold ecmp eat ebot; simp)
    · rw [decide_eq_false h2, eHigh_at hy h1, eLow_at hx h2, ecmp_at]
      rfl
end Go.Proofs.YtpjjkbdkgaehkaaGreatDoor.V
namespace Go.Proofs.YtpjjkbdkgaehkaaGreatDoor.V

theorem radd_ok {n : Int} {x : Ec} (hx : EcOk n x) : ∀ {l : List Ec}, (∀ y ∈ l, EcOk n y) → ∀ y ∈ radd n x l, EcOk n y
  | [], _, y, hy => by
    rw [radd] at hy
    rw [List.mem_singleton.1 hy]; exact hx
  | z :: l, h, y, hy => by
    have ih := radd_ok hx (l := l) (fun y hy => h y (by simp [hy]))
    unfold radd at hy
    split at hy
    · rcases List.mem_cons.1 hy with rfl | hy
      · exact h _ (by simp)
      · exact ih y hy
    · split at hy
      · rcases List.mem_cons.1 hy with rfl | hy
        · split
          · exact h _ (by simp)
          · exact hx
        · exact h y (by simp [hy])
      · rcases List.mem_cons.1 hy with rfl | hy
        · exact hx
        · exact h y hy
theorem radd_len (n : Int) (x : Ec) : ∀ l : List Ec, (radd n x l).length ≤ l.length + 1 ∧ 0 < (radd n x l).length
  | [] => by simp [radd]
  | z :: l => by
    have ih := radd_len n x l
    unfold radd
    split
    · simp; omega
    · split
      · simp
      · simp
theorem addI_ok {n : Int} {x : Itv} (hx : boundsB n x = true) {l : List Ec} (h : ∀ y ∈ l, EcOk n y) : ∀ y ∈ addI n l x, EcOk n y :=
  radd_ok (eHigh_ok hx) (radd_ok (eLow_ok hx) h)
theorem addI_len (n : Int) (l : List Ec) (x : Itv) : (addI n l x).length ≤ l.length + 2 := by
  have h1 := (radd_len n (eLow x) l).1
  have h2 := (radd_len n (eHigh x) (radd n (eLow x) l)).1
  unfold addI
  omega
theorem fold_ok {n : Int} : ∀ {m : List Itv} {l : List Ec}, (∀ x ∈ m, boundsB n x = true) → (∀ y ∈ l, EcOk n y) → ∀ y ∈ m.foldl (addI n) l, EcOk n y
  | [], _, _, h => h
  | x :: m, l, hm, h => fold_ok (m := m) (fun z hz => hm z (by simp [hz])) (addI_ok (hm x (by simp)) h)
theorem fold_len (n : Int) : ∀ (m : List Itv) (l : List Ec), (m.foldl (addI n) l).length ≤ l.length + 2 * m.length
  | [], l => by simp
  | x :: m, l => by
    have h1 := fold_len n m (addI n l x)
    have h2 := addI_len n l x
    rw [List.foldl_cons, List.length_cons]
    omega
theorem fold_pos (n : Int) : ∀ (m : List Itv) (l : List Ec), 0 < l.length → 0 < (m.foldl (addI n) l).length
  | [], _l, h => h
  | x :: m, l, _h => fold_pos n m (addI n l x) (radd_len n _ _).2
theorem fold_step {n : Int} {m : List Itv} {k : Nat} (l : List Ec) (h : k < m.length) : (m.take (k + 1)).foldl (addI n) l = radd n (eHigh m[k]) (radd n (eLow m[k]) ((m.take k).foldl (addI n) l)) := by
  rw [List.take_succ_eq_append_getElem h, List.foldl_append]
  rfl
theorem ends_ok (n : Int) : ∀ y ∈ [ebot, etop], EcOk n y := by
  intro y hy
  simp at hy
  rcases hy with rfl | rfl
  · exact .inl rfl
  · exact .inr (.inl rfl)
theorem EcOk.side {n : Int} {x : Ec} (h : EcOk n x) : 0 ≤ x.s ∧ x.s ≤ 1 := by
  rcases h with rfl | rfl | ⟨c, _, rfl⟩
  · simp [ebot]
  · simp [etop]
  · unfold eat; split <;> simp

/-! pieces -/
theorem rrun_skip {h : Ec → Ec → Bool} {C : List Ec} {i : Nat} (hi : i + 1 < C.length) (hn : h C[i] C[i + 1] = false) : rrun h none (C.drop i) = rrun h none (C.drop (i + 1)) := by
  rw [List.drop_eq_getElem_cons (by omega : i < C.length), List.drop_eq_getElem_cons hi]
  rw [rrun]
  simp [hn]
theorem rrun_open {h : Ec → Ec → Bool} {C : List Ec} {i : Nat} (hi : i + 1 < C.length) (hn : h C[i] C[i + 1] = true) : rrun h none (C.drop i) = rrun h (some C[i]) (C.drop (i + 1)) := by
  rw [List.drop_eq_getElem_cons (by omega : i < C.length), List.drop_eq_getElem_cons hi]
  rw [rrun]
  simp [hn]
theorem rrun_on {h : Ec → Ec → Bool} {C : List Ec} {i : Nat} {f : Ec} (hi : i + 1 < C.length) (hn : h C[i] C[i + 1] = true) : rrun h (some f) (C.drop i) = rrun h (some f) (C.drop (i + 1)) := by
  rw [List.drop_eq_getElem_cons (by omega : i < C.length), List.drop_eq_getElem_cons hi]
  rw [rrun]
  simp [hn]
theorem rrun_end {h : Ec → Ec → Bool} {C : List Ec} {i : Nat} (hi : ¬ i + 1 < C.length) : rrun h none (C.drop i) = [] := by
  have hl : (C.drop i).length ≤ 1 := by rw [List.length_drop]; omega
  rcases hd : C.drop i with _ | ⟨e, _ | ⟨e', l⟩⟩
  · rfl
  · rfl
  · rw [hd] at hl; simp at hl
theorem rrun_close {h : Ec → Ec → Bool} {C : List Ec} {i : Nat} {f : Ec} (hi : i < C.length) (hn : ∀ hj : i + 1 < C.length, h C[i] C[i + 1] = false) : rrun h (some f) (C.drop i) = btw f C[i] :: rrun h none (C.drop i) := by
  by_cases hj : i + 1 < C.length
  · have := hn hj
    rw [List.drop_eq_getElem_cons hi, List.drop_eq_getElem_cons hj, rrun, rrun]
    simp [this]
  · rw [List.drop_eq_getElem_cons hi, List.drop_eq_nil_of_le (by omega), rrun, rrun]
end Go.Proofs.YtpjjkbdkgaehkaaGreatDoor.V
