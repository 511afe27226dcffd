/-
  Lemmas for the law.
-/
import Derived.Test.YtbikeahmldobkaaGreatDoorC42x24
import Derived.Test.YtbikeahmldobkaaGreatDoorC42x26
import Derived.Test.YtbikeahmldobkaaGreatDoorC42x03
import Derived.Test.YtbikeahmldobkaaGreatDoorC42x09
import Derived.Test.YtbikeahmldobkaaGreatDoorC42x22
import Derived.Test.YtbikeahmldobkaaGreatDoorC42x21
import Derived.Test.YtbikeahmldobkaaGreatDoorC42x04
import Derived.Great.FillDense
import Derived.Great.BuildSlice
set_option linter.all false
set_option maxRecDepth 100000
set_option maxHeartbeats 1600000
namespace Go.Proofs.YtbikeahmldobkaaGreatDoor
open Go.RowKit
namespace V
section
variable {α : Type} {c : α -> α -> Int}
def AscC (c : α -> α -> Int) (l : List α) : Prop := l.Pairwise fun a b => c a b < 0
theorem Cmp.irr (C : Cmp c) (a : α) : ¬ c a a < 0 := by rw [(C.zero a a).2 rfl]; omega
theorem zn4 (C : Cmp c) : ∀ {l m : List α}, AscC c l -> AscC c m -> (∀ x, x ∈ l ↔ x ∈ m) -> l = m
 | [], [], _, _, _ => rfl
 | [], y :: m, _, _, h => absurd ((h y).2 (by simp)) (by simp)
 | x :: l, [], _, _, h => absurd ((h x).1 (by simp)) (by simp)
 | x :: l, y :: m, hl, hm, h => by
  have g0 := List.pairwise_cons.1 hl
  have g1 := List.pairwise_cons.1 hm
  have e : x = y := by
   rcases List.mem_cons.1 ((h x).1 (by simp)) with e | hx
   ·exact e
   ·rcases List.mem_cons.1 ((h y).2 (by simp)) with e | hy
    ·exact e.symm
    ·exact absurd (C.trans _ _ _ (g0.1 y hy) (g1.1 x hx)) (C.irr x)
  subst e
  rw [zn4 C g0.2 g1.2 fun z => ?_]
  constructor
  ·intro hz
   rcases List.mem_cons.1 ((h z).1 (List.mem_cons_of_mem _ hz)) with e | g2
   ·subst e; exact absurd (g0.1 _ hz) (C.irr _)
   ·exact g2
  ·intro hz
   rcases List.mem_cons.1 ((h z).2 (List.mem_cons_of_mem _ hz)) with e | g2
   ·subst e; exact absurd (g1.1 _ hz) (C.irr _)
   ·exact g2
def insC (c : α -> α -> Int) (x : α) : List α -> List α
 | [] => [x]
 | y :: l => if c y x < 0 then y :: insC c x l else x :: y :: l
theorem zim {x y : α} : ∀ {l : List α}, y ∈ insC c x l ↔ y = x ∨ y ∈ l
 | [] => by simp [insC]
 | z :: l => by
  unfold insC
  split
  ·rw [List.mem_cons, zim (l := l), List.mem_cons]
   constructor
   ·rintro (h | h | h)
    ·exact .inr (.inl h)
    ·exact .inl h
    ·exact .inr (.inr h)
   ·rintro (h | h | h)
    ·exact .inr (.inl h)
    ·exact .inl h
    ·exact .inr (.inr h)
  ·rw [List.mem_cons]
theorem zq0 (C : Cmp c) {x : α} : ∀ {l : List α}, AscC c l -> x ∉ l -> AscC c (insC c x l)
 | [], _, _ => List.pairwise_singleton _ _
 | y :: l, h, hn => by
  have h' := List.pairwise_cons.1 h
  rw [List.mem_cons, not_or] at hn
  unfold insC
  split
  ·rename_i hlt
   refine List.pairwise_cons.2 ⟨fun z hz => ?_, zq0 C h'.2 hn.2⟩
   rcases zim.1 hz with rfl | hz
   ·exact hlt
   ·exact h'.1 z hz
  ·rename_i hnlt
   have g0 : c x y < 0 := by
    rw [C.anti]
    have : c y x ≠ 0 := fun e => hn.1 ((C.zero _ _).1 e).symm
    omega
   refine List.pairwise_cons.2 ⟨fun z hz => ?_, h⟩
   rcases List.mem_cons.1 hz with rfl | hz
   ·exact g0
   ·exact C.trans _ _ _ g0 (h'.1 z hz)
theorem zfs {x : α} : ∀ {l : List α} {i : Nat}, i ≤ l.length -> (∀ j (h : j < l.length), j < i -> c l[j] x < 0) -> (∀ h : i < l.length, ¬ c l[i] x < 0) -> insC c x l = l.take i ++ x :: l.drop i
 | [], i, hi, _, _ => by obtain rfl : i = 0 := by simpa using hi
                         rfl
 | y :: l, 0, _, _, hn => by
  have h0 : ¬ c y x < 0 := hn (by simp)
  unfold insC
  rw [if_neg h0]
  rfl
 | y :: l, i + 1, hi, hlt, hn => by
  have h0 : c y x < 0 := hlt 0 (by simp) (by omega)
  unfold insC
  rw [if_pos h0, zfs (l := l) (i := i) (by simpa using hi) (fun j h hj => hlt (j + 1) (by simpa using h) (by omega)) (fun h => hn (by simpa using h))]
  rfl
def addC [DecidableEq α] (c : α -> α -> Int) (l : List α) (x : α) : List α := if x ∈ l then l else insC c x l
theorem zis [DecidableEq α] {l : List α} {x y : α} : y ∈ addC c l x ↔ y ∈ l ∨ y = x := by
 unfold addC
 split
 ·constructor
  ·exact .inl
  ·rintro (h | rfl) <;> assumption
 ·rw [zim, or_comm]
theorem addC_asc [DecidableEq α] (C : Cmp c) {l : List α} {x : α} (h : AscC c l) : AscC c (addC c l x) := by
 unfold addC
 split
 ·exact h
 ·rename_i hn; exact zq0 C h hn
theorem zou {x : α} : ∀ {l : List α}, (insC c x l).length = l.length + 1
 | [] => rfl
 | y :: l => by
  unfold insC
  split
  ·rw [List.length_cons, zou, List.length_cons]
  ·rfl
theorem zpq [DecidableEq α] {l : List α} {x : α} : (addC c l x).length ≤ l.length + 1 := by
 unfold addC
 split
 ·omega
 ·rw [zou]; exact zv4 _
def wu [DecidableEq α] (c : α -> α -> Int) (l xs : List α) : List α := xs.foldl (addC c) l
theorem zgo [DecidableEq α] {y : α} : ∀ {xs l : List α}, y ∈ wu c l xs ↔ y ∈ l ∨ y ∈ xs
 | [], l => by simp [wu]
 | x :: xs, l => by
  have := zgo (y := y) (xs := xs) (l := addC c l x)
  unfold wu at *
  rw [List.foldl_cons, this, zis, List.mem_cons, or_assoc]
theorem zgs [DecidableEq α] (C : Cmp c) : ∀ {xs l : List α}, AscC c l -> AscC c (wu c l xs)
 | [], _, h => h
 | x :: xs, l, h => by
  have := zgs C (xs := xs) (addC_asc C (x := x) h)
  unfold wu at *
  rw [List.foldl_cons]; exact this
theorem zas [DecidableEq α] : ∀ {xs l : List α}, (wu c l xs).length ≤ l.length + xs.length
 | [], l => by simp [wu]
 | x :: xs, l => by
  have h1 := zas (xs := xs) (l := addC c l x)
  have h2 := zpq (c := c) (l := l) (x := x)
  unfold wu at *
  rw [List.foldl_cons, List.length_cons]
  omega
theorem ziq [DecidableEq α] {l xs : List α} {x : α} : wu c l (xs ++ [x]) = addC c (wu c l xs) x := by
 unfold wu; rw [List.foldl_append]; rfl
end
def cmpI : List Int -> List Int -> Int
 | [], [] => 0
 | [], _ :: _ => -1
 | _ :: _, [] => 1
 | x :: a, y :: b => if x < y then -1 else if y < x then 1 else cmpI a b
theorem vi : ∀ a b : List Int, cmpI a b = 0 ↔ a = b
 | [], [] => by simp [cmpI]
 | [], y :: b => by simp [cmpI]
 | x :: a, [] => by simp [cmpI]
 | x :: a, y :: b => by
  have ih := vi a b
  unfold cmpI
  by_cases h1 : x < y
  ·rw [if_pos h1]; simp only [List.cons.injEq]; exact ⟨fun h => absurd h (by decide), fun h => by omega⟩
  ·rw [if_neg h1]
   by_cases h2 : y < x
   ·rw [if_pos h2]; simp only [List.cons.injEq]; exact ⟨fun h => absurd h (by decide), fun h => by omega⟩
   ·rw [if_neg h2, ih]
    obtain rfl : x = y := by omega
    simp
theorem zb6 : ∀ a b : List Int, cmpI a b = - cmpI b a
 | [], [] => by simp [cmpI]
 | [], y :: b => by simp [cmpI]
 | x :: a, [] => by simp [cmpI]
 | x :: a, y :: b => by
  have ih := zb6 a b
  unfold cmpI
  by_cases h1 : x < y
  ·rw [if_pos h1, if_neg (by omega), if_pos h1]
  ·rw [if_neg h1]
   by_cases h2 : y < x
   ·rw [if_pos h2, if_pos h2]; rfl
   ·rw [if_neg h2, if_neg h2, if_neg h1, ih]
theorem za4 : ∀ a b d : List Int, cmpI a b < 0 -> cmpI b d < 0 -> cmpI a d < 0
 | [], b, [], h1, h2 => by
  cases b
  ·exact h1
  ·simp [cmpI] at h2
 | [], _, _ :: _, _, _ => by simp [cmpI]
 | _ :: _, [], _, h1, _ => by simp [cmpI] at h1
 | _ :: _, _ :: _, [], _, h2 => by simp [cmpI] at h2
 | x :: a, y :: b, z :: d, h1, h2 => by
  have ih := za4 a b d
  unfold cmpI at h1 h2 ⊢
  exact zw8
theorem zpy : Cmp cmpI := ⟨vi, fun a b => by rw [zb6 a b]; omega, za4⟩
def cov (x : Note) (c : Comp) : Bool := covP x.adv c.sch c.name c.ver
structure Hit where
 comp : Int
 id : Bs
 sev : Int
 docs : List (List Int)
def selN (xs : List Note) (c : Comp) (id : Bs) : List Note := xs.filter fun x => decide (x.adv.id = id) && cov x c
def sevN (l : List Note) : Int := l.foldl (fun s x => max s x.adv.sev) 0
def yz (l : List Note) : List (List Int) := wu cmpI [] (l.map (·.doc))
def idsN (xs : List Note) : List Bs := wu Lib.compareBytes [] (xs.map (·.adv.id))
def hitN (xs : List Note) (i : Int) (c : Comp) (id : Bs) : Hit := ⟨i, id, sevN (selN xs c id), yz (selN xs c id)⟩
def kx (xs : List Note) (c : Comp) : List Bs := idsN (xs.filter fun x => cov x c)
def zbm (xs : List Note) (i : Int) (c : Comp) : List Hit := (kx xs c).map (hitN xs i c)
def rhitsC (xs : List Note) (i : Int) (c : Comp) : List Hit := ((idsN xs).map (hitN xs i c)).filter fun h => decide (0 < h.sev)
def jr (xs : List Note) (l : List Comp) : Nat -> List Hit
 | 0 => []
 | k + 1 => jr xs l k ++ match l[k]? with | some c => zbm xs k c | none => []
def xd (ok : Bool) (xs : List Note) (l : List Comp) : List Hit := if ok then jr xs l l.length else []
theorem zpf : ∀ (l : List Note) (s : Int), s ≤ l.foldl (fun s x => max s x.adv.sev) s /\ ∀ x ∈ l, x.adv.sev ≤ l.foldl (fun s x => max s x.adv.sev) s
 | [], s => ⟨Int.le_refl _, fun x h => by simp at h⟩
 | y :: l, s => by
  have ih := zpf l (max s y.adv.sev)
  rw [List.foldl_cons]
  refine ⟨by omega, fun x hx => ?_⟩
  rcases List.mem_cons.1 hx with rfl | hx
  ·omega
  ·exact ih.2 x hx
theorem cov_sev {x : Note} {c : Comp} (h : cov x c = true) : 1 ≤ x.adv.sev := by
 unfold cov covP at h
 split at h
 ·exact absurd h (by simp)
 ·rw [Bool.and_eq_true] at h
  exact (jt h.2).sev0
theorem sel_sev (xs : List Note) (c : Comp) (id : Bs) : 0 < sevN (selN xs c id) ↔ ∃ x ∈ xs, x.adv.id = id /\ cov x c = true := by
 constructor
 ·intro h
  cases hs : selN xs c id with
  | nil => rw [hs] at h; exact absurd h (by decide)
  | cons x l =>
   have hx : x ∈ selN xs c id := by rw [hs]; simp
   unfold selN at hx
   rw [List.mem_filter, Bool.and_eq_true, decide_eq_true_eq] at hx
   exact ⟨x, hx.1, hx.2.1, hx.2.2⟩
 ·rintro ⟨x, hx, rfl, hc⟩
  have := (zpf (selN xs c x.adv.id) 0).2 x (by unfold selN; rw [List.mem_filter]; exact ⟨hx, by rw [hc]; simp⟩)
  have := cov_sev hc
  unfold sevN
  omega
theorem zkn {xs : List Note} {id : Bs} : id ∈ idsN xs ↔ ∃ x ∈ xs, x.adv.id = id := by
 unfold idsN
 rw [zgo]
 simp [List.mem_map]
theorem zff (xs : List Note) : AscC Lib.compareBytes (idsN xs) := zgs zea List.Pairwise.nil
theorem hits_of (xs : List Note) (i : Int) (c : Comp) : rhitsC xs i c = zbm xs i c := by
 unfold rhitsC zbm
 rw [List.filter_map]
 congr 1
 refine zn4 zea ((zff xs).filter _) (zff _) fun id => ?_
 unfold kx
 rw [List.mem_filter, zkn, zkn, Function.comp, decide_eq_true_eq]
 have := sel_sev xs c id
 unfold hitN
 simp only
 rw [this]
 constructor
 ·rintro ⟨_, x, hx, h1, h2⟩
  exact ⟨x, List.mem_filter.2 ⟨hx, h2⟩, h1⟩
 ·rintro ⟨x, hx, h1⟩
  rw [List.mem_filter] at hx
  exact ⟨⟨x, hx.1, h1⟩, x, hx.1, h1, hx.2⟩
theorem zhk {xs : List Note} {l : List Comp} {k : Nat} (h : k < l.length) : jr xs l (k + 1) = jr xs l k ++ zbm xs k l[k] := by
 rw [jr, List.getElem?_eq_getElem h]
end V
open Go.RowKit
theorem zyl {P : Prop} (h : P := by
 unfold dcells zn
 rw [List.getElem?_toArray, List.getElem?_map, List.getElem?_eq_getElem (by omega), List.getD_eq_getElem?_getD, List.getElem?_eq_getElem (by omega)]
 rfl) : P := h
theorem zt2 {w : World} {g i : Nat} {d : List Int} {T : TypeId} {fr : Nat × Nat} (h : w.heap[g]? = some (.cells (dcells d) T fr)) (hd : d.length = 32) (hi : i < 32) : w.cell? ⟨g, i, none⟩ = some (.int .u8 (d.getD i 0)) := by
 rw [cell_of_row w g i _ _ _ h]
 exact zyl
theorem V.cmpI_at : ∀ {a b : List Int} {i : Nat}, i < a.length -> a.length = b.length -> (∀ j, j < i -> a.getD j 0 = b.getD j 0) -> a.getD i 0 ≠ b.getD i 0 -> (V.cmpI a b < 0 ↔ a.getD i 0 < b.getD i 0)
 | [], _, i, h, _, _, _ => absurd h (Nat.not_lt_zero _)
 | _ :: _, [], _, _, h, _, _ => by simp at h
 | x :: a, y :: b, 0, _, _, _, hn => by
  simp only [List.getD_cons_zero] at hn ⊢
  unfold V.cmpI
  by_cases h1 : x < y
  ·simp [h1]
  ·rw [if_neg h1, if_pos (by omega)]
   exact ⟨fun h => absurd h (by decide), fun h => absurd h h1⟩
 | x :: a, y :: b, i + 1, hi, hl, he, hn => by
  have h0 := he 0 (by omega)
  simp only [List.getD_cons_zero] at h0
  subst h0
  unfold V.cmpI
  rw [if_neg (by omega), if_neg (by omega)]
  simp only [List.getD_cons_succ] at hn ⊢
  exact V.cmpI_at (by simpa using hi) (by simpa using hl) (fun j hj => by have := he (j + 1) (by omega); simpa using this) hn
theorem V.eq_at {a b : List Int} (hl : a.length = b.length) (he : ∀ j, j < a.length -> a.getD j 0 = b.getD j 0) : a = b := by
 apply List.ext_getElem hl
 intro j h1 h2
 have := he j h1
 rwa [List.getD_eq_getElem?_getD, List.getD_eq_getElem?_getD, List.getElem?_eq_getElem h1, List.getElem?_eq_getElem h2] at this
theorem zlw (a b : List Int) (w : World) (ha : qi a) (hb : qi b) :
  Calls Tryz.prog 74 #[.agg (dcells a), .agg (dcells b)] w fun e w' => e = .returned (.bool (decide (V.cmpI a b < 0))) /\ Below w.heap.size w w' := by
 obtain ⟨W0, hW0⟩ : ∃ W0, W0 = (w.alloc (.cells (dcells a) 26)).alloc (.cells (dcells b) 26) := ⟨_, rfl⟩
 have HB0 : Hid (Below w.heap.size w W0) := zv2 (by rw [hW0]; exact ((zv5 _ w).alloc (zv4 _) _).alloc (by simp) _)
 have K0 : Hid (W0.heap[w.heap.size]? = some (.cells (dcells a) 26 (0, 0))) := zv2 (by rw [hW0, heap_alloc, if_neg (by simp), heap_alloc, if_pos rfl])
 have K1 : Hid (W0.heap[w.heap.size + 1]? = some (.cells (dcells b) 26 (0, 0))) := zv2 (by rw [hW0, heap_alloc, if_pos (by simp)])
 have HW := zv2 hW0
 have HA := zv2 ha
 have HB := zv2 hb
 have HZ : Hid (w.heap.size + 2 = W0.heap.size) := zv2 (by rw [hW0]; simp)
 clear hW0 ha hb
 go_enter Tryz.func74, Tryz.ntmps74
 go_wp2_with fail
 rw [← HW.out]
 go_loopw [5] (fun iv wx => ∃ i : Nat, i ≤ 32 /\ iv = .int .i64 i /\ Below W0.heap.size W0 wx /\ (∀ j, j < i -> a.getD j 0 = b.getD j 0)) (fun iv _ => 32 - (intOf iv).toNat)
 case atStart => exact ⟨0, by omega, rfl, zv5 _ _, fun j hj => absurd hj (by omega)⟩
 case round =>
  obtain ⟨i, hi, rfl, g2, he⟩ := hrel
  have HBX := zv2 g2
  have HE := zv2 he
  have HBW := zv3 HB0 g2
  clear g2 he
  by_cases hlt : i < 32
  ·have c0 := zt2 ((HBX.out.block _ (by have := HZ.out; omega)).trans K0.out) HA.out.1 hlt
   have c1 := zt2 ((HBX.out.block _ (by have := HZ.out; omega)).trans K1.out) HB.out.1 hlt
   have i1 : (0 : Int) ≤ (i : Int) := by omega
   have i2 : (i : Int) < 32 := by omega
   have H1 : Hid (i < a.length /\ a.length = b.length) := zv2 ⟨by rw [HA.out.1]; exact hlt, by rw [HA.out.1, HB.out.1]⟩
   obtain ⟨x, hx⟩ : ∃ x, x = a.getD i 0 := ⟨_, rfl⟩
   obtain ⟨y, hy⟩ : ∃ y, y = b.getD i 0 := ⟨_, rfl⟩
   rw [← hx] at c0
   rw [← hy] at c1
   have g0 := zv2 (And.intro hx hy)
   clear hx hy
   by_cases hxy : x = y
   ·have HN : Hid (∀ j, j < i + 1 -> a.getD j 0 = b.getD j 0) := zv2 (fun j hj => by
      by_cases e : j = i
      · subst e; rw [← g0.out.1, ← g0.out.2]; exact hxy
      · exact HE.out j (by omega))
    have g3 : (x == y) = true := by rw [beq_iff_eq]; exact hxy
    subst hxy
    go_wp2_with fail
    go_quiet (fail)
    have g1 := zv2 (below_drewN HBX.out nq)
    clear c0 c1
    generalize wr.drewN nq = wq at *
    go_wp2
    go_roundw
    case rel => exact ⟨i + 1, by omega, by go_num, g1.out, HN.out⟩
    case measure => simp [intOf]; omega
   ·have HR : Hid (decide (V.cmpI a b < 0) = decide (x < y)) := zv2 (by rw [decide_eq_decide, V.cmpI_at H1.out.1 H1.out.2 HE.out (by rw [← g0.out.1, ← g0.out.2]; exact hxy), ← g0.out.1, ← g0.out.2])
    have g3 : (x == y) = false := by rw [zv6]; exact hxy
    clear hxy
    go_wp2_with fail
    go_quiet (fail)
    have g1 := zv2 (HBW.out.trans ((below_drewN (zv5 _ wr) nq).mono HBW.out.size))
    replace c0 := zg (below_drewN (zv5 _ wr) nq) c0
    replace c1 := zg (below_drewN (zv5 _ wr) nq) c1
    generalize wr.drewN nq = wq at *
    go_wp2_with fail
    go_quiet (fail)
    have g4 := zv2 (g1.out.trans ((below_drewN (zv5 _ wq) nq).mono g1.out.size))
    generalize wq.drewN nq = wz at *
    clear c0 c1
    go_wp2
    go_ret
    exact ⟨by rw [HR.out]; rfl, g4.out⟩
  ·obtain rfl : i = 32 := by omega
   have HR : Hid (decide (V.cmpI a b < 0) = false) := zv2 (by
     have e : a = b := V.eq_at (by rw [HA.out.1, HB.out.1]) (fun j hj => HE.out j (by rw [HA.out.1] at hj; exact hj))
     rw [e, (V.vi b b).2 rfl]; rfl)
   go_wp2
   go_ret
   exact ⟨by rw [HR.out]; rfl, HBW.out⟩
theorem zkh {ops : Array Oper} {o : Oper} {a : Act} {w : World} {K : Act -> Prop} {E : Prop} (hw : Region.wanted o (yielded ops a.tmps) = true) (x y : Operand) (ho : o.op = .binOp .eql 26 x y 26)
  (c d : List Int) (hc : qi c) (hd : qi d) (hx : a.eval x = .agg (dcells c)) (hy : a.eval y = .agg (dcells d)) (h : K (a.put o.dst (.bool (decide (c = d))))) :
  if Region.wanted o (yielded ops a.tmps) = true then o.still Tryz.prog a w K else E := by
 rw [if_pos hw]
 unfold Oper.still execOp
 simp only [ho, hx, hy, Sem.run_bind, run_eqGuard_agg w .eql 26 x y _ _ kz, Result.andThen_ok, run_eql_struct, zm6 hc.1 hc.2 hd.1 hd.2, Sem.run_pure, Oper.stillUpon_value]
 exact h
theorem zh5 {w : World} {g : Nat} {d : List Int} {T : TypeId} {fr : Nat × Nat} (h : w.heap[g]? = some (.cells (dcells d) T fr)) : w.rangeAt g 0 (zn d) := fun j u hj => by
 rw [Nat.zero_add, cell_of_row w g j _ _ _ h]
 unfold dcells
 simpa using hj
theorem wi {o : Oper} {ev : Operand -> Value} {w : World} {x : Operand} {b off : Nat} {d : List Int} (ho : o.op = .load 26 x) (hx : ev x = .pointer (some ⟨b, off, none⟩)) (hd : qi d) (hr : w.rangeAt b off (zn d)) : (execOp ev o).run Tryz.prog w = .ok (.value (.agg (dcells d))) w := by
 unfold execOp
 have hl : (Instr.loadAt 26 (.pointer (some ⟨b, off, none⟩))).run Tryz.prog w = .ok (.agg (dcells d)) w := run_loadAt_mid w b off _ (zn d) _ hr Tryz.underlying26 rfl (by rw [yp, zcy hd])
 simp only [ho, hx, Sem.run_bind, hl, Result.andThen_ok, Sem.run_pure]
theorem zuv (v : Value) (l : List (List Int)) (d : List Int) (w : World) (hv : Digs w v l) (hd : qi d) (hl : l.length ≤ 100000) :
  Calls Tryz.prog 73 #[v, .agg (dcells d)] w fun e w' => e = .returned (.bool (decide (d ∈ l))) /\ Below w.heap.size w w' := by
 obtain ⟨va, vc, rfl, g1⟩ := hv
 obtain ⟨W0, hW0⟩ : ∃ W0, W0 = w.alloc (.cells (dcells d) 26) := ⟨_, rfl⟩
 have HB0 : Hid (Below w.heap.size w W0) := zv2 (by rw [hW0]; exact (zv5 _ w).alloc (zv4 _) _)
 have K0 : Hid (W0.heap[w.heap.size]? = some (.cells (dcells d) 26 (0, 0))) := zv2 (by rw [hW0]; exact heap_alloc_new w _)
 have HZ : Hid (w.heap.size < W0.heap.size) := zv2 (by rw [hW0]; simp)
 have HA := zv2 g1
 have g2 := zv2 hd
 have HW := zv2 hW0
 clear g1 hd hW0
 go_enter Tryz.func73, Tryz.ntmps73
 go_wp2_with fail
 rw [← HW.out]
 go_loopw [5] (fun iv wx => ∃ i : Nat, i ≤ l.length /\ iv = .int .i64 i /\ Below W0.heap.size W0 wx /\ (∀ j (h : j < l.length), j < i -> l[j] ≠ d)) (fun iv _ => l.length - (intOf iv).toNat)
 case atStart => exact ⟨0, Nat.zero_le _, rfl, zv5 _ _, fun j _ hj => absurd hj (by omega)⟩
 case round =>
  obtain ⟨i, hi, rfl, g0, g3⟩ := hrel
  have HBX := zv2 g0
  have HE := zv2 g3
  have HBW := zv3 HB0 g0
  clear g0 g3
  by_cases hlt : i < l.length
  ·obtain ⟨g4, g, off, rfl, g6, hc⟩ := HA.out i hlt
   have HD := zv2 g4
   have HR := zv2 (zi (zi hc HBW.out) (zv5 _ wr).drew)
   have g5 := zv2 (zi (zh5 ((HBX.out.block _ HZ.out).trans K0.out)) (zv5 _ wr).drew)
   have g7 : (0 : Int) ≤ (i : Int) := by omega
   have g8 : (i : Int) < (l.length : Int) := by omega
   have HM : Hid (l[i] ∈ l) := zv2 (List.getElem_mem hlt)
   have HN : Hid (l[i] ≠ d -> ∀ j (h : j < l.length), j < i + 1 -> l[j] ≠ d) := zv2 (fun hn j h hj => by
     by_cases e : j = i
     · subst e; exact hn
     · exact HE.out j h (by omega))
   clear hc g4
   generalize l[i] = x at *
   go_wp2
   refine wp_region_still_lit (by kernel_rfl) (by kernel_rfl) ?_
   still_step
   still_step
   still_step
   refine wpStill_step (fun K hK => ?_)
   refine xe rfl (.tmp 14) rfl g (off + i * 32) rfl x HD.out HR.out (hK _ ?_)
   clear hK K
   refine wpStill_step (fun K hK => ?_)
   refine xe rfl (.tmp 3) rfl w.heap.size 0 rfl d g2.out g5.out (hK _ ?_)
   clear hK K
   refine wpStill_step (fun K hK => ?_)
   refine zkh rfl (.tmp 15) (.tmp 16) rfl x d HD.out g2.out rfl rfl (hK _ ?_)
   clear hK K
   refine wpStill_nil ?_
   have HBD := zv2 HBX.out.drew
   have HBE := zv2 HBW.out.drew
   change Exit.then _ _ _ _ wr.drew
   by_cases hxd : x = d
   ·rw [decide_eq_true hxd]
    have HF : Hid (decide (d ∈ l) = true) := zv2 (decide_eq_true (hxd ▸ HM.out))
    clear hxd
    go_wp2
    go_ret
    exact ⟨by rw [HF.out]; rfl, HBE.out⟩
   ·rw [decide_eq_false hxd]
    have HNN := zv2 (HN.out hxd)
    clear hxd
    go_wp2
    go_roundw
    case rel => exact ⟨i + 1, by omega, by go_num, HBD.out, HNN.out⟩
    case measure => simp [intOf]; omega
  ·obtain rfl : i = l.length := by omega
   have HF : Hid (decide (d ∈ l) = false) := zv2 (decide_eq_false (fun hm => by
     obtain ⟨j, hj, e⟩ := List.mem_iff_getElem.1 hm
     exact HE.out j hj hj e))
   go_wp2
   go_ret
   exact ⟨by rw [HF.out]; rfl, HBW.out⟩
theorem za1 {P : Program} {o : Oper} {ev : Operand -> Value} {w : World} {ty : TypeId} {x : Operand} {p v : Value} (ho : o.op = .load ty x) (hx : ev x = p) (h : (Instr.loadAt ty p).run P w = .ok v w) : (execOp ev o).run P w = .ok (.value v) w := by
 unfold execOp
 simp only [ho, hx, Sem.run_bind, h, Result.andThen_ok, Sem.run_pure]
theorem zpj {ops : Array Oper} {o : Oper} {a : Act} {w : World} {K : Act -> World -> Prop} {Q : Exit -> Act -> World -> Prop} {E : Prop} (g0 : o.guard = none) (v : Value) (he : (execOp a.eval o).run Tryz.prog w = .ok (.value v) w)
  (h : K (a.put o.dst v) w) : if Region.wanted o (yielded ops a.tmps) = true then Oper.wp Tryz.prog o a w K Q else E := by
 rw [if_pos (by simp [Region.wanted, g0])]
 unfold Oper.wp
 rw [he]
 exact h
theorem ztk {ops : Array Oper} {rest : List Oper} {o : Oper} {a : Act} {w : World} {Q : Exit -> Act -> World -> Prop} (hw : Region.wanted o (yielded ops a.tmps) = true) (v : Value) (he : (execOp a.eval o).run Tryz.prog w = .ok (.value v) w)
  (h : wpList Tryz.prog ops Q rest (a.put o.dst v) w) : wpList Tryz.prog ops Q (o :: rest) a w := by
 unfold wpList
 rw [if_pos hw]
 refine Or.inl ?_
 unfold Oper.wp
 rw [he]
 exact h
theorem zdj {w : World} {g : Nat} {cs : Array Value} {t ty : TypeId} {fr : Nat × Nat} {d : TypeDesc} (hg : w.heap[g]? = some (.cells cs t fr)) (hu : Tryz.prog.underlying ty = some d) (hd : d.isRow = true) (hs : (Tryz.prog.info? ty).map (·.size) = some cs.size) : (Instr.loadAt ty (.pointer (some ⟨g, 0, none⟩))).run Tryz.prog w = .ok (.agg cs) w := by
 have := run_loadAt_mid w g 0 ty cs.toList d (fun i u hu => by rw [Nat.zero_add, cell_of_row w g i _ _ _ hg]; simpa using hu) hu hd (by simpa using hs)
 simpa using this
section
variable {α : Type} {enc : α -> List Value} {k : Nat} {T : TypeId}
theorem jo.sz {bytes : Nat} (h : jo T k bytes) : (Tryz.prog.info? T).map (·.size) = some k := by
 obtain ⟨i, z, hi, _, hs, _⟩ := h
 rw [hi, ← hs]; rfl
def ERow (T : TypeId) (k : Nat) (enc : α -> List Value) (w : World) (g : Nat) (l : List α) : Prop := ∃ cs, w.heap[g]? = some (.cells cs T (0, 0)) /\ l.length * k ≤ cs.size /\ ∀ i, i < l.length * k -> cs[i]? = (l.flatMap enc)[i]?
theorem ERow.lt {w : World} {g : Nat} {l : List α} (h : ERow T k enc w g l) : g < w.heap.size := by
 obtain ⟨cs, hg, _⟩ := h
 exact (Array.getElem?_eq_some_iff.1 hg).1
theorem ERow.at (hk : ∀ x, (enc x).length = k) {w : World} {g : Nat} {l : List α} (h : ERow T k enc w g l) {j : Nat} (hj : j < l.length) : w.rangeAt g (j * k) (enc l[j]) := fun i u hu => by
 obtain ⟨cs, hg, hs, hc⟩ := h
 have hi : i < k := by have := (List.getElem?_eq_some_iff.1 hu).1; rwa [hk] at this
 have hm : (j + 1) * k ≤ l.length * k := Nat.mul_le_mul_right k hj
 have e : (j + 1) * k = j * k + k := Nat.succ_mul j k
 rw [cell_of_row w g _ _ _ _ hg, hc _ (by omega), vy hk j hj i hi]
 exact hu
theorem ERow.below {w w' : World} {g : Nat} {l : List α} (h : ERow T k enc w g l) (hb : Below w.heap.size w w') : ERow T k enc w' g l := by
 have hlt := h.lt
 obtain ⟨cs, hg, hr⟩ := h
 exact ⟨cs, (hb.block g hlt).trans hg, hr⟩
theorem zyp {P : Prop} (h : P := by
 exact ⟨by rw [cell_of_row w g _ _ _ _ hg, Array.getElem?_eq_getElem (by omega)]; rfl, kg hg⟩) : P := h
theorem ERow.there {w : World} {g : Nat} {l : List α} (h : ERow T k enc w g l) {j : Nat} (hj : j < l.length) : w.there g (j * k) k := fun i hi => by
 obtain ⟨cs, hg, hs, _⟩ := h
 have hm : (j + 1) * k ≤ l.length * k := Nat.mul_le_mul_right k hj
 have e : (j + 1) * k = j * k + k := Nat.succ_mul j k
 exact zyp
theorem zbs {g : Nat} {t : TypeId} {fr : Nat × Nat} : ∀ (vs : List Value) (o : Nat) (w : World) (cs : Array Value), w.heap[g]? = some (.cells cs t fr) ->
  ∃ cs', (w.setCells g o vs).heap[g]? = some (.cells cs' t fr) /\ cs'.size = cs.size /\ ∀ i, cs'[i]? = if o ≤ i /\ i < o + vs.length /\ i < cs.size then vs[i - o]? else cs[i]?
 | [], o, w, cs, h => ⟨cs, h, rfl, fun i => by rw [if_neg (by simp; omega)]⟩
 | v :: r, o, w, cs, h => by
  obtain ⟨cs', h1, h2, h3⟩ := zbs r (o + 1) _ _ (yg o v h)
  refine ⟨cs', h1, by rw [h2]; simp, fun i => ?_⟩
  rw [h3]
  simp only [Array.size_setIfInBounds, List.length_cons]
  by_cases hi : i = o
  ·subst hi
   rw [if_neg (by omega), Array.getElem?_setIfInBounds]
   by_cases hs : i < cs.size
   ·rw [if_pos rfl, if_pos hs, if_pos ⟨by omega, by omega, hs⟩]
    simp
   ·rw [if_pos rfl, if_neg hs, if_neg (by omega)]
    exact (Array.getElem?_eq_none (by omega)).symm
  ·by_cases hb : o + 1 ≤ i /\ i < o + 1 + r.length /\ i < cs.size
   ·rw [if_pos hb, if_pos (by omega), show i - o = (i - (o + 1)) + 1 by omega]
    rfl
   ·rw [if_neg hb, if_neg (by omega), Array.getElem?_setIfInBounds_ne (by omega)]
theorem zco (w : World) (row : Option Nat) : w.grownBy w row := ⟨rfl, rfl, rfl, zv4 _, fun _ _ _ => rfl⟩
theorem uf (g : Nat) : ∀ (vs : List Value) (o : Nat) (w : World), w.grownBy (w.setCells g o vs) (some g)
 | [], _, w => zco w _
 | v :: r, o, w => (js w g o v).trans (uf g r (o + 1) _)
theorem zj6 (hk : ∀ x, (enc x).length = k) {l : List α} {i : Nat} (hi : i < l.length * k) : 0 < k /\ i / k < l.length /\ i = i / k * k + i % k /\ i % k < k := by
 have h0 : 0 < k := Nat.pos_of_ne_zero (fun h => by rw [h] at hi; simp at hi)
 exact ⟨h0, (Nat.div_lt_iff_lt_mul h0).2 hi, by rw [Nat.mul_comm]; exact (Nat.div_add_mod i k).symm, Nat.mod_lt _ h0⟩
theorem ERow.set (hk : ∀ x, (enc x).length = k) {w : World} {g : Nat} {l : List α} (h : ERow T k enc w g l) {j : Nat} (hj : j < l.length) (x : α) : ERow T k enc (w.setCells g (j * k) (enc x)) g (l.set j x) := by
 obtain ⟨cs, hg, hs, hc⟩ := h
 obtain ⟨cs', h1, h2, h3⟩ := zbs (enc x) (j * k) w cs hg
 refine ⟨cs', h1, by rw [List.length_set, h2]; exact hs, fun i hi => ?_⟩
 rw [List.length_set] at hi
 obtain ⟨h0, hq, he, hr⟩ := zj6 hk hi
 have g0 : i / k < (l.set j x).length := by rw [List.length_set]; exact hq
 rw [h3, hk]
 have hR : ((l.set j x).flatMap enc)[i]? = (enc (l.set j x)[i / k])[i % k]? := by
  conv => lhs; rw [he]
  exact vy hk (i / k) g0 (i % k) hr
 have hL : (l.flatMap enc)[i]? = (enc l[i / k])[i % k]? := by
  conv => lhs; rw [he]
  exact vy hk (i / k) hq (i % k) hr
 rw [hR, List.getElem_set]
 by_cases e : j = i / k
 ·rw [if_pos (by rw [e]; omega), if_pos e, show i - j * k = i % k by rw [e]; omega]
 ·rw [if_neg e, ← hL, ← hc i hi, if_neg]
  rintro ⟨q1, q2, _⟩
  apply e
  have m1 : j * k < (i / k + 1) * k := by rw [Nat.succ_mul]; omega
  have m2 : i / k * k < (j + 1) * k := by rw [Nat.succ_mul]; omega
  have := Nat.lt_of_mul_lt_mul_right m1
  have := Nat.lt_of_mul_lt_mul_right m2
  omega
theorem ERow.tail (hk : ∀ x, (enc x).length = k) {w : World} {g : Nat} {l : List α} (h : ERow T k enc w g l) {m : Nat} (hm : m ≤ l.length) (vs : List Value) : ERow T k enc (w.setCells g (m * k) vs) g (l.take m) := by
 obtain ⟨cs, hg, hs, hc⟩ := h
 obtain ⟨cs', h1, h2, h3⟩ := zbs vs (m * k) w cs hg
 have hl : (l.take m).length = m := by rw [List.length_take]; omega
 have g0 : m * k ≤ l.length * k := Nat.mul_le_mul_right k hm
 refine ⟨cs', h1, by rw [hl, h2]; omega, fun i hi => ?_⟩
 rw [hl] at hi
 rw [h3, if_neg (by omega), hc i (by omega)]
 have e : l.flatMap enc = (l.take m).flatMap enc ++ (l.drop m).flatMap enc := by rw [← List.flatMap_append, List.take_append_drop]
 rw [e, List.getElem?_append_left (by rw [zat hk, hl]; exact hi)]
theorem GRow.row (hk : ∀ x, (enc x).length = k) {w : World} {N : Nat} {v : Value} {l : List α} (h : GRow T k enc w N v l) : v = .slice none 0 0 /\ l = [] ∨ ∃ g cap, v = .slice (some ⟨g, 0, none⟩) l.length cap /\ N ≤ g /\ l.length ≤ cap /\ ERow T k enc w g l := by
 rcases h.2 with ⟨rfl, hn⟩ | ⟨g, cap, cur, rfl, hN, hg, h1, h2, h3, h4⟩
 ·exact .inl ⟨rfl, List.eq_nil_of_length_eq_zero hn⟩
 ·have hm : l.length * k ≤ cap * k := Nat.mul_le_mul_right k h1
  refine .inr ⟨g, cap, rfl, hN, h1, cur, hg, by omega, fun i hi => ?_⟩
  rw [← h4, List.getElem?_take, if_pos hi]
  simp
theorem ERow.gsl (hk : ∀ x, (enc x).length = k) {w : World} {g cap : Nat} {l : List α} (h : ERow T k enc w g l) : GSl k enc w (.slice (some ⟨g, 0, none⟩) l.length cap) l :=
 ⟨_, cap, rfl, fun j hj => ⟨g, 0, rfl, h.lt, fun i u hu => by have := h.at hk hj i u hu; rw [Nat.zero_add]; exact this⟩⟩
theorem wl_loadT {ops : Array Oper} {rest : List Oper} {o : Oper} {a : Act} {w : World} {Q : Exit -> Act -> World -> Prop} (hk : ∀ x, (enc x).length = k) {bytes : Nat} (hi : jo T k bytes) {d : TypeDesc} (hu : Tryz.prog.underlying T = some d) (hd : d.isRow = true) (g0 : o.guard = none) (y : Operand) (ho : o.op = .load T y)
  (g off : Nat) (hy : a.eval y = .pointer (some ⟨g, off, none⟩)) (x : α) (hr : w.rangeAt g off (enc x))
  (h : wpList Tryz.prog ops Q rest (a.put o.dst (.agg (enc x).toArray)) w) : wpList Tryz.prog ops Q (o :: rest) a w :=
 wpList_load_mid g0 _ y ho g off hy (enc x) d hr hu hd (by rw [hi.sz, hk]) h
theorem zhq {S : TypeId} (hk : ∀ x, (enc x).length = k) (g1 : 0 < k) (g3 : k ≤ 1000) {bytes : Nat} (hi : jo T k bytes) (hu : Tryz.prog.underlying S = some (.slice T)) (x : α) (w : World) :
  (Instr.buildSlice S 1 #[(0, .agg (enc x).toArray)]).run Tryz.prog w = .ok (.slice (some ⟨w.heap.size, 0, none⟩) 1 1) (w.alloc (.cells (enc x).toArray T)) := by
 obtain ⟨ie, z, g2, hz, g0, _, g4⟩ := hi
 have hf := Great.fill_whole (s := k) g1 [Value.agg (enc x).toArray] ((Array.range (1 * ie.size)).map (z.cells[· % z.cells.size]!)) (fun v hv => by
   rcases List.mem_cons.1 hv with rfl | hv
   · show (enc x).toArray.size = k
     rw [List.size_toArray, hk]
   · cases hv) (by rw [g0]; simp)
 refine run_buildSlice w S T 1 _ (enc x).toArray ie z hu g2 hz (by rw [g0]; omega) (by rw [g0]; omega) ?_
 rw [g0] at hf ⊢
 exact hf.trans (by simp [Value.cells])
theorem zjg {ops : Array Oper} {rest : List Oper} {o : Oper} {a : Act} {w : World} {Q : Exit -> Act -> World -> Prop} {S : TypeId} (hk : ∀ x, (enc x).length = k) (g0 : 0 < k) (g1 : k ≤ 1000) {bytes : Nat} (hi : jo T k bytes) (hu : Tryz.prog.underlying S = some (.slice T)) (g2 : o.guard = none) (e1 : Operand) (ho : o.op = .buildSlice S 1 #[(0, e1)])
  (x : α) (h1 : a.eval e1 = .agg (enc x).toArray)
  (h : wpList Tryz.prog ops Q rest (a.put o.dst (.slice (some ⟨w.heap.size, 0, none⟩) 1 1)) (w.alloc (.cells (enc x).toArray T))) : wpList Tryz.prog ops Q (o :: rest) a w := by
 refine wpList_plain g2 fun K hK => ?_
 unfold Oper.wp execOp
 have hb := zhq (S := S) hk g0 g1 hi hu x w
 simp only [ho, List.map_toArray, List.map_cons, List.map_nil, h1, Sem.run_bind, hb, Result.andThen_ok, Sem.run_pure]
 exact hK _ _ h
theorem zne {ops : Array Oper} {o : Oper} {a : Act} {w : World} {K : Act -> World -> Prop} {Q : Exit -> Act -> World -> Prop} {E : Prop} {S : TypeId} (hk : ∀ x, (enc x).length = k) (g0 : 0 < k) (g1 : k ≤ 1000) {bytes : Nat} (hi : jo T k bytes) (hu : Tryz.prog.underlying S = some (.slice T)) (g2 : o.guard = none) (e1 : Operand) (ho : o.op = .buildSlice S 1 #[(0, e1)])
  (x : α) (h1 : a.eval e1 = .agg (enc x).toArray)
  (h : K (a.put o.dst (.slice (some ⟨w.heap.size, 0, none⟩) 1 1)) (w.alloc (.cells (enc x).toArray T))) : if Region.wanted o (yielded ops a.tmps) = true then Oper.wp Tryz.prog o a w K Q else E := by
 rw [if_pos (by simp [Region.wanted, g2])]
 unfold Oper.wp execOp
 have hb := zhq (S := S) hk g0 g1 hi hu x w
 simp only [ho, List.map_toArray, List.map_cons, List.map_nil, h1, Sem.run_bind, hb, Result.andThen_ok, Sem.run_pure]
 exact h
theorem GSl.one {w : World} {b : Nat} {c : α} (hb : b < w.heap.size) (hc : ∀ j u, (enc c)[j]? = some u -> w.cell? ⟨b, j, none⟩ = some u) : GSl k enc w (.slice (some ⟨b, 0, none⟩) 1 1) [c] := by
 refine ⟨_, 1, rfl, fun j hj => ⟨b, 0, rfl, hb, fun i u hu => ?_⟩⟩
 have h0 : j = 0 := by simpa using hj
 subst h0
 rw [Nat.zero_add, Nat.zero_mul, Nat.zero_add]
 exact hc i u hu
theorem zel {w : World} (N : Nat) (S ty : TypeId) {bytes : Nat} (hi : jo T k bytes) (hu : Tryz.prog.underlying S = some (.slice T)) (v : Value) (n : Nat) (xs : List Value) (g1 : w.ownsRow N T k v n xs) (c : Nat) :
  (Builtin.append_ #[S, S] ty #[v, .slice none 0 c]).run Tryz.prog w = .ok v w := by
 obtain ⟨ie, z, g0, _⟩ := hi
 rcases g1.2 with ⟨rfl, rfl⟩ | ⟨g, cap, cur, rfl, _, _, g2, _⟩
 ·simp [Builtin.append_, run_underlying hu, sizeOf, typeInfo, g0, Builtin.lenOf, Builtin.firstCells]
 ·simp [Builtin.append_, run_underlying hu, sizeOf, typeInfo, g0, Builtin.lenOf, Builtin.firstCells, g2, storeCells]
theorem zo4 {w : World} (hk : ∀ x, (enc x).length = k) (g1 : 0 < k) (g2 : ∀ x, ∀ u ∈ enc x, u.oneCell' = true) {bytes : Nat} (hi : jo T k bytes) (g3 : bytes ≤ 1000) (S ty : TypeId) (hu : Tryz.prog.underlying S = some (.slice T))
  (N : Nat) (v : Value) (l : List α) (g0 : GRow T k enc w N v l) (u : Value) (ys : List α) (hy : GSl k enc w u ys) (hl : l.length + ys.length ≤ 1000000) (hN : N ≤ w.heap.size) :
  ∃ v' w', (Builtin.append_ #[S, S] ty #[v, u]).run Tryz.prog w = .ok v' w' /\ GRow T k enc w' N v' (l ++ ys) /\ w.grownBy w' v.ownBlock /\ (v'.ownBlock = v.ownBlock ∨ v'.ownBlock = some w.heap.size) := by
 obtain ⟨a, c, rfl⟩ := hy.slice
 rcases a with _ | ad
 ·have hn : ys = [] := by
   cases ys with
   | nil => rfl
   | cons y r => obtain ⟨g, off, e, _⟩ := hy.at 0 (by simp); cases e
  subst hn
  exact ⟨v, w, zel N S ty hi hu v _ _ g0 c, by rw [List.append_nil]; exact g0, zco w _, .inl rfl⟩
 ·obtain ⟨ie, z, g4, hz, h1, h2, h3⟩ := hi
  obtain ⟨v', w', g5, ho', hg, _, g6⟩ := run_append_own_at (P := Tryz.prog) w N S ty T ie z k bytes hu g4 hz h1 h2 h3 g1 v l.length (l.flatMap enc) g0 ad ys.length c (ys.flatMap enc) (zat hk ys) (fun j u hu => by
    have hj := (List.getElem?_eq_some_iff.1 hu).1
    rw [zat hk] at hj
    obtain ⟨h0, hq, he, hr⟩ := zj6 hk hj
    obtain ⟨g, off, e, hg, hc⟩ := hy.at (j / k) hq
    cases e
    rw [he, vy hk (j / k) hq (j % k) hr] at hu
    rw [Addr.add_mid]
    have := hc _ _ hu
    rw [show off + j = off + j / k * k + j % k by omega]
    exact this) (fun u hu => by
      obtain ⟨y, _, hy⟩ := List.mem_flatMap.1 hu
      exact g2 y u hy) (by unfold maxLen; omega) (by
        have : (l.length + ys.length) * bytes ≤ 1000000 * 1000 := Nat.mul_le_mul hl g3
        omega) hN
  refine ⟨v', w', g5, ?_, hg, g6⟩
  unfold GRow
  rw [List.length_append, List.flatMap_append]
  exact ho'
theorem yv {ops : Array Oper} {rest : List Oper} {o : Oper} {a : Act} {w : World} {Q : Exit -> Act -> World -> Prop} (hk : ∀ x, (enc x).length = k) (g1 : 0 < k) (g2 : ∀ x, ∀ u ∈ enc x, u.oneCell' = true) {bytes : Nat} (hi : jo T k bytes) (g3 : bytes ≤ 1000) (g4 : o.guard = none) (s x : Operand) (S : TypeId)
  (ho : o.op = .call { callee := .builtin .append, args := #[s, x], argTypes := #[S, S] }) (hu : Tryz.prog.underlying S = some (.slice T))
  (N : Nat) (v : Value) (l : List α) (hs : a.eval s = v) (g0 : GRow T k enc w N v l) (u : Value) (ys : List α) (hx : a.eval x = u) (hy : GSl k enc w u ys) (hl : l.length + ys.length ≤ 1000000) (hN : N ≤ w.heap.size)
  (h : ∀ v' w', GRow T k enc w' N v' (l ++ ys) -> w.grownBy w' v.ownBlock -> (v'.ownBlock = v.ownBlock ∨ v'.ownBlock = some w.heap.size) -> wpList Tryz.prog ops Q rest (a.put o.dst v') w') : wpList Tryz.prog ops Q (o :: rest) a w := by
 refine wpList_plain g4 fun K hK => ?_
 obtain ⟨v', w', hr, h2, h3, h4⟩ := zo4 hk g1 g2 hi g3 S o.type hu N v l g0 u ys hy hl hN
 unfold Oper.wp execOp
 simp only [ho, resolve, invoke, builtin, Sem.run_bind, Sem.run_pure, Result.andThen_ok, List.map_toArray, List.map_cons, List.map_nil, hs, hx, hr]
 exact hK _ _ (h v' w' h2 h3 h4)
theorem zd9 {ops : Array Oper} {o : Oper} {a : Act} {w : World} {K : Act -> World -> Prop} {Q : Exit -> Act -> World -> Prop} {E : Prop} (g1 : o.guard = none) (ty : TypeId) (x y : Operand) (ho : o.op = .store ty x y)
  (g off : Nat) (old : Array Value) (t : TypeId) (hg : w.heap[g]? = some (.cells old t (0, 0))) (g0 : off < old.size) (hx : a.eval x = .pointer (some ⟨g, off, none⟩)) (v : Value) (hy : a.eval y = v) (hi : (Tryz.prog.info? ty).map (·.size) = some 1) (h1 : v.oneCell' = true)
  (h : ∀ W, PutAt w W g (old.setIfInBounds off v) t -> K (a.put o.dst undef) W) : if Region.wanted o (yielded ops a.tmps) = true then Oper.wp Tryz.prog o a w K Q else E := by
 rw [if_pos (by simp [Region.wanted, g1])]
 have hc : w.cell? ⟨g, off, none⟩ = some old[off] := by rw [cell_of_row w g off _ _ _ hg, Array.getElem?_eq_getElem g0]
 have hr : (Instr.storeAt ty (.pointer (some ⟨g, off, none⟩)) v).run Tryz.prog w = .ok () (w.setCell ⟨g, off, none⟩ v) := by
  have := zqz (P := Tryz.prog) hc (kg hg) hi h1
  simp only [Instr.storeAt, Instr.sureAddr, Sem.run_bind, Sem.run_pure, Result.andThen_ok, this]
 unfold Oper.wp execOp
 simp only [ho, hx, hy, Sem.run_bind, hr, Result.andThen_ok, Sem.run_pure]
 exact h _ (zmd hg v)
theorem ztg {ops : Array Oper} {rest : List Oper} {o : Oper} {a : Act} {w : World} {Q : Exit -> Act -> World -> Prop} (hk : ∀ x, (enc x).length = k) (g0 : ∀ x, ∀ u ∈ enc x, u.oneCell' = true) {bytes : Nat} (hi : jo T k bytes) (g1 : o.guard = none) (x y : Operand) (ho : o.op = .store T x y)
  (g : Nat) (l : List α) (hr : ERow T k enc w g l) (j : Nat) (hj : j < l.length) (hx : a.eval x = .pointer (some ⟨g, j * k, none⟩)) (z : α) (hy : a.eval y = .agg (enc z).toArray)
  (h : ∀ W, ERow T k enc W g (l.set j z) -> w.grownBy W (some g) -> wpList Tryz.prog ops Q rest (a.put o.dst undef) W) : wpList Tryz.prog ops Q (o :: rest) a w := by
 have hs : (enc z).toArray.size = k := by rw [List.size_toArray, hk]
 refine wpList_store_mid g1 T x y ho g (j * k) (enc z).toArray hx hy (by rw [hs]; exact hr.there hj) (by rw [hi.sz, hs]) (all_oneCell_toArray (g0 z)) ?_
 exact h _ (hr.set hk hj z) (uf g _ _ w)
end
end Go.Proofs.YtbikeahmldobkaaGreatDoor
