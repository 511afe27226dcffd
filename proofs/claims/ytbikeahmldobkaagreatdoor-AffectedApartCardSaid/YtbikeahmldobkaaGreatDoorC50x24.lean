/-
  Lemmas for the law.
-/
import Derived.Test.YtbikeahmldobkaaGreatDoorC50x21
import Derived.Test.YtbikeahmldobkaaGreatDoorC50x23
import Derived.Test.YtbikeahmldobkaaGreatDoorC50x03
import Derived.Test.YtbikeahmldobkaaGreatDoorC50x09
import Derived.Test.YtbikeahmldobkaaGreatDoorC50x20
import Derived.Test.YtbikeahmldobkaaGreatDoorC50x19
set_option linter.all false
set_option maxRecDepth 100000
set_option maxHeartbeats 3200000
namespace Go.Proofs.YtbikeahmldobkaaGreatDoor
open Go.RowKit
theorem Notes.at {w : World} {a : Option Addr} {n cap : Nat} {xs : List NV} (h : Notes w (.slice a n cap) xs) (j : Nat) (hj : j < xs.length) : NOk w xs[j] /\ ∃ g off, a = some ⟨g, off, none⟩ /\ g < w.heap.size /\ w.rangeAt g (off + j * 37) (nl xs[j]) := by
 obtain ⟨a', c, e, hc⟩ := h
 cases e
 exact hc j hj
theorem any_no {xs : List NV} {p : NV -> Bool} (h : ∀ j (hj : j < xs.length), p xs[j] = false) : xs.any p = false := by
 rw [List.any_eq_false]
 intro x hx
 obtain ⟨j, hj, rfl⟩ := List.mem_iff_getElem.1 hx
 rw [h j hj]; simp
theorem zqi (v : Value) (xs : List NV) (n : Int) (s ver : V.Bs) (w : World) (hm : zj w) (hv : Notes w v xs) (hl : xs.length ≤ 1000000) (hs : ver.length ≤ maxLen) :
  Calls Tryz.prog 51 #[v, .int .i64 n, .string ⟨s.toArray⟩, .string ⟨ver.toArray⟩] w fun e w' => e = .returned (.bool (xs.any fun x => V.covP x.n.adv n s ver)) /\ Below w.heap.size w w' := by
 obtain ⟨pa, pc, rfl⟩ := hv.slice
 have HM := zwg hm
 have HV := zwg hv
 have HS := zwg hs
 clear hm hv hs
 go_enter Tryz.func51, Tryz.ntmps51
 go_wp2_with fail
 go_loopw [9] (fun iv wx => ∃ k : Nat, k ≤ xs.length /\ iv = .int .i64 k /\ Below w.heap.size w wx /\ (∀ j (h : j < xs.length), j < k -> V.covP xs[j].n.adv n s ver = false)) (fun iv _ => xs.length - (intOf iv).toNat)
 case atStart => exact ⟨0, Nat.zero_le _, rfl, zwj _ _, fun j h hj => absurd hj (by omega)⟩
 case round =>
  obtain ⟨k, hk, rfl, hb, g0⟩ := hrel
  have HB := zwg hb
  have HNO := zwg g0
  clear hb g0
  by_cases hlt : k < xs.length
  ·obtain ⟨hok, g, off, hpa, hg, hr⟩ := (HV.out.below HB.out).at k hlt
   subst hpa
   obtain ⟨c0, c1, c2, c3, _, _⟩ := xh hok.doc hr
   have HOK := zwg hok
   have i1 : (0 : Int) ≤ (k : Int) := by omega
   have i2 : (k : Int) < (xs.length : Int) := by omega
   clear hok hr
   obtain ⟨x, hx⟩ : ∃ x, x = xs[k] := ⟨_, rfl⟩
   rw [← hx] at c0 c1 c2 c3 HOK
   have HX := zwg hx
   clear hx
   go_wp2_with fail
   refine (zd2 x.n.adv x.u n s ver wr (HM.out.below HB.out) HOK.out.affs HOK.out.id HOK.out.len HS.out).mono ?_
   rintro e w2 ⟨rfl, hb2⟩
   rw [V.zqo]
   have HB2 := zwh HB hb2
   clear hb2
   rcases hc : V.covP x.n.adv n s ver with _ | _
   ·have g1 : Hid (∀ j (h : j < xs.length), j < k + 1 -> V.covP xs[j].n.adv n s ver = false) := zwg (fun j h hj => by
      by_cases e : j = k
      · subst e; rw [← HX.out]; exact hc
      · exact HNO.out j h (by omega))
    clear hc c0 c1 c2 c3
    go_wp2
    go_roundw
    case rel => exact ⟨k + 1, by omega, by go_num, HB2.out, g1.out⟩
    case measure => simp [intOf]; omega
   ·have HR : Hid ((xs.any fun x => V.covP x.n.adv n s ver) = true) := zwg (List.any_eq_true.2 ⟨x, by rw [HX.out]; exact List.getElem_mem _, hc⟩)
    clear hc c0 c1 c2 c3
    go_wp2
    go_ret
    exact ⟨by rw [HR.out]; rfl, HB2.out⟩
  ·obtain rfl : k = xs.length := by omega
   have i2 : ¬ (xs.length : Int) < (xs.length : Int) := by omega
   have HR : Hid ((xs.any fun x => V.covP x.n.adv n s ver) = false) := zwg (any_no (fun j hj => HNO.out j hj hj))
   go_wp2
   go_ret
   exact ⟨by rw [HR.out]; rfl, HB.out⟩
theorem zmx (n : Int) (a b : V.Bs) (w : World) (hm : zj w) (ha : a.length ≤ maxLen) (hb : b.length ≤ maxLen) :
  Calls Tryz.prog 46 #[.int .i64 n, .string ⟨a.toArray⟩, .string ⟨b.toArray⟩] w fun e w' => e = .returned (.bool (decide ((V.zw n a b).2 = 0) && decide (0 < (V.zw n a b).1))) /\ Below w.heap.size w w' := by
 have HM := zwg hm
 have HA := zwg ha
 have HB := zwg hb
 clear hm ha hb
 go_enter Tryz.func46, Tryz.ntmps46
 go_wp2_with fail
 refine (zia n ⟨a.toArray⟩ ⟨b.toArray⟩ w HM.out (by simpa [ByteArray.size] using HA.out) (by simpa [ByteArray.size] using HB.out)).mono ?_
 rintro e w1 ⟨rfl, hb1⟩
 have HB1 := zwg hb1
 rw [zag, zag]
 clear hb1
 obtain ⟨⟨c, d⟩, hr⟩ : ∃ r, r = V.zw n a b := ⟨_, rfl⟩
 have HR := zwg hr
 rw [← hr]
 clear hr
 simp only
 by_cases hd : d = 0
 ·subst hd
  by_cases hc : 0 < c
  ·go_wp2
   go_ret
   exact ⟨by rw [← HR.out]; simp [hc], HB1.out⟩
  ·go_wp2
   go_ret
   exact ⟨by rw [← HR.out]; simp [hc], HB1.out⟩
 ·have g0 : (d == 0) = false := by simp [hd]
  go_wp2
  go_ret
  exact ⟨by rw [← HR.out]; simp [hd], HB1.out⟩
namespace V
section
variable {α : Type} {c : α -> α -> Int}
def AscC (c : α -> α -> Int) (l : List α) : Prop := l.Pairwise fun a b => c a b < 0
theorem Cmp.irr (C : Cmp c) (a : α) : ¬ c a a < 0 := by rw [(C.zero a a).2 rfl]; omega
theorem zgr (C : Cmp c) : ∀ {l m : List α}, AscC c l -> AscC c m -> (∀ x, x ∈ l ↔ x ∈ m) -> l = m
 | [], [], _, _, _ => rfl
 | [], y :: m, _, _, h => absurd ((h y).2 (by simp)) (by simp)
 | x :: l, [], _, _, h => absurd ((h x).1 (by simp)) (by simp)
 | x :: l, y :: m, hl, hm, h => by
  have g0 := List.pairwise_cons.1 hl
  have g1 := List.pairwise_cons.1 hm
  have e : x = y := by
   rcases List.mem_cons.1 ((h x).1 (by simp)) with e | hx
   ·exact e
   ·rcases List.mem_cons.1 ((h y).2 (by simp)) with e | hy
    ·exact e.symm
    ·exact absurd (C.trans _ _ _ (g0.1 y hy) (g1.1 x hx)) (C.irr x)
  subst e
  rw [zgr C g0.2 g1.2 fun z => ?_]
  constructor
  ·intro hz
   rcases List.mem_cons.1 ((h z).1 (List.mem_cons_of_mem _ hz)) with e | g2
   ·subst e; exact absurd (g0.1 _ hz) (C.irr _)
   ·exact g2
  ·intro hz
   rcases List.mem_cons.1 ((h z).2 (List.mem_cons_of_mem _ hz)) with e | g2
   ·subst e; exact absurd (g1.1 _ hz) (C.irr _)
   ·exact g2
def insC (c : α -> α -> Int) (x : α) : List α -> List α
 | [] => [x]
 | y :: l => if c y x < 0 then y :: insC c x l else x :: y :: l
theorem zjb {x y : α} : ∀ {l : List α}, y ∈ insC c x l ↔ y = x ∨ y ∈ l
 | [] => by simp [insC]
 | z :: l => by
  unfold insC
  split
  ·rw [List.mem_cons, zjb (l := l), List.mem_cons]
   constructor
   ·rintro (h | h | h)
    ·exact .inr (.inl h)
    ·exact .inl h
    ·exact .inr (.inr h)
   ·rintro (h | h | h)
    ·exact .inr (.inl h)
    ·exact .inl h
    ·exact .inr (.inr h)
  ·rw [List.mem_cons]
theorem zq8 (C : Cmp c) {x : α} : ∀ {l : List α}, AscC c l -> x ∉ l -> AscC c (insC c x l)
 | [], _, _ => List.pairwise_singleton _ _
 | y :: l, h, hn => by
  have h' := List.pairwise_cons.1 h
  rw [List.mem_cons, not_or] at hn
  unfold insC
  split
  ·rename_i hlt
   refine List.pairwise_cons.2 ⟨fun z hz => ?_, zq8 C h'.2 hn.2⟩
   rcases zjb.1 hz with rfl | hz
   ·exact hlt
   ·exact h'.1 z hz
  ·rename_i hnlt
   have g0 : c x y < 0 := by
    rw [C.anti]
    have : c y x ≠ 0 := fun e => hn.1 ((C.zero _ _).1 e).symm
    omega
   refine List.pairwise_cons.2 ⟨fun z hz => ?_, h⟩
   rcases List.mem_cons.1 hz with rfl | hz
   ·exact g0
   ·exact C.trans _ _ _ g0 (h'.1 z hz)
theorem zgj {x : α} : ∀ {l : List α} {i : Nat}, i ≤ l.length -> (∀ j (h : j < l.length), j < i -> c l[j] x < 0) -> (∀ h : i < l.length, ¬ c l[i] x < 0) -> insC c x l = l.take i ++ x :: l.drop i
 | [], i, hi, _, _ => by obtain rfl : i = 0 := by simpa using hi
                         rfl
 | y :: l, 0, _, _, hn => by
  have h0 : ¬ c y x < 0 := hn (by simp)
  unfold insC
  rw [if_neg h0]
  rfl
 | y :: l, i + 1, hi, hlt, hn => by
  have h0 : c y x < 0 := hlt 0 (by simp) (by omega)
  unfold insC
  rw [if_pos h0, zgj (l := l) (i := i) (by simpa using hi) (fun j h hj => hlt (j + 1) (by simpa using h) (by omega)) (fun h => hn (by simpa using h))]
  rfl
def addC [DecidableEq α] (c : α -> α -> Int) (l : List α) (x : α) : List α := if x ∈ l then l else insC c x l
theorem zjh [DecidableEq α] {l : List α} {x y : α} : y ∈ addC c l x ↔ y ∈ l ∨ y = x := by
 unfold addC
 split
 ·constructor
  ·exact .inl
  ·rintro (h | rfl) <;> assumption
 ·rw [zjb, or_comm]
theorem addC_asc [DecidableEq α] (C : Cmp c) {l : List α} {x : α} (h : AscC c l) : AscC c (addC c l x) := by
 unfold addC
 split
 ·exact h
 ·rename_i hn; exact zq8 C h hn
theorem zo7 {x : α} : ∀ {l : List α}, (insC c x l).length = l.length + 1
 | [] => rfl
 | y :: l => by
  unfold insC
  split
  ·rw [List.length_cons, zo7, List.length_cons]
  ·rfl
theorem zpx [DecidableEq α] {l : List α} {x : α} : (addC c l x).length ≤ l.length + 1 := by
 unfold addC
 split
 ·omega
 ·rw [zo7]; exact zwi _
def zai [DecidableEq α] (c : α -> α -> Int) (l xs : List α) : List α := xs.foldl (addC c) l
theorem zco [DecidableEq α] {y : α} : ∀ {xs l : List α}, y ∈ zai c l xs ↔ y ∈ l ∨ y ∈ xs
 | [], l => by simp [zai]
 | x :: xs, l => by
  have := zco (y := y) (xs := xs) (l := addC c l x)
  unfold zai at *
  rw [List.foldl_cons, this, zjh, List.mem_cons, or_assoc]
theorem zcs [DecidableEq α] (C : Cmp c) : ∀ {xs l : List α}, AscC c l -> AscC c (zai c l xs)
 | [], _, h => h
 | x :: xs, l, h => by
  have := zcs C (xs := xs) (addC_asc C (x := x) h)
  unfold zai at *
  rw [List.foldl_cons]; exact this
theorem za3 [DecidableEq α] : ∀ {xs l : List α}, (zai c l xs).length ≤ l.length + xs.length
 | [], l => by simp [zai]
 | x :: xs, l => by
  have h1 := za3 (xs := xs) (l := addC c l x)
  have h2 := zpx (c := c) (l := l) (x := x)
  unfold zai at *
  rw [List.foldl_cons, List.length_cons]
  omega
theorem zrt [DecidableEq α] {l xs : List α} {x : α} : zai c l (xs ++ [x]) = addC c (zai c l xs) x := by
 unfold zai; rw [List.foldl_append]; rfl
end
def cmpI : List Int -> List Int -> Int
 | [], [] => 0
 | [], _ :: _ => -1
 | _ :: _, [] => 1
 | x :: a, y :: b => if x < y then -1 else if y < x then 1 else cmpI a b
theorem vx : ∀ a b : List Int, cmpI a b = 0 ↔ a = b
 | [], [] => by simp [cmpI]
 | [], y :: b => by simp [cmpI]
 | x :: a, [] => by simp [cmpI]
 | x :: a, y :: b => by
  have ih := vx a b
  unfold cmpI
  by_cases h1 : x < y
  ·rw [if_pos h1]; simp only [List.cons.injEq]; exact ⟨fun h => absurd h (by decide), fun h => by omega⟩
  ·rw [if_neg h1]
   by_cases h2 : y < x
   ·rw [if_pos h2]; simp only [List.cons.injEq]; exact ⟨fun h => absurd h (by decide), fun h => by omega⟩
   ·rw [if_neg h2, ih]
    obtain rfl : x = y := by omega
    simp
theorem zcj : ∀ a b : List Int, cmpI a b = - cmpI b a
 | [], [] => by simp [cmpI]
 | [], y :: b => by simp [cmpI]
 | x :: a, [] => by simp [cmpI]
 | x :: a, y :: b => by
  have ih := zcj a b
  unfold cmpI
  by_cases h1 : x < y
  ·rw [if_pos h1, if_neg (by omega), if_pos h1]
  ·rw [if_neg h1]
   by_cases h2 : y < x
   ·rw [if_pos h2, if_pos h2]; rfl
   ·rw [if_neg h2, if_neg h2, if_neg h1, ih]
theorem zbg : ∀ a b d : List Int, cmpI a b < 0 -> cmpI b d < 0 -> cmpI a d < 0
 | [], b, [], h1, h2 => by
  cases b
  ·exact h1
  ·simp [cmpI] at h2
 | [], _, _ :: _, _, _ => by simp [cmpI]
 | _ :: _, [], _, h1, _ => by simp [cmpI] at h1
 | _ :: _, _ :: _, [], _, h2 => by simp [cmpI] at h2
 | x :: a, y :: b, z :: d, h1, h2 => by
  have ih := zbg a b d
  unfold cmpI at h1 h2 ⊢
  exact zxm
theorem zd3 : Cmp cmpI := ⟨vx, fun a b => by rw [zcj a b]; omega, zbg⟩
def cov (x : Note) (c : Comp) : Bool := covP x.adv c.sch c.name c.ver
structure Hit where
 comp : Int
 id : Bs
 sev : Int
 docs : List (List Int)
def selN (xs : List Note) (c : Comp) (id : Bs) : List Note := xs.filter fun x => decide (x.adv.id = id) && cov x c
def sevN (l : List Note) : Int := l.foldl (fun s x => max s x.adv.sev) 0
def zdn (l : List Note) : List (List Int) := zai cmpI [] (l.map (·.doc))
def idsN (xs : List Note) : List Bs := zai Lib.compareBytes [] (xs.map (·.adv.id))
def hitN (xs : List Note) (i : Int) (c : Comp) (id : Bs) : Hit := ⟨i, id, sevN (selN xs c id), zdn (selN xs c id)⟩
def km (xs : List Note) (c : Comp) : List Bs := idsN (xs.filter fun x => cov x c)
def zae (xs : List Note) (i : Int) (c : Comp) : List Hit := (km xs c).map (hitN xs i c)
def jh (xs : List Note) (l : List Comp) : Nat -> List Hit
 | 0 => []
 | k + 1 => jh xs l k ++ match l[k]? with | some c => zae xs k c | none => []
def kx (ok : Bool) (xs : List Note) (l : List Comp) : List Hit := if ok then jh xs l l.length else []
theorem zjm : ∀ (l : List Note) (s : Int), s ≤ l.foldl (fun s x => max s x.adv.sev) s /\ ∀ x ∈ l, x.adv.sev ≤ l.foldl (fun s x => max s x.adv.sev) s
 | [], s => ⟨Int.le_refl _, fun x h => by simp at h⟩
 | y :: l, s => by
  have ih := zjm l (max s y.adv.sev)
  rw [List.foldl_cons]
  refine ⟨by omega, fun x hx => ?_⟩
  rcases List.mem_cons.1 hx with rfl | hx
  ·omega
  ·exact ih.2 x hx
theorem zq9 {xs : List Note} {id : Bs} : id ∈ idsN xs ↔ ∃ x ∈ xs, x.adv.id = id := by
 unfold idsN
 rw [zco]
 simp [List.mem_map]
theorem zbe (xs : List Note) : AscC Lib.compareBytes (idsN xs) := zcs za1 List.Pairwise.nil
theorem zqw {xs : List Note} {l : List Comp} {k : Nat} (h : k < l.length) : jh xs l (k + 1) = jh xs l k ++ zae xs k l[k] := by
 rw [jh, List.getElem?_eq_getElem h]
end V
open Go.RowKit
theorem zy3 {P : Prop} (h : P := by
 unfold dcells zq
 rw [List.getElem?_toArray, List.getElem?_map, List.getElem?_eq_getElem (by omega), List.getD_eq_getElem?_getD, List.getElem?_eq_getElem (by omega)]
 rfl) : P := h
theorem zuj {w : World} {g i : Nat} {d : List Int} {T : TypeId} {fr : Nat × Nat} (h : w.heap[g]? = some (.cells (dcells d) T fr)) (hd : d.length = 32) (hi : i < 32) : w.cell? ⟨g, i, none⟩ = some (.int .u8 (d.getD i 0)) := by
 rw [cell_of_row w g i _ _ _ h]
 exact zy3
theorem V.cmpI_at : ∀ {a b : List Int} {i : Nat}, i < a.length -> a.length = b.length -> (∀ j, j < i -> a.getD j 0 = b.getD j 0) -> a.getD i 0 ≠ b.getD i 0 -> (V.cmpI a b < 0 ↔ a.getD i 0 < b.getD i 0)
 | [], _, i, h, _, _, _ => absurd h (Nat.not_lt_zero _)
 | _ :: _, [], _, _, h, _, _ => by simp at h
 | x :: a, y :: b, 0, _, _, _, hn => by
  simp only [List.getD_cons_zero] at hn ⊢
  unfold V.cmpI
  by_cases h1 : x < y
  ·simp [h1]
  ·rw [if_neg h1, if_pos (by omega)]
   exact ⟨fun h => absurd h (by decide), fun h => absurd h h1⟩
 | x :: a, y :: b, i + 1, hi, hl, he, hn => by
  have h0 := he 0 (by omega)
  simp only [List.getD_cons_zero] at h0
  subst h0
  unfold V.cmpI
  rw [if_neg (by omega), if_neg (by omega)]
  simp only [List.getD_cons_succ] at hn ⊢
  exact V.cmpI_at (by simpa using hi) (by simpa using hl) (fun j hj => by have := he (j + 1) (by omega); simpa using this) hn
theorem V.eq_at {a b : List Int} (hl : a.length = b.length) (he : ∀ j, j < a.length -> a.getD j 0 = b.getD j 0) : a = b := by
 apply List.ext_getElem hl
 intro j h1 h2
 have := he j h1
 rwa [List.getD_eq_getElem?_getD, List.getD_eq_getElem?_getD, List.getElem?_eq_getElem h1, List.getElem?_eq_getElem h2] at this
theorem zl9 (a b : List Int) (w : World) (ha : qj a) (hb : qj b) :
  Calls Tryz.prog 74 #[.agg (dcells a), .agg (dcells b)] w fun e w' => e = .returned (.bool (decide (V.cmpI a b < 0))) /\ Below w.heap.size w w' := by
 obtain ⟨W0, hW0⟩ : ∃ W0, W0 = (w.alloc (.cells (dcells a) 26)).alloc (.cells (dcells b) 26) := ⟨_, rfl⟩
 have HB0 : Hid (Below w.heap.size w W0) := zwg (by rw [hW0]; exact ((zwj _ w).alloc (zwi _) _).alloc (by simp) _)
 have K0 : Hid (W0.heap[w.heap.size]? = some (.cells (dcells a) 26 (0, 0))) := zwg (by rw [hW0, heap_alloc, if_neg (by simp), heap_alloc, if_pos rfl])
 have K1 : Hid (W0.heap[w.heap.size + 1]? = some (.cells (dcells b) 26 (0, 0))) := zwg (by rw [hW0, heap_alloc, if_pos (by simp)])
 have HW := zwg hW0
 have HA := zwg ha
 have HB := zwg hb
 have HZ : Hid (w.heap.size + 2 = W0.heap.size) := zwg (by rw [hW0]; simp)
 clear hW0 ha hb
 go_enter Tryz.func74, Tryz.ntmps74
 go_wp2_with fail
 rw [← HW.out]
 go_loopw [5] (fun iv wx => ∃ i : Nat, i ≤ 32 /\ iv = .int .i64 i /\ Below W0.heap.size W0 wx /\ (∀ j, j < i -> a.getD j 0 = b.getD j 0)) (fun iv _ => 32 - (intOf iv).toNat)
 case atStart => exact ⟨0, by omega, rfl, zwj _ _, fun j hj => absurd hj (by omega)⟩
 case round =>
  obtain ⟨i, hi, rfl, g2, he⟩ := hrel
  have HBX := zwg g2
  have HE := zwg he
  have HBW := zwh HB0 g2
  clear g2 he
  by_cases hlt : i < 32
  ·have c0 := zuj ((HBX.out.block _ (by have := HZ.out; omega)).trans K0.out) HA.out.1 hlt
   have c1 := zuj ((HBX.out.block _ (by have := HZ.out; omega)).trans K1.out) HB.out.1 hlt
   have i1 : (0 : Int) ≤ (i : Int) := by omega
   have i2 : (i : Int) < 32 := by omega
   have H1 : Hid (i < a.length /\ a.length = b.length) := zwg ⟨by rw [HA.out.1]; exact hlt, by rw [HA.out.1, HB.out.1]⟩
   obtain ⟨x, hx⟩ : ∃ x, x = a.getD i 0 := ⟨_, rfl⟩
   obtain ⟨y, hy⟩ : ∃ y, y = b.getD i 0 := ⟨_, rfl⟩
   rw [← hx] at c0
   rw [← hy] at c1
   have g0 := zwg (And.intro hx hy)
   clear hx hy
   by_cases hxy : x = y
   ·have HN : Hid (∀ j, j < i + 1 -> a.getD j 0 = b.getD j 0) := zwg (fun j hj => by
      by_cases e : j = i
      · subst e; rw [← g0.out.1, ← g0.out.2]; exact hxy
      · exact HE.out j (by omega))
    have g3 : (x == y) = true := by rw [beq_iff_eq]; exact hxy
    subst hxy
    go_wp2_with fail
    go_quiet (fail)
    have g1 := zwg (below_drewN HBX.out nq)
    clear c0 c1
    generalize wr.drewN nq = wq at *
    go_wp2
    go_roundw
    case rel => exact ⟨i + 1, by omega, by go_num, g1.out, HN.out⟩
    case measure => simp [intOf]; omega
   ·have HR : Hid (decide (V.cmpI a b < 0) = decide (x < y)) := zwg (by rw [decide_eq_decide, V.cmpI_at H1.out.1 H1.out.2 HE.out (by rw [← g0.out.1, ← g0.out.2]; exact hxy), ← g0.out.1, ← g0.out.2])
    have g3 : (x == y) = false := by rw [zwk]; exact hxy
    clear hxy
    go_wp2_with fail
    go_quiet (fail)
    have g1 := zwg (HBW.out.trans ((below_drewN (zwj _ wr) nq).mono HBW.out.size))
    replace c0 := zf (below_drewN (zwj _ wr) nq) c0
    replace c1 := zf (below_drewN (zwj _ wr) nq) c1
    generalize wr.drewN nq = wq at *
    go_wp2_with fail
    go_quiet (fail)
    have g4 := zwg (g1.out.trans ((below_drewN (zwj _ wq) nq).mono g1.out.size))
    generalize wq.drewN nq = wz at *
    clear c0 c1
    go_wp2
    go_ret
    exact ⟨by rw [HR.out]; rfl, g4.out⟩
  ·obtain rfl : i = 32 := by omega
   have HR : Hid (decide (V.cmpI a b < 0) = false) := zwg (by
     have e : a = b := V.eq_at (by rw [HA.out.1, HB.out.1]) (fun j hj => HE.out j (by rw [HA.out.1] at hj; exact hj))
     rw [e, (V.vx b b).2 rfl]; rfl)
   go_wp2
   go_ret
   exact ⟨by rw [HR.out]; rfl, HBW.out⟩
theorem zkz {ops : Array Oper} {o : Oper} {a : Act} {w : World} {K : Act -> Prop} {E : Prop} (hw : Region.wanted o (yielded ops a.tmps) = true) (x y : Operand) (ho : o.op = .binOp .eql 26 x y 26)
  (c d : List Int) (hc : qj c) (hd : qj d) (hx : a.eval x = .agg (dcells c)) (hy : a.eval y = .agg (dcells d)) (h : K (a.put o.dst (.bool (decide (c = d))))) :
  if Region.wanted o (yielded ops a.tmps) = true then o.still Tryz.prog a w K else E := by
 rw [if_pos hw]
 unfold Oper.still execOp
 simp only [ho, hx, hy, Sem.run_bind, run_eqGuard_agg w .eql 26 x y _ _ wg, Result.andThen_ok, run_eql_struct, zrv hc.1 hc.2 hd.1 hd.2, Sem.run_pure, Oper.stillUpon_value]
 exact h
theorem ziu {w : World} {g : Nat} {d : List Int} {T : TypeId} {fr : Nat × Nat} (h : w.heap[g]? = some (.cells (dcells d) T fr)) : w.rangeAt g 0 (zq d) := fun j u hj => by
 rw [Nat.zero_add, cell_of_row w g j _ _ _ h]
 unfold dcells
 simpa using hj
theorem zbj {o : Oper} {ev : Operand -> Value} {w : World} {x : Operand} {b off : Nat} {d : List Int} (ho : o.op = .load 26 x) (hx : ev x = .pointer (some ⟨b, off, none⟩)) (hd : qj d) (hr : w.rangeAt b off (zq d)) : (execOp ev o).run Tryz.prog w = .ok (.value (.agg (dcells d))) w := by
 unfold execOp
 have hl : (Instr.loadAt 26 (.pointer (some ⟨b, off, none⟩))).run Tryz.prog w = .ok (.agg (dcells d)) w := run_loadAt_mid w b off _ (zq d) _ hr Tryz.underlying26 rfl (by rw [vd, zdg hd])
 simp only [ho, hx, Sem.run_bind, hl, Result.andThen_ok, Sem.run_pure]
theorem zvd (v : Value) (l : List (List Int)) (d : List Int) (w : World) (hv : Digs w v l) (hd : qj d) (hl : l.length ≤ 100000) :
  Calls Tryz.prog 73 #[v, .agg (dcells d)] w fun e w' => e = .returned (.bool (decide (d ∈ l))) /\ Below w.heap.size w w' := by
 obtain ⟨va, vc, rfl, g1⟩ := hv
 obtain ⟨W0, hW0⟩ : ∃ W0, W0 = w.alloc (.cells (dcells d) 26) := ⟨_, rfl⟩
 have HB0 : Hid (Below w.heap.size w W0) := zwg (by rw [hW0]; exact (zwj _ w).alloc (zwi _) _)
 have K0 : Hid (W0.heap[w.heap.size]? = some (.cells (dcells d) 26 (0, 0))) := zwg (by rw [hW0]; exact heap_alloc_new w _)
 have HZ : Hid (w.heap.size < W0.heap.size) := zwg (by rw [hW0]; simp)
 have HA := zwg g1
 have g2 := zwg hd
 have HW := zwg hW0
 clear g1 hd hW0
 go_enter Tryz.func73, Tryz.ntmps73
 go_wp2_with fail
 rw [← HW.out]
 go_loopw [5] (fun iv wx => ∃ i : Nat, i ≤ l.length /\ iv = .int .i64 i /\ Below W0.heap.size W0 wx /\ (∀ j (h : j < l.length), j < i -> l[j] ≠ d)) (fun iv _ => l.length - (intOf iv).toNat)
 case atStart => exact ⟨0, Nat.zero_le _, rfl, zwj _ _, fun j _ hj => absurd hj (by omega)⟩
 case round =>
  obtain ⟨i, hi, rfl, g0, g3⟩ := hrel
  have HBX := zwg g0
  have HE := zwg g3
  have HBW := zwh HB0 g0
  clear g0 g3
  by_cases hlt : i < l.length
  ·obtain ⟨g4, g, off, rfl, g6, hc⟩ := HA.out i hlt
   have HD := zwg g4
   have HR := zwg (zk (zk hc HBW.out) (zwj _ wr).drew)
   have g5 := zwg (zk (ziu ((HBX.out.block _ HZ.out).trans K0.out)) (zwj _ wr).drew)
   have g7 : (0 : Int) ≤ (i : Int) := by omega
   have g8 : (i : Int) < (l.length : Int) := by omega
   have HM : Hid (l[i] ∈ l) := zwg (List.getElem_mem hlt)
   have HN : Hid (l[i] ≠ d -> ∀ j (h : j < l.length), j < i + 1 -> l[j] ≠ d) := zwg (fun hn j h hj => by
     by_cases e : j = i
     · subst e; exact hn
     · exact HE.out j h (by omega))
   clear hc g4
   generalize l[i] = x at *
   go_wp2
   refine wp_region_still_lit (by kernel_rfl) (by kernel_rfl) ?_
   still_step
   still_step
   still_step
   refine wpStill_step (fun K hK => ?_)
   refine xg rfl (.tmp 14) rfl g (off + i * 32) rfl x HD.out HR.out (hK _ ?_)
   clear hK K
   refine wpStill_step (fun K hK => ?_)
   refine xg rfl (.tmp 3) rfl w.heap.size 0 rfl d g2.out g5.out (hK _ ?_)
   clear hK K
   refine wpStill_step (fun K hK => ?_)
   refine zkz rfl (.tmp 15) (.tmp 16) rfl x d HD.out g2.out rfl rfl (hK _ ?_)
   clear hK K
   refine wpStill_nil ?_
   have HBD := zwg HBX.out.drew
   have HBE := zwg HBW.out.drew
   change Exit.then _ _ _ _ wr.drew
   by_cases hxd : x = d
   ·rw [decide_eq_true hxd]
    have HF : Hid (decide (d ∈ l) = true) := zwg (decide_eq_true (hxd ▸ HM.out))
    clear hxd
    go_wp2
    go_ret
    exact ⟨by rw [HF.out]; rfl, HBE.out⟩
   ·rw [decide_eq_false hxd]
    have HNN := zwg (HN.out hxd)
    clear hxd
    go_wp2
    go_roundw
    case rel => exact ⟨i + 1, by omega, by go_num, HBD.out, HNN.out⟩
    case measure => simp [intOf]; omega
  ·obtain rfl : i = l.length := by omega
   have HF : Hid (decide (d ∈ l) = false) := zwg (decide_eq_false (fun hm => by
     obtain ⟨j, hj, e⟩ := List.mem_iff_getElem.1 hm
     exact HE.out j hj hj e))
   go_wp2
   go_ret
   exact ⟨by rw [HF.out]; rfl, HBW.out⟩
end Go.Proofs.YtbikeahmldobkaaGreatDoor
