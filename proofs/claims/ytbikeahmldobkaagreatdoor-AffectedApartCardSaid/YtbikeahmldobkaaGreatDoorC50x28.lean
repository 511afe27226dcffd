/-
  Lemmas for the law.
-/
import Derived.Test.YtbikeahmldobkaaGreatDoorC50x04
import Derived.Test.YtbikeahmldobkaaGreatDoorC50x26
import Derived.Test.YtbikeahmldobkaaGreatDoorC50x08
import Derived.Test.YtbikeahmldobkaaGreatDoorC50x24
import Derived.Test.YtbikeahmldobkaaGreatDoorC50x27
import Derived.Maps.Own
import Derived.Maps.OwnSet
import Derived.Maps.Views
import Derived.Deep.Onto
import Derived.Shelf.SlIter.Nil
import Derived.Shelf.SortM.Plain
import Derived.Shelf.SortM.SortNone
import Derived.Sort.OwnSorted
set_option linter.all false
namespace Go.Proofs.YtbikeahmldobkaaGreatDoor
open Go.RowKit Go.Shelf
attribute [local go_sem] Oper.semAt_some
namespace V
def parOf (l : List Comp) (i : Int) : Int := match l[i.toNat]? with | some c => c.par | none => -1
def ancF (l : List Comp) : Nat -> Int -> List Int
 | 0, _ => []
 | f + 1, i => if i < 0 then [] else i :: ancF l f (parOf l i)
def anc (l : List Comp) (i : Int) : List Int := ancF l (i.toNat + 1) i
theorem zqj {l : List Comp} {i : Nat} (h : i < l.length) : parOf l i = l[i].par := by
 unfold parOf
 rw [Int.toNat_natCast, List.getElem?_eq_getElem h]
theorem znn {l : List Comp} (ho : qg l l.length = true) {i : Nat} (h : i < l.length) : -1 ≤ l[i].par /\ l[i].par < i := by
 have := ztb ho h
 rw [zke] at this
 exact ⟨this.2.1, this.2.2.1⟩
theorem zm5 {l : List Comp} (ho : qg l l.length = true) : ∀ (f g : Nat) (i : Int), i < l.length -> i.toNat < f -> i.toNat < g -> ancF l f i = ancF l g i
 | 0, _, _, _, h, _ => by omega
 | _, 0, _, _, _, h => by omega
 | f + 1, g + 1, i, hl, hf, hg => by
  unfold ancF
  by_cases h0 : i < 0
  ·rw [if_pos h0, if_pos h0]
  ·rw [if_neg h0, if_neg h0]
   obtain ⟨k, rfl⟩ := Int.eq_ofNat_of_zero_le (show 0 ≤ i by omega)
   have hk : k < l.length := by omega
   have hp := znn ho hk
   rw [zqj hk]
   by_cases hn : l[k].par < 0
   ·congr 1
    cases f with
    | zero => cases g with
     | zero => rfl
     | succ g => unfold ancF; rw [if_pos hn]
    | succ f => cases g with
     | zero => unfold ancF; rw [if_pos hn]
     | succ g => unfold ancF; rw [if_pos hn, if_pos hn]
   ·congr 1
    exact zm5 ho f g _ (by omega) (by omega) (by omega)
theorem zto {l : List Comp} {i : Int} (h : i < 0) : anc l i = [] := by
 unfold anc ancF; rw [if_pos h]
theorem zk0 {l : List Comp} (ho : qg l l.length = true) {k : Nat} (h : k < l.length) : anc l k = (k : Int) :: anc l l[k].par := by
 have hp := znn ho h
 unfold anc
 rw [show ((k : Int).toNat + 1) = k + 1 by omega]
 conv => lhs; unfold ancF
 rw [if_neg (by omega), zqj h]
 congr 1
 by_cases hn : l[k].par < 0
 ·cases k with
  | zero => conv => rhs; unfold ancF
            rw [if_pos hn]; rfl
  | succ k => conv => lhs; unfold ancF
              conv => rhs; unfold ancF
              rw [if_pos hn, if_pos hn]
 ·exact zm5 ho _ _ _ (by omega) (by omega) (by omega)
theorem zph (l : List Comp) : ∀ (f : Nat) (i : Int), (ancF l f i).length ≤ f
 | 0, _ => by simp [ancF]
 | f + 1, i => by
  unfold ancF
  split
  ·simp
  ·have := zph l f (parOf l i)
   simp; omega
theorem zoo {l : List Comp} (_ : qg l l.length = true) (i : Int) (h : i < l.length) : (anc l i).length ≤ l.length := by
 unfold anc
 by_cases h0 : i < 0
 ·unfold ancF; rw [if_pos h0]; simp
 ·have := zph l (i.toNat + 1) i
  omega
end V
def Spared (B o : Nat) (W W' : World) : Prop := W.heap.size ≤ W'.heap.size /\ ∀ k, k < B -> k ≠ o -> W'.heap[k]? = W.heap[k]?
theorem Spared.cell {B o : Nat} {W W' : World} (h : Spared B o W W') {b : Nat} (hb : b < B) (ho : b ≠ o) (i : Nat) : W'.cell? ⟨b, i, none⟩ = W.cell? ⟨b, i, none⟩ := by
 unfold World.cell?
 rw [h.2 b hb ho]
theorem Spared.frozen {B o : Nat} {W W' : World} (h : Spared B o W W') {b : Nat} (hb : b < B) (ho : b ≠ o) (i : Nat) : W'.frozen? ⟨b, i, none⟩ = W.frozen? ⟨b, i, none⟩ := by
 unfold World.frozen?
 rw [h.2 b hb ho]
def uz (W : World) (B o : Nat) (v : Value) (l : List V.Comp) : Prop :=
 ∃ a cap, v = .slice a l.length cap /\ ∀ j (h : j < l.length), CompWf l[j] /\ ∃ b off, a = some ⟨b, off, none⟩ /\ b < B /\ b ≠ o /\ W.rangeAt b (off + j * 36) (qu l[j])
theorem uz.kept {W W' : World} {B o : Nat} {v : Value} {l : List V.Comp} (h : uz W B o v l) (hs : Spared B o W W') : uz W' B o v l := by
 obtain ⟨a, cap, e, hc⟩ := h
 refine ⟨a, cap, e, fun j hj => ?_⟩
 obtain ⟨hw, b, off, ea, hb, ho, hr⟩ := hc j hj
 exact ⟨hw, b, off, ea, hb, ho, fun i u hu => (hs.cell hb ho _).trans (hr i u hu)⟩
theorem uz.setCell {W : World} {B o : Nat} {v : Value} {l : List V.Comp} {bI : Nat} (h : uz W B o v l) (g0 : B ≤ bI) (u : Value) : uz (W.setCell ⟨bI, 0, none⟩ u) B o v l := by
 refine h.kept ⟨by simp [World.setCell], fun k hk _ => Below.heap_setCell _ _ _ _ (by show k ≠ bI; omega)⟩
def intOfO : Option Value -> Nat
 | some (.int _ n) => (n + 1).toNat
 | _ => 0
open Go.RowKit
namespace V
theorem zn7 {l : List Comp} (ho : qg l l.length = true) : ∀ (n k : Nat), k < n -> k < l.length -> (∀ x ∈ anc l k, 0 ≤ x /\ x ≤ (k : Int)) /\ (anc l k).Nodup /\ ∃ r : Nat, r < l.length /\ ∀ j (hj : j < l.length), (l[j].par = -1 /\ (j : Int) ∈ anc l k) ↔ j = r
 | 0, _, h, _ => absurd h (Nat.not_lt_zero _)
 | n + 1, k, hn, hk => by
  have hp := znn ho hk
  rw [zk0 ho hk]
  by_cases h0 : l[k].par = -1
  ·rw [h0, zto (by omega)]
   refine ⟨by simp, by simp, k, hk, fun j hj => ?_⟩
   constructor
   ·rintro ⟨_, h⟩; rw [List.mem_singleton] at h; omega
   ·rintro rfl; exact ⟨h0, by simp⟩
  ·obtain ⟨m, hm⟩ := Int.eq_ofNat_of_zero_le (show 0 ≤ l[k].par by omega)
   have ih := zn7 ho n m (by omega) (by omega)
   rw [hm]
   obtain ⟨i1, i2, r, hr, i3⟩ := ih
   refine ⟨fun x hx => ?_, List.nodup_cons.2 ⟨fun h => ?_, i2⟩, r, hr, fun j hj => ?_⟩
   ·rcases List.mem_cons.1 hx with rfl | hx
    ·omega
    ·have := i1 x hx; omega
   ·have := i1 _ h; omega
   ·rw [← i3 j hj, List.mem_cons]
    constructor
    ·rintro ⟨h1, h2 | h2⟩
     ·obtain rfl : j = k := by omega
      exact absurd h1 h0
     ·exact ⟨h1, h2⟩
    ·rintro ⟨h1, h2⟩
     exact ⟨h1, .inr h2⟩
def ug (l : List Comp) (hs : List Hit) (c : Int) : List Hit := hs.filter fun h => decide (c ∈ anc l h.comp)
theorem zie {xs : List Note} {l : List Comp} : ∀ {k : Nat}, ∀ h ∈ jh xs l k, 0 ≤ h.comp /\ h.comp < k /\ h.comp < l.length
 | 0, h, hh => by simp [jh] at hh
 | k + 1, h, hh => by
  rw [jh, List.mem_append] at hh
  rcases hh with hh | hh
  ·have := zie h hh; omega
  ·split at hh
   ·rename_i c hc
    have hk := (List.getElem?_eq_some_iff.1 hc).1
    unfold zae at hh
    obtain ⟨id, _, rfl⟩ := List.mem_map.1 hh
    unfold hitN
    simp only
    omega
   ·simp at hh
def yo (l : List Comp) (hs : List Hit) : Nat -> Nat
 | 0 => 0
 | i + 1 => yo l hs i + match l[i]? with | some c => if c.par = -1 then (ug l hs i).length else 0 | none => 0
theorem zfn {l : List Comp} {hs : List Hit} {i : Nat} (h : i < l.length) : yo l hs (i + 1) = yo l hs i + if l[i].par = -1 then (ug l hs i).length else 0 := by
 rw [yo, List.getElem?_eq_getElem h]
theorem zt4 (l : List Comp) : ∀ i, yo l [] i = 0
 | 0 => rfl
 | i + 1 => by
  rw [yo, zt4 l i]
  split
  ·split <;> rfl
  ·rfl
theorem zq3 {l : List Comp} {h : Hit} {hs : List Hit} {r : Nat} (hr : ∀ j (hj : j < l.length), (l[j].par = -1 /\ (j : Int) ∈ anc l h.comp) ↔ j = r) : ∀ i, i ≤ l.length -> yo l (h :: hs) i = yo l hs i + if r < i then 1 else 0
 | 0, _ => by simp [yo]
 | i + 1, hi => by
  rw [zfn (by omega), zfn (by omega), zq3 hr i (by omega)]
  have hj := hr i (by omega)
  by_cases hp : l[i].par = -1
  ·rw [if_pos hp, if_pos hp]
   unfold ug
   rw [List.filter_cons]
   by_cases hm : (i : Int) ∈ anc l h.comp
   ·have e := hj.1 ⟨hp, hm⟩
    subst e
    rw [if_neg (show ¬ i < i by omega), if_pos (show i < i + 1 by omega), if_pos (decide_eq_true hm), List.length_cons]
    omega
   ·rw [if_neg (show ¬ decide ((i : Int) ∈ anc l h.comp) = true by simpa using hm)]
    have e : ¬ i = r := fun e => hm (hj.2 e).2
    by_cases q : r < i
    ·rw [if_pos q, if_pos (by omega)]; omega
    ·rw [if_neg q, if_neg (by omega)]; omega
  ·rw [if_neg hp, if_neg hp]
   have e : ¬ i = r := fun e => hp (hj.2 e).1
   by_cases q : r < i
   ·rw [if_pos q, if_pos (show r < i + 1 by omega)]
   ·rw [if_neg q, if_neg (show ¬ r < i + 1 by omega)]
theorem zt8 {l : List Comp} (ho : qg l l.length = true) : ∀ {hs : List Hit}, (∀ h ∈ hs, 0 ≤ h.comp /\ h.comp < l.length) -> yo l hs l.length = hs.length
 | [], _ => zt4 l _
 | h :: hs, hc => by
  have hh := hc h (by simp)
  obtain ⟨k, hk⟩ := Int.eq_ofNat_of_zero_le hh.1
  obtain ⟨r, hr, hx⟩ := (zn7 ho (k + 1) k (by omega) (by omega)).2.2
  rw [zq3 (r := r) (by rw [hk]; exact hx) _ (zwi _), zt8 ho (fun h hm => hc h (List.mem_cons_of_mem _ hm)), if_pos hr]
  rfl
theorem zqc {l : List Comp} (ho : qg l l.length = true) {hs : List Hit} (hc : ∀ h ∈ hs, 0 ≤ h.comp /\ h.comp < l.length) {c : Int} : ∀ h ∈ ug l hs c, 0 ≤ c /\ c ≤ h.comp := by
 intro h hh
 unfold ug at hh
 rw [List.mem_filter, decide_eq_true_eq] at hh
 have h1 := hc h hh.1
 obtain ⟨k, hk⟩ := Int.eq_ofNat_of_zero_le h1.1
 have h2 := hh.2
 rw [hk] at h2 ⊢
 exact (zn7 ho (k + 1) k (by omega) (by omega)).1 c h2
theorem zv8 {l m : List Note} (h : ∀ x, x ∈ l ↔ x ∈ m) : sevN l = sevN m := by
 have one : ∀ {l m : List Note}, (∀ x, x ∈ l -> x ∈ m) -> sevN l ≤ sevN m := by
  intro l m h
  have key : ∀ (l : List Note) (s : Int), s ≤ sevN m -> (∀ x, x ∈ l -> x ∈ m) -> l.foldl (fun s x => max s x.adv.sev) s ≤ sevN m := by
   intro l
   induction l with
   | nil => intro s hs _; exact hs
   | cons y l ih =>
    intro s hs hm
    rw [List.foldl_cons]
    refine ih _ ?_ fun x hx => hm x (List.mem_cons_of_mem _ hx)
    have := (zjm m 0).2 y (hm y (by simp))
    unfold sevN at *
    omega
  exact key l 0 (zjm m 0).1 h
 have := one (fun x => (h x).1)
 have := one (fun x => (h x).2)
 omega
theorem zst {l m : List Note} (h : ∀ x, x ∈ l ↔ x ∈ m) : zdn l = zdn m := by
 refine zgr zd3 (zcs zd3 List.Pairwise.nil) (zcs zd3 List.Pairwise.nil) fun d => ?_
 unfold zdn
 rw [zco, zco]
 simp only [List.mem_map, h]
theorem xv {xs : List Note} {c : Comp} {id : Bs} : id ∈ km xs c ↔ ∃ x ∈ xs, x.adv.id = id /\ cov x c = true := by
 unfold km
 rw [zq9]
 constructor
 ·rintro ⟨x, hx, h1⟩
  rw [List.mem_filter] at hx
  exact ⟨x, hx.1, h1, hx.2⟩
 ·rintro ⟨x, hx, h1, h2⟩
  exact ⟨x, List.mem_filter.2 ⟨hx, h2⟩, h1⟩
theorem zte {xs ys : List Note} (i : Int) (c : Comp) (h : ∀ x, cov x c = true -> (x ∈ xs ↔ x ∈ ys)) : zae xs i c = zae ys i c := by
 unfold zae
 have e : km xs c = km ys c := by
  refine zgr za1 (zbe _) (zbe _) fun id => ?_
  rw [xv, xv]
  constructor
  ·rintro ⟨x, hx, h1, h2⟩; exact ⟨x, (h x h2).1 hx, h1, h2⟩
  ·rintro ⟨x, hx, h1, h2⟩; exact ⟨x, (h x h2).2 hx, h1, h2⟩
 rw [e]
 refine List.map_congr_left fun id _ => ?_
 have hm : ∀ x, x ∈ selN xs c id ↔ x ∈ selN ys c id := fun x => by
  unfold selN
  rw [List.mem_filter, List.mem_filter, Bool.and_eq_true]
  constructor
  ·rintro ⟨h1, h2, h3⟩; exact ⟨(h x h3).1 h1, h2, h3⟩
  ·rintro ⟨h1, h2, h3⟩; exact ⟨(h x h3).2 h1, h2, h3⟩
 unfold hitN
 rw [zv8 hm, zst hm]
theorem zhu {xs ys : List Note} {l : List Comp} (h : ∀ c ∈ l, ∀ x, cov x c = true -> (x ∈ xs ↔ x ∈ ys)) : ∀ k, jh xs l k = jh ys l k
 | 0 => rfl
 | k + 1 => by
  rw [jh, jh, zhu h k]
  congr 1
  split
  ·rename_i c hc
   exact zte _ _ (h c (List.mem_of_getElem? hc))
  ·rfl
end V
open Go.RowKit Go.Maps
open Go.WideMaps (keyOf_string_mk)
structure Sd where
 a : Option Addr
 n : Nat
 c : Nat
def Sd.v (s : Sd) : Value := .slice s.a s.n s.c
def hE (p : V.Hit × Sd) : List Value := [.int .i64 p.1.comp, .string ⟨p.1.id.toArray⟩, .int .i64 p.1.sev, p.2.v]
theorem uo (p : V.Hit × Sd) : (hE p).length = 4 := rfl
theorem z0r {P : Prop} (h : P := by
 simp only [List.mem_cons, List.not_mem_nil, or_false] at hu
 rcases hu with rfl | rfl | rfl | rfl <;> rfl) : P := h
theorem zje (p : V.Hit × Sd) : ∀ u ∈ hE p, u.oneCell' = true := fun u hu => by
 unfold hE at hu
 exact z0r
theorem zjw : jp 63 4 56 := by
 have h : (match Tryz.prog.info? 63 with | some i => i.size == 4 && (i.bytes == 56 && (match i.zero with | some z => z.cells.size == 4 | none => false)) | none => false) = true := by kernel_rfl
 unfold jp
 cases hq : Tryz.prog.info? 63 with
 | none => rw [hq] at h; cases h
 | some i =>
  exact zwv
structure HRow (N : Nat) (w : World) (v : Value) (us : List (V.Hit × Sd)) : Prop where
 row : GRow 63 4 hE w N v us
 each : ∀ p ∈ us, Digs w p.2.v p.1.docs
theorem HRow.nil (N : Nat) (w : World) : HRow N w (.slice none 0 0) [] := ⟨GRow.nil _ _, fun p h => by simp at h⟩
theorem HRow.below {N : Nat} {w w' : World} {v : Value} {us : List (V.Hit × Sd)} (h : HRow N w v us) (hb : Below w.heap.size w w') : HRow N w' v us :=
 ⟨h.row.below hb, fun p hp => (h.each p hp).below hb⟩
theorem HRow.weaken {N M : Nat} {w : World} {v : Value} {us : List (V.Hit × Sd)} (h : HRow N w v us) (hM : M ≤ N) : HRow M w v us := ⟨World.ownsRow.mono h.row hM, h.each⟩
theorem Digs.apart {w w' : World} {v : Value} {l : List (List Int)} (h : Digs w v l) {row : Option Nat} (hg : w.grownBy w' row) (g0 : ∀ b, v.ownBlock = some b -> row ≠ some b) : Digs w' v l := by
 obtain ⟨a, cap, rfl, hc⟩ := h
 refine ⟨a, cap, rfl, fun j hj => ?_⟩
 obtain ⟨hd, b, off, ea, ⟨cs, fr, hb⟩, hr⟩ := hc j hj
 have hlt := (Array.getElem?_eq_some_iff.1 hb).1
 have hbk := hg.block b hlt (fun e => g0 b (by rw [ea]; rfl) e.symm)
 exact ⟨hd, b, off, ea, ⟨cs, fr, hbk.trans hb⟩, fun i u hu => by rw [World.cell?_of_block (a := ⟨b, off + j * 32 + i, none⟩) hbk]; exact hr i u hu⟩
theorem GRow.cap9 {α : Type} {enc : α -> List Value} {k : Nat} {T : TypeId} {w : World} {N : Nat} {a : Option Addr} {n c : Nat} {l : List α} (h : GRow T k enc w N (.slice a n c) l) : n ≤ c := by
 rcases h.2 with ⟨e, _⟩ | ⟨g, cap, cur, e, _, _, h1, _⟩
 ·cases e; exact zwi _
 ·obtain ⟨_, e2, e3⟩ := Value.slice.inj e
  rw [e2, e3]; exact h1
def zd8 (v : Value) : Option (DataW Value × List MemPlace) := some (.held v, [])
theorem zcr : Keyed Tryz.prog 9 := string_keyed Tryz.underlying9
def zg3 : Value := .agg #[.int .i64 0, .string ⟨#[]⟩, .int .i64 0, .slice none 0 0]
def zeb (ys : List V.Note) (i : Int) (c : V.Comp) (id : V.Bs) (u : Sd) : Value := if id ∈ V.km ys c then .agg #[.int .i64 i, .string ⟨id.toArray⟩, .int .i64 (V.sevN (V.selN ys c id)), u.v] else zg3
structure FInv (N M : Nat) (i : Int) (c : V.Comp) (ys : List V.Note) (U : V.Bs -> Sd) (D : DataW Value) (W : World) : Prop where
 map : W.ownsMap Tryz.prog 9 zd8 M ys.length D
 key : ∀ id : V.Bs, Maps.has D (.string id) = decide (id ∈ V.km ys c)
 val : ∀ id : V.Bs, D.atKey (.string id) (.held zg3) = .held (zeb ys i c id (U id))
 row : ∀ id, GRow 26 32 dE W N (U id).v ((V.selN ys c id).map (·.doc))
 none : ∀ id, id ∉ V.km ys c -> U id = ⟨Option.none, 0, 0⟩
 apart : ∀ a b, a ≠ b -> ∀ g, (U a).v.ownBlock = some g -> (U b).v.ownBlock ≠ some g
 low : M < N
theorem jz {α : Type} {enc : α -> List Value} {k : Nat} {T : TypeId} {w w' : World} {N : Nat} {v : Value} {l : List α} (h : GRow T k enc w N v l) {row : Option Nat} (hg : w.grownBy w' row) (g0 : ∀ b, v.ownBlock = some b -> row ≠ some b) : GRow T k enc w' N v l := by
 refine World.ownsRow.kept h hg ?_
 cases hv : v.ownBlock with
 | none => exact .inl rfl
 | some b => exact .inr (fun e => g0 b hv e.symm)
theorem yp {α : Type} {enc : α -> List Value} {k : Nat} {T : TypeId} {w : World} {N : Nat} {v : Value} {l : List α} (h : GRow T k enc w N v l) {b : Nat} (hb : v.ownBlock = some b) : ∃ cs, w.heap[b]? = some (.cells cs T (0, 0)) := by
 rcases h.2 with ⟨rfl, _⟩ | ⟨g, cap, cur, rfl, _, hg, _⟩
 ·cases hb
 ·cases hb; exact ⟨cur, hg⟩
namespace FInv
variable {N M : Nat} {i : Int} {c : V.Comp} {ys : List V.Note} {U : V.Bs -> Sd} {D : DataW Value} {W W' : World}
theorem other (h : FInv N M i c ys U D W) {row : Option Nat} (hg : W.grownBy W' row) (hr : ∀ b, row = some b -> ∃ cs t fr, W.heap[b]? = some (.cells cs t fr) /\ t ≠ 26) : FInv N M i c ys U D W' :=
 ⟨h.map.kept hg (fun e => by
   obtain ⟨cs, t, fr, hb, _⟩ := hr M e.symm
   obtain ⟨es, clock, hm, _⟩ := h.map
   rw [hm] at hb; cases hb), h.key, h.val, fun id => jz (h.row id) hg (fun b hb e => by
   obtain ⟨cs, t, fr, hb1, ht⟩ := hr b e
   obtain ⟨cs', hb2⟩ := yp (h.row id) hb
   rw [hb2] at hb1
   cases hb1
   exact ht rfl), h.none, h.apart, h.low⟩
theorem call (h : FInv N M i c ys U D W) (hb : Below W.heap.size W W') : FInv N M i c ys U D W' := h.other (row := .none) (zn hb _) (fun b e => by cases e)
theorem skip (h : FInv N M i c ys U D W) (x : V.Note) (hx : V.cov x c = false) : FInv N M i c (ys ++ [x]) U D W := by
 have hs : ∀ id, V.selN (ys ++ [x]) c id = V.selN ys c id := fun id => by
  unfold V.selN
  rw [List.filter_append]
  simp [hx]
 have hf : V.km (ys ++ [x]) c = V.km ys c := by
  unfold V.km
  rw [List.filter_append]
  simp [hx]
 refine ⟨h.map.mono (by simp), fun id => by rw [hf]; exact h.key id, fun id => ?_, fun id => by rw [hs]; exact h.row id, fun id => by rw [hf]; exact h.none id, h.apart, h.low⟩
 rw [h.val id]
 unfold zeb
 rw [hf, hs]
theorem look (h : FInv N M i c ys U D W) (id : V.Bs) (hl : id.length ≤ maxLen) : ∃ (k0 : Int) (s0 : V.Bs), (Instr.lookup 106 (.map (some M)) (.string ⟨id.toArray⟩) false).run Tryz.prog W = .ok (.agg #[.int .i64 k0, .string ⟨s0.toArray⟩, .int .i64 (V.sevN (V.selN ys c id)), (U id).v]) W := by
 obtain ⟨v, ps, g0, hv⟩ := h.map.lookup zcr Tryz.underlying106 (Tryz.zeroValue63 W) (zd := .held zg3) (zp := []) rfl (key := .string ⟨id.toArray⟩) (kl := .string id) (keyOf_string_mk Tryz.underlying9 (by simpa [ByteArray.size] using hl))
 rw [h.val id] at hv
 unfold zd8 at hv
 simp only [Option.some.injEq, Prod.mk.injEq, DataW.held.injEq] at hv
 rw [g0, hv.1]
 unfold zeb
 by_cases hm : id ∈ V.km ys c
 ·exact ⟨i, id, by rw [if_pos hm]⟩
 ·refine ⟨0, [], ?_⟩
  have hs : V.selN ys c id = [] := by
   unfold V.selN
   rw [List.filter_eq_nil_iff]
   intro x hx hc
   rw [Bool.and_eq_true, decide_eq_true_eq] at hc
   exact hm (V.xv.2 ⟨x, hx, hc.1, hc.2⟩)
  rw [if_neg hm, hs, h.none id hm]
  rfl
structure Grown (N M : Nat) (i : Int) (c : V.Comp) (ys : List V.Note) (U : V.Bs -> Sd) (D : DataW Value) (id : V.Bs) (u : Sd) (d : List Int) (W : World) : Prop where
 map : W.ownsMap Tryz.prog 9 zd8 M ys.length D
 key : ∀ id : V.Bs, Maps.has D (.string id) = decide (id ∈ V.km ys c)
 val : ∀ id : V.Bs, D.atKey (.string id) (.held zg3) = .held (zeb ys i c id (U id))
 row : ∀ a, a ≠ id -> GRow 26 32 dE W N (U a).v ((V.selN ys c a).map (·.doc))
 new : GRow 26 32 dE W N u.v ((V.selN ys c id).map (·.doc) ++ [d])
 none : ∀ id, id ∉ V.km ys c -> U id = ⟨Option.none, 0, 0⟩
 apart : ∀ a b, a ≠ b -> ∀ g, (U a).v.ownBlock = some g -> (U b).v.ownBlock ≠ some g
 napart : ∀ a, a ≠ id -> ∀ g, u.v.ownBlock = some g -> (U a).v.ownBlock ≠ some g
 low : M < N
theorem grow (h : FInv N M i c ys U D W) {id : V.Bs} {u : Sd} {d : List Int} (hg : W.grownBy W' (U id).v.ownBlock) (hn : GRow 26 32 dE W' N u.v ((V.selN ys c id).map (·.doc) ++ [d])) (ho : u.v.ownBlock = (U id).v.ownBlock ∨ u.v.ownBlock = some W.heap.size) : Grown N M i c ys U D id u d W' := by
 refine ⟨h.map.kept hg (fun e => ?_), h.key, h.val, fun a ha => jz (h.row a) hg (fun b hb e => h.apart a id ha b hb e), hn, h.none, h.apart, fun a ha g hu g0 => ?_, h.low⟩
 ·obtain ⟨cs, hb⟩ := yp (h.row id) e.symm
  obtain ⟨es, clock, hm, _⟩ := h.map
  rw [hm] at hb; cases hb
 ·rcases ho with ho | ho
  ·exact h.apart a id ha g g0 (ho ▸ hu)
  ·rw [hu] at ho
   cases ho
   obtain ⟨cs, hb⟩ := yp (h.row a) g0
   exact absurd (Array.getElem?_eq_some_iff.1 hb).1 (Nat.lt_irrefl _)
theorem Grown.other {id : V.Bs} {u : Sd} {d : List Int} (h : Grown N M i c ys U D id u d W) {row : Option Nat} (hg : W.grownBy W' row) (hr : ∀ b, row = some b -> ∃ cs t fr, W.heap[b]? = some (.cells cs t fr) /\ t ≠ 26) : Grown N M i c ys U D id u d W' := by
 have g0 : ∀ {v : Value} {l : List (List Int)}, GRow 26 32 dE W N v l -> ∀ b, v.ownBlock = some b -> row ≠ some b := fun h0 b hb e => by
  obtain ⟨cs, t, fr, hb1, ht⟩ := hr b e
  obtain ⟨cs', hb2⟩ := yp h0 hb
  rw [hb2] at hb1
  cases hb1
  exact ht rfl
 refine ⟨h.map.kept hg (fun e => ?_), h.key, h.val, fun a ha => jz (h.row a ha) hg (g0 (h.row a ha)), jz h.new hg (g0 h.new), h.none, h.apart, h.napart, h.low⟩
 obtain ⟨cs, t, fr, hb, _⟩ := hr M e.symm
 obtain ⟨es, clock, hm, _⟩ := h.map
 rw [hm] at hb; cases hb
theorem Grown.put {id : V.Bs} {u : Sd} {x : V.Note} (h : Grown N M i c ys U D id u x.doc W) (g0 : x.adv.id = id) (hx : V.cov x c = true) (hl : id.length ≤ maxLen) (hn : ys.length < maxLen)
  (hm : W'.ownsMap Tryz.prog 9 zd8 M (ys.length + 1) (D.put (.string id) (.held (.agg #[.int .i64 i, .string ⟨id.toArray⟩, .int .i64 (max (V.sevN (V.selN ys c id)) x.adv.sev), u.v])))) (hg : W.grownBy W' (some M)) : ∃ U' D', FInv N M i c (ys ++ [x]) U' D' W' := by
 have hs : ∀ a, V.selN (ys ++ [x]) c a = if a = id then V.selN ys c a ++ [x] else V.selN ys c a := fun a => by
  unfold V.selN
  rw [List.filter_append]
  by_cases e : a = id
  ·rw [if_pos e, e]; simp [hx, g0]
  ·rw [if_neg e]
   have : ¬ x.adv.id = a := fun q => e (by rw [← q, g0])
   simp [this]
 have hf : ∀ a, a ∈ V.km (ys ++ [x]) c ↔ a ∈ V.km ys c ∨ a = id := fun a => by
  rw [V.xv, V.xv]
  constructor
  ·rintro ⟨y, hy, h1, h2⟩
   rcases List.mem_append.1 hy with hy | hy
   ·exact .inl ⟨y, hy, h1, h2⟩
   ·rw [List.mem_singleton] at hy; subst hy; exact .inr (by rw [← h1, g0])
  ·rintro (⟨y, hy, h1, h2⟩ | rfl)
   ·exact ⟨y, List.mem_append_left _ hy, h1, h2⟩
   ·exact ⟨x, by simp, g0, hx⟩
 have hk : WideAt.IsKeyLit (.string id) := zcr.key (keyOf_string_mk (s := ⟨id.toArray⟩) Tryz.underlying9 (by simpa [ByteArray.size] using hl))
 have hD : IsMap D := h.map.isMap
 have g1 : ∀ {v : Value} {l : List (List Int)}, GRow 26 32 dE W N v l -> ∀ b, v.ownBlock = some b -> (some M : Option Nat) ≠ some b := fun h0 b hb e => by
  have := h0.block b hb
  have := h.low
  cases e
  omega
 refine ⟨fun a => if a = id then u else U a, _, by rw [List.length_append]; exact hm, fun a => ?_, fun a => ?_, fun a => ?_, fun a ha => ?_, fun a b g2 g ha hb => ?_, h.low⟩
 ·by_cases e : a = id
  ·subst e
   rw [has_put_same hD hk, decide_eq_true ((hf _).2 (.inr rfl))]
  ·rw [has_put_other (by simpa using e), h.key a]
   congr 1
   rw [hf a]
   exact propext ⟨.inl, fun q => q.resolve_right e⟩
 ·by_cases e : a = id
  ·subst e
   rw [atKey_put_same hD hk, if_pos rfl]
   unfold zeb
   rw [if_pos ((hf _).2 (.inr rfl)), hs, if_pos rfl]
   unfold V.sevN
   rw [List.foldl_append]
   rfl
  ·rw [atKey_put_other (by simpa using e), h.val a, if_neg e]
   unfold zeb
   rw [hs, if_neg e]
   by_cases q : a ∈ V.km ys c
   ·rw [if_pos q, if_pos ((hf a).2 (.inl q))]
   ·rw [if_neg q, if_neg (fun r => ((hf a).1 r).elim q e)]
 ·rw [hs]
  by_cases e : a = id
  ·subst e
   rw [if_pos rfl, if_pos rfl, List.map_append]
   exact jz h.new hg (g1 h.new)
  ·rw [if_neg e, if_neg e]
   exact jz (h.row a e) hg (g1 (h.row a e))
 ·have q : ¬ a ∈ V.km ys c /\ ¬ a = id := ⟨fun r => ha ((hf a).2 (.inl r)), fun r => ha ((hf a).2 (.inr r))⟩
  rw [if_neg q.2]
  exact h.none a q.1
 ·by_cases ea : a = id
  ·rw [if_pos ea] at ha
   by_cases eb : b = id
   ·exact g2 (ea.trans eb.symm)
   ·rw [if_neg eb] at hb
    exact h.napart b eb g ha hb
  ·rw [if_neg ea] at ha
   by_cases eb : b = id
   ·rw [if_pos eb] at hb
    exact h.napart a ea g hb ha
   ·rw [if_neg eb] at hb
    exact h.apart a b g2 g ha hb
theorem zl8 : ∀ a b : List UInt8, Lib.compareBytes a b < 0 -> a < b
 | [], [], h => by simp [Lib.compareBytes] at h
 | [], _ :: _, _ => List.nil_lt_cons _ _
 | _ :: _, [], h => by simp [Lib.compareBytes] at h
 | x :: a, y :: b, h => by
  unfold Lib.compareBytes at h
  rw [List.cons_lt_cons_iff]
  by_cases h1 : x < y
  ·exact .inl h1
  ·rw [if_neg h1] at h
   by_cases h2 : y < x
   ·rw [if_pos h2] at h; exact absurd h (by decide)
   ·rw [if_neg h2] at h
    refine .inr ⟨?_, zl8 a b h⟩
    exact z0k
theorem keys (h : FInv N M i c ys U D W) {ss : List (List UInt8)} (hp : ss.Perm (strKeys D)) : ss.mergeSort (fun x y => decide (x ≤ y)) = V.km ys c := by
 obtain ⟨es, rfl, ht⟩ := h.map.tidy zcr
 obtain ⟨es', e, hk⟩ := h.map.keysOf
 cases e
 have g1 : V.AscC Lib.compareBytes (V.km ys c) := V.zbe _
 have g2 : (V.km ys c).Nodup := List.Pairwise.imp (S := fun a b => a ≠ b) (fun {a b} g0 e => V.za1.irr b (by rw [e] at g0; exact g0)) g1
 have hp2 := perm_strKeys (ss := V.km ys c) ht (fun p hp => by
   obtain ⟨v, hv⟩ := hk p hp
   obtain ⟨x, _, hx, _⟩ := Maps.keyOf_str Tryz.underlying9 hv
   exact ⟨x, hx⟩) g2 (fun x => by rw [h.key x, decide_eq_true_eq])
 have e1 := mergeSort_of_perm (hp.trans hp2.symm)
 show ss.mergeSort leB = _
 rw [e1]
 refine List.mergeSort_of_pairwise (g1.imp fun {a b} g0 => ?_)
 simp only [leB, decide_eq_true_eq]
 exact List.le_of_lt (zl8 a b g0)
end FInv
end Go.Proofs.YtbikeahmldobkaaGreatDoor
