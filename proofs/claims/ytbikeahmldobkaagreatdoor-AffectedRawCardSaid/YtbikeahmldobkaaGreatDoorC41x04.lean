/-
  Lemmas for the law.
-/
import Derived.Lib.Builder
import Derived.Test.YtbikeahmldobkaaGreatDoorRows
import Derived.Test.YtbikeahmldobkaaGreatDoorC41x01
import Derived.Test.YtbikeahmldobkaaGreatDoorC41x02
import Derived.Test.YtbikeahmldobkaaGreatDoorC41x03
import Derived.WalkKit
import Derived.WalkSpells
import Derived.WalkLawsBesides
import Derived.Deep.QuietTactic
import Derived.BigQuiet
import Derived.Lib.Hide
import Derived.OwnWalk
import Derived.BigRegion
import Derived.Maps.AppendAt
import Derived.Maps.RangeWalk
import Derived.Laws.Rows
set_option linter.all false
set_option maxRecDepth 100000
set_option maxHeartbeats 1600000
namespace Go.Proofs.YtbikeahmldobkaaGreatDoor
open Go.RowKit
theorem zpa {p : Prop} (h : p) : Hid p := h
theorem zpb {w w1 w2 : World} (h : Hid (Below w.heap.size w w1)) (g : Below w1.heap.size w1 w2) : Hid (Below w.heap.size w w2) := h.out.trans (g.mono h.out.size)
theorem zo9 {w : World} {b : Nat} {cs : Array Value} {T : TypeId} {fr : Nat × Nat} (hb : w.heap[b]? = some (.cells cs T fr)) (j : Nat) : w.cell? ⟨b, j, none⟩ = cs[j]? := Lib.cell_of_heap hb j
theorem zpc (n : Nat) : n ≤ n := Nat.le_refl n
theorem zpe {α : Type _} [BEq α] [LawfulBEq α] {a b : α} : (a == b) = false ↔ a ≠ b := beq_eq_false_iff_ne
theorem zo5 {α : Type _} {xs : List α} {i : Nat} (h : i < xs.toArray.size) : xs.toArray[i] = xs[i]'(by simpa using h) := List.getElem_toArray h
theorem zo6 {α : Type _} (a : α) (l : List α) (i : Nat) (h : i + 1 < (a :: l).length) : (a :: l)[i + 1] = l[i]'(Nat.lt_of_succ_lt_succ h) := List.getElem_cons_succ a l i h
theorem zo7 {α : Type _} (a : α) (l : List α) (h : 0 < (a :: l).length) : (a :: l)[0] = a := List.getElem_cons_zero a l h
theorem zo8 {α : Type _} (l : List α) (i : Nat) (a : α) : l.toArray.setIfInBounds i a = (l.set i a).toArray := List.setIfInBounds_toArray l i a
theorem zpd (B : Nat) (w : World) : Below B w w := Below.refl B w
theorem zf {a b : Bool} (h : a = b) : Ending.returned (.bool a) = .returned (.bool b) := by rw [h]
theorem zn {k : IntKind} {a b : Int} (h : a = b) : Ending.returned (.int k a) = .returned (.int k b) := by rw [h]
theorem heap_alloc (w : World) (o : Obj) (k : Nat) : (w.alloc o).heap[k]? = if k = w.heap.size then some o else w.heap[k]? := by
 show (w.heap.push o)[k]? = _
 rw [Array.getElem?_push]
theorem zj (w : World) (c : Array Value) (t : TypeId) (b i : Nat) : (w.alloc (.cells c t)).cell? ⟨b, i, none⟩ = if b = w.heap.size then c[i]? else w.cell? ⟨b, i, none⟩ := by
 unfold World.cell?
 rw [heap_alloc]
 by_cases h : b = w.heap.size <;> simp [h]
theorem qj (w : World) (c : Array Value) (t : TypeId) (b i : Nat) : (w.alloc (.cells c t)).frozen? ⟨b, i, none⟩ = if b = w.heap.size then false else w.frozen? ⟨b, i, none⟩ := by
 unfold World.frozen?
 rw [heap_alloc]
 by_cases h : b = w.heap.size <;> simp [h]
theorem zhx (w : World) (c d : Array Value) (t u : TypeId) :
  Below w.heap.size w ((w.alloc (.cells c t)).alloc (.cells d u)) /\ (∀ i, ((w.alloc (.cells c t)).alloc (.cells d u)).cell? ⟨w.heap.size + 1, i, none⟩ = d[i]?) /\
  (∀ i, ((w.alloc (.cells c t)).alloc (.cells d u)).frozen? ⟨w.heap.size + 1, i, none⟩ = false) /\ ((w.alloc (.cells c t)).alloc (.cells d u)).heap.size = w.heap.size + 2 := by
 refine ⟨((zpd _ _).alloc (zpc _) _).alloc (by simp) _, fun i => ?_, fun i => ?_, by simp⟩
 ·rw [zj, if_pos (by simp)]
 ·rw [qj, if_pos (by simp)]
theorem ki {a b : ByteArray} (h : a.data.toList = b.data.toList) : a = b := by
 cases a; cases b
 simp at h
 rw [h]
theorem ja (l : List UInt8) : (ByteArray.mk l.toArray).data.toList = l := by simp
theorem zg4 (a : ByteArray) : (⟨a.data.toList.toArray⟩ : ByteArray) = a := ki (by simp)
theorem zi (a : ByteArray) : a.data.toList.length = a.size := by rw [Array.length_toList]; rfl
theorem xp (n : Int) (w : World) :
  Calls Tryz.prog 236 #[.int .u8 n] w fun e w' => e = .returned (.bool (V.digB n)) /\ w = w' := by
 go_enter Tryz.func236, Tryz.ntmps236
 go_wp2
 all_goals go_ret
 all_goals exact ⟨zf (by unfold V.digB; simp_all; try omega), rfl⟩
theorem we (n : Int) (w : World) :
  Calls Tryz.prog 239 #[.int .u8 n] w fun e w' => e = .returned (.bool (V.letB n)) /\ w = w' := by
 go_enter Tryz.func239, Tryz.ntmps239
 go_wp2
 all_goals go_ret
 all_goals exact ⟨zf (by unfold V.letB; simp_all; try omega), rfl⟩
theorem zr3 {P : Prop} (h : P := by
 clear ht
 go_wp2
 go_ret
 exact ⟨zf (by rw [HQ.out, Lib.toList_data]), rfl⟩) : P := h
theorem zsn {P : Prop} (h : P := by
 go_ret
 exact ⟨zf (V.zjo (k := k) (by rw [zi]; exact hlt) (by rw [HE.out]; exact HPC.out)).symm, rfl⟩) : P := h
theorem zcs (s : ByteArray) (K : Nat) (cap : Array Value) (p : UInt8 -> Bool) (w : World) (hs : s.size ≤ maxLen)
  (eg : ∀ args w, (callFunc K args).run Tryz.prog w = .ok (.enter K args) w)
  (hK : ∀ (c : UInt8), Calls Tryz.prog K (#[.int .u8 c.toNat] ++ cap) w fun e w' => e = .returned (.bool (p c)) /\ w = w') :
  Calls Tryz.prog 235 #[.string s, .func (.func K) #[] cap] w fun e w' => e = .returned (.bool (V.only p s.data.toList)) /\ w = w' := by
 unfold maxLen at hs
 have HK := zpa hK
 clear hK
 go_enter Tryz.func235, Tryz.ntmps235
 go_wp2
 go_loop [5] (fun i => ∃ k : Nat, k ≤ s.size /\ i = .int .i64 k /\ (s.data.toList.take k).all p = true) (fun i => s.size - (intOf i).toNat)
 case atStart => exact ⟨0, Nat.zero_le _, rfl, rfl⟩
 case round =>
  obtain ⟨k, hk, rfl, hp⟩ := hrel
  have HP := zpa hp
  clear hp
  by_cases hlt : k < s.size
  ·have hl : k < s.data.toList.length := by rw [zi]; exact hlt
   have HT := zpa (V.vb (p := p) hl)
   have he : s.data.toList[k] = s[k] := by simp; rfl
   have HE := zpa he
   clear he
   rcases hpc : p s[k] with _ | _
   all_goals
    have HPC := zpa hpc
    clear hpc
    go_wp2_with fail
    refine (HK.out _).mono ?_
    rintro e w' ⟨rfl, rfl⟩
    simp only [HPC.out]
    go_wp2
   ·exact zsn
   ·go_round
    case rel => exact ⟨k + 1, by omega, by go_num, by rw [HT.out, HP.out, HE.out, HPC.out]; rfl⟩
    case measure => simp [intOf]; omega
  ·have ht : (s.data.toList.take k) = s.data.toList := List.take_of_length_le (by rw [zi]; omega)
   rw [ht] at HP
   have HQ : Hid (V.only p s.data.toList = !s.data.toList.isEmpty) := by unfold V.only; rw [HP.out]; rfl
   exact zr3
open Go.RowKit
theorem ke (s : ByteArray) (w : World) (hs : s.size ≤ maxLen) :
  Calls Tryz.prog 235 #[.string s, .func (.func 236) #[] #[]] w fun e w' => e = .returned (.bool (V.digits s.data.toList)) /\ w = w' :=
 zcs s _ #[] V.dig w hs (enters_of Tryz.func236 (by kernel_rfl) rfl) (fun c => xp c.toNat w)
theorem at0 {s : ByteArray} (h : 0 < s.size) : s.data.toList.getD 0 0 = s[0] := by
 have : 0 < s.data.toList.length := by rw [zi]; exact h
 simp [List.getD, List.getElem?_eq_getElem this]; rfl
theorem zbz {l : V.Bs} (h : V.digits l = true) : 0 < l.length := by
 unfold V.digits V.only at h
 cases l with
 | nil => simp at h
 | cons => simp
theorem zpu {P : Prop} (h : P := by
 go_enter Tryz.func233, Tryz.ntmps233
 go_wp2_with fail
 refine (ke s _ hs').mono ?_
 rintro e w' ⟨rfl, rfl⟩
 simp only [HD.out]
 go_wp2
 go_ret
 exact ⟨zf HN.out.symm, rfl⟩) : P := h
theorem ks (s : ByteArray) (ex : Bool) (w : World) (hs : s.size ≤ maxLen) :
  Calls Tryz.prog 233 #[.string s, .bool ex] w fun e w' => e = .returned (.bool (V.numb s.data.toList ex)) /\ w = w' := by
 have hs' := hs
 unfold maxLen at hs
 by_cases hd : V.digits s.data.toList = true
 ·have HD := zpa hd
  have hp := zbz hd
  rw [zi] at hp
  have h0 := zpa (at0 hp)
  clear hd
  cases ex with
  | false =>
   have HN : Hid (V.numb s.data.toList false = true) := by refine zpa ?_; unfold V.numb; rw [HD.out]; rfl
   exact zpu
  | true =>
   by_cases h1 : 1 < s.size
   ·have HN : Hid (V.numb s.data.toList true = !((s[0].toNat : Int) == 48)) := by
     refine zpa ?_
     unfold V.numb
     have : (s[0] == (48 : UInt8)) = ((s[0].toNat : Int) == 48) := by
      rw [Bool.eq_iff_iff]; simp [← UInt8.toNat_inj]; omega
     rw [HD.out, h0.out, zi, this]; simp [h1]
    exact zpu
   ·have HN : Hid (V.numb s.data.toList true = true) := by refine zpa ?_; unfold V.numb; rw [HD.out, zi]; simp [h1]
    exact zpu
 ·have hd' : V.digits s.data.toList = false := by simpa using hd
  have HD := zpa hd'
  have HN : Hid (V.numb s.data.toList ex = false) := by refine zpa ?_; unfold V.numb; rw [HD.out]; rfl
  clear hd hd'
  exact zpu
def szOf : Value -> Nat
 | .string s => s.size
 | _ => 0
open Go.RowKit
def zm (w : World) : Prop := ∃ m, w.cell? ⟨0, 0, none⟩ = some (.int .i64 m)
theorem zm.below {w w' : World} (h : zm w) (hb : Below w.heap.size w w') : zm w' := by
 obtain ⟨m, hm⟩ := h
 exact ⟨m, (hb.cell (World.block_lt_of_cell? _ _ hm)).trans hm⟩
def Strs (w : World) (v : Value) (l : List V.Bs) : Prop :=
 ∃ a cap, v = .slice a l.length cap /\ ∀ j (h : j < l.length), ∃ b off, a = some ⟨b, off, none⟩ /\ b < w.heap.size /\ w.cell? ⟨b, off + j, none⟩ = some (.string ⟨l[j].toArray⟩)
theorem Strs.nil (w : World) : Strs w (.slice none 0 0) [] := ⟨none, 0, rfl, fun j h => by simp at h⟩
theorem Strs.below {w w' : World} {v : Value} {l : List V.Bs} (h : Strs w v l) (hb : Below w.heap.size w w') : Strs w' v l := by
 obtain ⟨a, cap, e, hc⟩ := h
 refine ⟨a, cap, e, fun j hj => ?_⟩
 obtain ⟨b, off, ea, hlt, hcell⟩ := hc j hj
 exact ⟨b, off, ea, Nat.lt_of_lt_of_le hlt hb.size, (hb.cell (p := ⟨b, off + j, none⟩) hlt).trans hcell⟩
theorem Strs.setCell {w : World} {b o n c : Nat} {l : List V.Bs} (h : Strs w (.slice (some ⟨b, o, none⟩) n c) l) {a : Addr} (ha : a.block ≠ b) (u : Value) : Strs (w.setCell a u) (.slice (some ⟨b, o, none⟩) n c) l := by
 obtain ⟨a', cap, e, hc⟩ := h
 refine ⟨a', cap, e, fun j hj => ?_⟩
 obtain ⟨b', off, ea, hlt, hcell⟩ := hc j hj
 cases e; cases ea
 refine ⟨b, o, rfl, by simpa [World.setCell] using hlt, ?_⟩
 rw [World.cell?_setCell_other _ _ _ _ (by intro e; rw [e] at ha; exact ha rfl)]
 exact hcell
theorem km (c : UInt8) (l : V.Bs) : (V.cut1 c l).1.length ≤ l.length /\ (V.cut1 c l).2.1.length ≤ l.length := by
 unfold V.cut1
 split
 ·exact ⟨(List.takeWhile_sublist _).length_le, by simp⟩
 ·simp
theorem vz (s : ByteArray) (c : UInt8) (w : World) (hm : zm w) (hs : s.size < 4294967281) :
  Calls Tryz.prog 119 #[.string s, .string ⟨#[c]⟩] w fun e w' =>
   e = .returned (.tuple #[.string ⟨(V.cut1 c s.data.toList).1.toArray⟩, .string ⟨(V.cut1 c s.data.toList).2.1.toArray⟩, .bool (V.cut1 c s.data.toList).2.2]) /\ Below w.heap.size w w' := by
 obtain ⟨m, hm⟩ := hm
 refine (Tryz.strings_Cut s ⟨#[c]⟩ m w hs hm).mono ?_
 rintro e w' ⟨rfl, n, rfl⟩
 have h := V.cut_one s.data.toList c
 rw [show (ByteArray.mk #[c]).data.toList = [c] from rfl, h]
 exact ⟨rfl, below_drewN (zpd _ _) n⟩
def xb (l : List V.Bs) : Array Value := (l.map fun x => Value.string ⟨x.toArray⟩).toArray
theorem zal (l : List V.Bs) (j : Nat) (h : j < l.length) : (xb l)[j]? = some (.string ⟨l[j].toArray⟩) := by
 unfold xb
 simp [List.getElem?_eq_getElem h]
theorem jm (s : ByteArray) (c : UInt8) (w : World) (hm : zm w) (hs : s.size < 4294967281) :
  Calls Tryz.prog 91 #[.string s, .string ⟨#[c]⟩] w fun e w' =>
   e = .returned (.slice (some ⟨w.heap.size, 0, none⟩) (V.zo c s.data.toList).length (V.zo c s.data.toList).length) /\ w' = w.alloc (.cells (xb (V.zo c s.data.toList)) 9) := by
 obtain ⟨m, hm⟩ := hm
 have hsp : (Lib.splitB ⟨#[c]⟩ 0 (Lib.countB s ⟨#[c]⟩) s).map (·.data.toList) = V.zo c s.data.toList := by
  rw [Lib.splitB_data, ← V.zg1 c _ _ (zpc _)]; rfl
 have hlen := Lib.splitB_all ⟨#[c]⟩ (zpc 1) 0 _ s rfl
 have hl : (V.zo c s.data.toList).length = Lib.countB s ⟨#[c]⟩ + 1 := by rw [← hsp, List.length_map, hlen]
 have hcs : xb (V.zo c s.data.toList) = ((Lib.splitB ⟨#[c]⟩ 0 (Lib.countB s ⟨#[c]⟩) s).map Value.string).toArray := by
  unfold xb
  rw [← hsp, List.map_map]
  congr 1
 refine (Tryz.strings_Split s ⟨#[c]⟩ m w hs hm (zpc 1)).mono ?_
 rintro e w' ⟨rfl, rfl⟩
 rw [hl, hcs]
 exact ⟨rfl, rfl⟩
theorem Strs.split (w : World) (l : List V.Bs) (t : Nat) : Strs (w.alloc (.cells (xb l) t)) (.slice (some ⟨w.heap.size, 0, none⟩) l.length l.length) l := by
 refine ⟨_, _, rfl, fun j h => ⟨_, _, rfl, by simp, ?_⟩⟩
 rw [World.cell?_alloc_new, Nat.zero_add, zal l j h]
theorem qy (c : UInt8) : ∀ l : V.Bs, (V.zo c l).length ≤ l.length + 1
 | [] => by simp [V.zo]
 | b :: l => by
  have ih := qy c l
  unfold V.zo
  split
  ·simpa using ih
  ·split
   ·simp
   ·rename_i x r h; rw [h] at ih; simp at ih ⊢; omega
theorem ji (c : UInt8) : ∀ (l x : V.Bs), x ∈ V.zo c l -> x.length ≤ l.length
 | [], x, h => by simp [V.zo] at h; simp [h]
 | b :: l, x, h => by
  have ih := ji c l
  unfold V.zo at h
  exact zqd
theorem zl7 (w : World) (row : Option Nat) : w.grownBy w.drew row :=
 have h := (zpd w.heap.size w).drew
 ⟨h.os, h.tape, h.output, h.size, fun k hk _ => h.block k hk⟩
theorem za6 (w : World) (b o : Nat) (u : Value) : w.grownBy (w.setCell ⟨b, o, none⟩ u) (some b) :=
 ⟨rfl, rfl, rfl, by simp [World.setCell], fun k _ hk => Below.heap_setCell _ _ _ _ (fun e => hk (by rw [e]))⟩
theorem jp {w w' : World} (h : Below w.heap.size w w') (row : Option Nat) : w.grownBy w' row := ⟨h.os, h.tape, h.output, h.size, fun k hk _ => h.block k hk⟩
theorem zdj {w w' : World} {b B : Nat} (h : w.grownBy w' (some b)) (hb : B ≤ b) (hB : B ≤ w.heap.size) : Below B w w' :=
 ⟨h.os, h.tape, h.output, h.size, fun k hk => h.block k (by omega) (fun e => by cases e; omega)⟩
open Go.RowKit
theorem zjm (w : World) (g : Nat) (cs : Array Value) : w.grownBy (w.setRow g cs) (some g) :=
 ⟨rfl, rfl, rfl, by simp, fun i _ hi => setRow_other w g i cs (fun e => hi (by rw [e]))⟩
theorem zix {w : World} {g : Nat} {cs : Array Value} {t : TypeId} {fr : Nat × Nat} (o : Nat) (v : Value) (hg : w.heap[g]? = some (.cells cs t fr)) : (w.setCell ⟨g, o, none⟩ v).heap[g]? = some (.cells (cs.setIfInBounds o v) t fr) := by
 have hlt := (Array.getElem?_eq_some_iff.1 hg).1
 have hv := (Array.getElem?_eq_some_iff.1 hg).2
 unfold World.setCell
 rw [Array.getElem?_eq_getElem (by simpa using hlt), Array.getElem_modify]
 simp [hv]
theorem yy {w : World} {g o : Nat} {cs : Array Value} {t : TypeId} (hg : w.heap[g]? = some (.cells cs t (0, 0))) : w.frozen? ⟨g, o, none⟩ = false := by
 simp [World.frozen?, hg]
theorem zb6 (l : V.Bs) (c : UInt8) : (0 ≤ Lib.indexByte l c) ↔ c ∈ l := decide_eq_decide.1 (V.xu l c)
theorem vo {s : V.Bs} (h : s.length < 1 ∨ 200 < s.length) : V.jj s = false := by
 unfold V.jj
 rcases h with h | h
 ·have : decide (1 ≤ s.length) = false := decide_eq_false (by omega)
  rw [this]; rfl
 ·have : decide (s.length ≤ 200) = false := decide_eq_false (by omega)
  rw [this]; simp
theorem zg7 {s : V.Bs} (h : (0 : UInt8) ∈ s) : V.jj s = false := by
 unfold V.jj; simp [h]
theorem zhi {s : V.Bs} (h1 : 1 ≤ s.length) (h2 : s.length ≤ 200) (h3 : (0 : UInt8) ∉ s) : V.jj s = V.xe s := by
 unfold V.jj; simp [h1, h2, h3]
theorem zqs {P : Prop} (h : P := by
 have HE := zpa e
 clear HD e
 go_wp2
 go_ret
 refine ⟨zf ?_, HB1.out⟩
 rw [HP.out, if_pos (by trivial), HC.out, HE.out]
 cases more <;> rfl) : P := h
theorem zrz {P : Prop} (h : P := by
 go_enter Tryz.func101, Tryz.ntmps101
 go_wp2
 go_ret
 exact ⟨zf HR.out.symm, zpd _ _⟩) : P := h
theorem zkp (s : ByteArray) (w : World) (hm : zm w) (hs : s.size ≤ maxLen) :
  Calls Tryz.prog 101 #[.string s] w fun e w' => e = .returned (.bool (V.jj s.data.toList)) /\ Below w.heap.size w w' := by
 have HM := zpa hm
 unfold maxLen at hs
 clear hm
 by_cases h1 : s.size < 1
 ·have HR := zpa (vo (s := s.data.toList) (.inl (by rw [zi]; exact h1)))
  exact zrz
 ·by_cases h2 : 200 < s.size
  ·have HR := zpa (vo (s := s.data.toList) (.inr (by rw [zi]; exact h2)))
   exact zrz
  ·have h1' : 1 ≤ s.size := by omega
   have h2' : s.size ≤ 200 := by omega
   clear h1 h2
   by_cases hz : (0 : UInt8) ∈ s.data.toList
   ·have HR := zpa (zg7 hz)
    have HI : 0 ≤ Lib.indexByte s.data.toList 0 := (zb6 s.data.toList 0).2 hz
    clear hz
    go_enter Tryz.func101, Tryz.ntmps101
    go_wp2_with fail
    refine (Tryz.strings_IndexByte s 0 _).mono ?_
    rintro e w' ⟨rfl, rfl⟩
    rw [show ((0 : Int).toNat.toUInt8) = (0 : UInt8) from rfl]
    generalize Lib.indexByte s.data.toList 0 = ib at *
    go_wp2
    go_ret
    exact ⟨zf HR.out.symm, zpd _ _⟩
   ·have HR := zpa (zhi (s := s.data.toList) (by rw [zi]; exact h1') (by rw [zi]; exact h2') hz)
    have HI : ¬ 0 ≤ Lib.indexByte s.data.toList 0 := fun g => hz ((zb6 s.data.toList 0).1 g)
    clear hz
    go_enter Tryz.func101, Tryz.ntmps101
    go_wp2_with fail
    refine (Tryz.strings_IndexByte s 0 _).mono ?_
    rintro e w' ⟨rfl, rfl⟩
    rw [show ((0 : Int).toNat.toUInt8) = (0 : UInt8) from rfl]
    generalize Lib.indexByte s.data.toList 0 = ib at *
    go_wp2
    go_loopw [0, 3] (fun sv mo wr => ∃ (x : ByteArray) (more : Bool), sv = .string x /\ mo = .bool more /\ x.size ≤ s.size /\ V.jj s.data.toList = (if more then V.xe x.data.toList else true) /\ Below w'.heap.size w' wr) (fun sv mo _ => (match sv with | .string x => x.size | _ => 0) + (match mo with | .bool true => 1 | _ => 0))
    case atStart => exact ⟨s, true, rfl, rfl, zpc _, HR.out, zpd _ _⟩
    case round =>
     obtain ⟨x, more, rfl, rfl, hx, hp, hb⟩ := hrel
     have HB := zpa hb
     have HP := zpa hp
     clear hb hp
     rcases more with _ | _
     ·go_wp2
      go_ret
      exact ⟨zf HP.out.symm, HB.out⟩
     ·have hcl := km 47 x.data.toList
      have HC := zpa (V.zo2 x.data.toList)
      have HD := zpa (V.zcj (V.cut1 47 x.data.toList).1)
      have HS : Hid ((V.cut1 47 x.data.toList).2.2 = true -> (V.cut1 47 x.data.toList).2.1.length < x.size) := zpa (fun h => by
        have := congrArg List.length (V.zot 47 x.data.toList h)
        rw [zi] at this
        simp at this; omega)
      rw [zi] at hcl
      go_wp2_with fail
      refine (vz x 47 _ (HM.out.below HB.out) (by omega)).mono ?_
      rintro e w1 ⟨rfl, hb1⟩
      have HB1 := zpb HB hb1
      clear hb1
      generalize (V.cut1 47 x.data.toList).1 = p at *
      generalize (V.cut1 47 x.data.toList).2.1 = q at *
      generalize (V.cut1 47 x.data.toList).2.2 = more at *
      rcases HD.out with ⟨rfl, e⟩ | ⟨rfl, e⟩ | ⟨rfl, e⟩ | ⟨e1, e2, e3, e⟩
      ·exact zqs
      ·exact zqs
      ·exact zqs
      ·have HE := zpa e
       clear HD e
       have HT : Hid (V.jj s.data.toList = if more then V.xe q else true) := zpa (by
         rw [HP.out, if_pos (by trivial), HC.out, HE.out]; cases more <;> rfl)
       clear HC HP
       go_wp2
       go_roundw
       case rel => exact ⟨⟨q.toArray⟩, more, rfl, rfl, by show q.toArray.size ≤ _; simp; omega, by rw [ja]; exact HT.out, HB1.out⟩
       case measure =>
        have hq : (⟨q.toArray⟩ : ByteArray).size = q.length := by show q.toArray.size = _; simp
        have := HS.out
        rcases more with _ | _
        ·simp [hq]; omega
        ·have := this rfl
         simp [hq]; omega
end Go.Proofs.YtbikeahmldobkaaGreatDoor
