/-
  Lemmas for the law.
-/
import Derived.Test.YtbikeahmldobkaaGreatDoorC42x04
import Derived.Test.YtbikeahmldobkaaGreatDoorC42x07
import Derived.Test.YtbikeahmldobkaaGreatDoorC42x03
import Derived.Deep.MidRow
import Derived.StillTailTactics
import Derived.Deep.Upon
import Derived.Great.BuildSlice
import Derived.DeepKeys5
import Derived.Laws.StructEq
import Derived.Maps.Own
set_option linter.all false
set_option maxRecDepth 100000
set_option maxHeartbeats 1600000
namespace Go.Proofs.YtbikeahmldobkaaGreatDoor
open Go.RowKit
def qu (c : V.Comp) : List Value := .int .i64 c.par :: .int .i64 c.sch :: .string ⟨c.name.toArray⟩ :: .string ⟨c.ver.toArray⟩ :: c.dig.map (fun n => Value.int .u8 n)
def ccells (c : V.Comp) : Array Value := (qu c).toArray
def cval (c : V.Comp) : Value := .agg (ccells c)
structure CompWf (c : V.Comp) : Prop where
 par : (Lit.int .i64 c.par).wf = true
 sch : (Lit.int .i64 c.sch).wf = true
 name : c.name.length ≤ maxLen
 ver : c.ver.length ≤ maxLen
 len : c.dig.length = 32
 dig : ∀ n ∈ c.dig, (Lit.int .u8 n).wf = true
theorem ccells_0 (c : V.Comp) : (ccells c)[0]? = some (.int .i64 c.par) := rfl
theorem zj1 (c : V.Comp) : (ccells c)[1]? = some (.int .i64 c.sch) := rfl
theorem zkg (c : V.Comp) : (ccells c)[2]? = some (.string ⟨c.name.toArray⟩) := rfl
theorem zjw (c : V.Comp) : (ccells c)[3]? = some (.string ⟨c.ver.toArray⟩) := rfl
theorem CompWf.size {c : V.Comp} (h : CompWf c) : (ccells c).size = 36 := by
 unfold ccells qu
 simp [h.len]
theorem zbx : (Tryz.prog.info? 60).map (·.size) = some 36 := by kernel_rfl
theorem zic : ∃ d, Tryz.prog.underlying 60 = some d /\ d.isRow = true := ⟨_, Tryz.underlying60, rfl⟩
theorem zuj {c : V.Comp} (hc : CompWf c) {w : World} {b o : Nat} (h : w.rangeAt b o (qu c)) :
  (Instr.loadAt 60 (.pointer (some ⟨b, o, none⟩))).run Tryz.prog w = .ok (.agg (ccells c)) w := by
 obtain ⟨d, hu, hd⟩ := zic
 exact run_loadAt_mid w b o _ (qu c) d h hu hd (by rw [zbx]; have := hc.size; unfold ccells at this; simp at this; rw [this])
theorem vl (c : V.Comp) (w : World) (t : TypeId) : (w.alloc (.cells (ccells c) t)).rangeAt w.heap.size 0 (qu c) := fun j v hv => by
 rw [Nat.zero_add, World.cell?_alloc_new]
 unfold ccells
 simpa using hv
theorem vt {ops : Array Oper} {rest : List Oper} {o : Oper} {a : Act} {w : World} {Q : Exit -> Act -> World -> Prop} (g0 : o.guard = none) (x : Operand) (ho : o.op = .load 60 x)
  (b off : Nat) (hx : a.eval x = .pointer (some ⟨b, off, none⟩)) (c : V.Comp) (hc : CompWf c) (hr : w.rangeAt b off (qu c))
  (h : wpList Tryz.prog ops Q rest (a.put o.dst (.agg (ccells c))) w) : wpList Tryz.prog ops Q (o :: rest) a w := by
 obtain ⟨d, hu, hd⟩ := zic
 exact wpList_load_mid g0 _ x ho b off hx (qu c) d hr hu hd (by rw [zbx]; have := hc.size; unfold ccells at this; simp at this; rw [this]) h
theorem ztr (w : World) (old cs : Array Value) (t : TypeId) : (w.alloc (.cells old t)).setRow w.heap.size cs = w.alloc (.cells cs t) := by
 have e : ((w.alloc (.cells old t)).setRow w.heap.size cs).heap = (w.alloc (.cells cs t)).heap := by
  apply Array.ext_getElem?
  intro i
  show ((w.heap.push _).modify w.heap.size _)[i]? = (w.heap.push _)[i]?
  rw [Array.getElem?_modify, Array.getElem?_push, Array.getElem?_push]
  by_cases h : i = w.heap.size
  ·subst h; simp
  ·rw [if_neg h, if_neg h, if_neg (Ne.symm h)]
 show ({ (w.alloc (.cells old t)).setRow w.heap.size cs with heap := ((w.alloc (.cells old t)).setRow w.heap.size cs).heap } : World) = _
 rw [e]
 rfl
theorem zi8 {c : V.Comp} : (ccells c).all (·.oneCell') = true := by
 rw [Array.all_eq_true_iff_forall_mem]
 intro v hv
 unfold ccells qu at hv
 simp at hv
 rcases hv with rfl | rfl | rfl | rfl | ⟨n, _, rfl⟩ <;> rfl
theorem zb2 {ops : Array Oper} {rest : List Oper} {o : Oper} {a : Act} {w : World} {Q : Exit -> Act -> World -> Prop} (g1 : o.guard = none) (x y : Operand) (ho : o.op = .store 60 x y)
  (old : Array Value) (t : TypeId) (hx : a.eval x = .pointer (some ⟨w.heap.size, 0, none⟩)) (c : V.Comp) (hc : CompWf c) (hy : a.eval y = .agg (ccells c)) (g0 : old.size = 36)
  (h : wpList Tryz.prog ops Q rest (a.put o.dst undef) (w.alloc (.cells (ccells c) t))) : wpList Tryz.prog ops Q (o :: rest) a (w.alloc (.cells old t)) := by
 refine wpList_store_row g1 _ x y ho w.heap.size (ccells c) hx hy t old (heap_alloc_new w _) (by rw [zbx, hc.size]) (by rw [g0, hc.size]) zi8 ?_
 rw [ztr]; exact h
theorem zg8 {ops : Array Oper} {rest : List Oper} {o : Oper} {a : Act} {w : World} {Q : Exit -> Act -> World -> Prop} (g1 : o.guard = none) (x y : Operand) (ho : o.op = .store 60 x y)
  (g : Nat) (old : Array Value) (t : TypeId) (hg : w.heap[g]? = some (.cells old t (0, 0))) (hx : a.eval x = .pointer (some ⟨g, 0, none⟩)) (c : V.Comp) (hc : CompWf c) (hy : a.eval y = .agg (ccells c)) (g0 : old.size = 36)
  (h : wpList Tryz.prog ops Q rest (a.put o.dst undef) (w.setRow g (ccells c))) : wpList Tryz.prog ops Q (o :: rest) a w :=
 wpList_store_row g1 _ x y ho g (ccells c) hx hy t old hg (by rw [zbx, hc.size]) (by rw [g0, hc.size]) zi8 h
theorem zhe {c : V.Comp} (hc : CompWf c) {w : World} {g : Nat} {t : TypeId} (hg : w.heap[g]? = some (.cells (ccells c) t (0, 0))) : (loadVar 60 ⟨g, 0, none⟩).run Tryz.prog w = .ok (.agg (ccells c)) w := by
 obtain ⟨d, hu, hd⟩ := zic
 exact run_loadVar_row w g t _ (ccells c) (0, 0) d hg hu (by cases d <;> first | rfl | cases hd) (by rw [zbx, hc.size])
def zfi : V.Comp := ⟨0, 0, [], [], List.replicate 32 0⟩
theorem zqr : CompWf zfi := ⟨by decide, by decide, by decide, by decide, by decide, by decide⟩
theorem zro : (#[.int .i64 0, .int .i64 0, .string ⟨#[]⟩, .string ⟨#[]⟩, Value.int .u8 0, Value.int .u8 0, Value.int .u8 0, Value.int .u8 0, Value.int .u8 0, Value.int .u8 0, Value.int .u8 0, Value.int .u8 0, Value.int .u8 0, Value.int .u8 0, Value.int .u8 0, Value.int .u8 0, Value.int .u8 0, Value.int .u8 0, Value.int .u8 0, Value.int .u8 0, Value.int .u8 0, Value.int .u8 0, Value.int .u8 0, Value.int .u8 0, Value.int .u8 0, Value.int .u8 0, Value.int .u8 0, Value.int .u8 0, Value.int .u8 0, Value.int .u8 0, Value.int .u8 0, Value.int .u8 0, Value.int .u8 0, Value.int .u8 0, Value.int .u8 0, Value.int .u8 0] : Array Value) = ccells zfi := rfl
theorem zuh {c : V.Comp} {w : World} {g : Nat} {t : TypeId} (hg : w.heap[g]? = some (.cells (ccells c) t (0, 0))) : w.rangeAt g 0 (qu c) := fun j v hv => by
 rw [Nat.zero_add, cell_of_row w g j (ccells c) t (0, 0) hg]
 unfold ccells
 simpa using hv
theorem zi {w w' : World} {b o : Nat} {l : List Value} (h : w.rangeAt b o l) (hb : Below w.heap.size w w') : w'.rangeAt b o l := fun j v hv => by
 have := h j v hv
 exact (hb.cell (p := ⟨b, o + j, none⟩) (World.block_lt_of_cell? _ _ this)).trans this
theorem wf_rng {n : Int} (h : (Lit.int .i64 n).wf = true) : -9223372036854775808 ≤ n /\ n ≤ 9223372036854775807 := by
 simpa [Lit.wf, IntKind.min, IntKind.max, IntKind.signed, IntKind.bits] using h
theorem zzo {P : Prop} (h : P := by
 rintro e w2 ⟨rfl, hb2⟩
 have HB2 := zv3 HB1 hb2
 clear hb2
 go_wp2
 go_ret
 exact ⟨zf (by rw [HD.out]; rfl), HB2.out⟩) : P := h
theorem zk0 (c : V.Comp) (w : World) (hm : zk w) (hc : CompWf c) :
  Calls Tryz.prog 66 #[cval c] w fun e w' => e = .returned (.bool (V.yj c)) /\ Below w.heap.size w w' := by
 have HM := zv2 hm
 have HC := zv2 hc
 have h1 := zj1 c
 have h2 := zkg c
 have h3 := zjw c
 have HD : Hid (V.yj c = (V.jp c.name && V.valid c.sch c.ver)) := rfl
 have hn := zv2 hc.name
 have hv := zv2 hc.ver
 clear hm hc
 unfold cval
 generalize ccells c = cs at *
 generalize V.yj c = r at *
 obtain ⟨par, sch, name, ver, dig⟩ := c
 simp only at *
 go_enter Tryz.func66, Tryz.ntmps66
 go_wp2_with fail
 refine (zpz _ _ (HM.out.below ((zv5 _ w).alloc (zv4 _) _)) (by show name.toArray.size ≤ _; simpa using hn.out)).mono ?_
 rintro e w1 ⟨rfl, hb1⟩
 have g0 := (zv5 w.heap.size w).alloc (zv4 _) (.cells cs 60)
 have HB1 := zv2 (g0.trans (hb1.mono g0.size))
 have hc1 : w1.cell? ⟨w.heap.size, 1, none⟩ = some (.int .i64 sch) := by rw [hb1.cell (p := ⟨w.heap.size, 1, none⟩) (by simp), World.cell?_alloc_new]; exact h1
 have g1 : w1.cell? ⟨w.heap.size, 3, none⟩ = some (.string ⟨ver.toArray⟩) := by rw [hb1.cell (p := ⟨w.heap.size, 3, none⟩) (by simp), World.cell?_alloc_new]; exact h3
 clear g0 hb1 h1 h2 h3
 rw [jk]
 rcases hp : V.jp name with _ | _
 ·have HP := zv2 hp
  rw [hp] at HD
  clear hp
  go_wp2
  go_ret
  exact ⟨zf HD.out.symm, HB1.out⟩
 ·have HP := zv2 hp
  rw [hp] at HD
  clear hp
  go_wp2_with fail
  refine (zgn _ _ _ (HM.out.below HB1.out) (by show ver.toArray.size ≤ _; simpa using hv.out)).mono ?_
  exact zzo
open Go.RowKit
def PickPost (b k : Nat) (l : List V.Bs) (w : World) (e : Ending) (w' : World) : Prop :=
 ∃ x, x ∈ l /\ e = .returned (.string ⟨x.toArray⟩) /\ Tape w' b (k + 1) /\ w.grownBy w' (some b)
theorem zay (b k : Nat) (w : World) (a : Addr) (cap : Nat) (l : List V.Bs) (h : Tape w b k) (hk : k ≤ 1000000) (hl : 0 < l.length) (g3 : l.length ≤ 1000) (g0 : a.block ≠ b) (hs : a.spot = none)
  (hc : ∀ j, j < l.length -> w.cell? ⟨a.block, a.off + j, none⟩ = some (.string ⟨(l.getD j []).toArray⟩)) :
  Calls Tryz.prog 23 #[.pointer (some ⟨b, 0, none⟩), .slice (some a) l.length cap] w (PickPost b k l w) := by
 have HC := zv2 hc
 have HT := zv2 h
 have HAB := zv2 g0
 obtain ⟨ab, ao, asp⟩ := a
 simp only at hs
 subst hs
 clear hc h g0
 go_enter Tryz.func23, Tryz.ntmps23
 go_wp2_with fail
 refine (kh b k l.length _ HT.out (by omega) (by omega) (by omega)).mono ?_
 rintro e w1 ⟨r, hr, rfl, ht1, hg1⟩
 have g1 : r < l.length := by omega
 have hcell := hg1.cell (HC.out r g1) (by intro e; cases e; exact HAB.out rfl)
 have HT1 := zv2 ht1
 have HG1 := zv2 hg1
 have g2 : Hid (l.getD r [] ∈ l) := zv2 (by rw [List.getD_eq_getElem?_getD, List.getElem?_eq_getElem g1]; exact List.getElem_mem _)
 clear ht1 hg1 hr
 generalize l.getD r [] = x at *
 go_wp2
 go_ret
 exact ⟨x, g2.out, rfl, HT1.out, HG1.out⟩
def zm8 : List V.Bs := [[49, 46, 48, 46, 48], [49, 46, 50, 46, 48], [49, 46, 50, 46, 51], [50, 46, 48, 46, 48, 45, 114, 99, 46, 49], [50, 46, 48, 46, 48], [50, 46, 48, 46, 48, 43, 98], [48, 46, 57, 46, 48], [49, 46, 49, 48, 46, 48], [49, 46, 48, 46, 48, 45, 97, 108, 112, 104, 97]]
def zni : List V.Bs := [[49, 46, 48], [49, 46, 48, 45, 49], [49, 46, 48, 126, 114, 99, 49], [49, 58, 48, 46, 53], [49, 46, 48, 48], [50, 46, 48], [49, 46, 48, 45, 49, 46, 49], [49, 46, 48, 43, 98], [48, 58, 49, 46, 48]]
def znf : List V.Bs := [[49], [49, 46, 48], [49, 46, 50], [49, 46, 49, 48], [50], [48, 49], [48, 46, 57], [49, 46, 48, 46, 49]]
def VerPost (b k : Nat) (n : Int) (w : World) (e : Ending) (w' : World) : Prop :=
 ∃ x : V.Bs, V.valid n x = true /\ e = .returned (.string ⟨x.toArray⟩) /\ Tape w' b (k + 1) /\ w.grownBy w' (some b)
theorem zw1 {P : Prop} (h : P := by
 rintro e w1 ⟨x, hx, rfl, ht1, hg1⟩
 have HX := zv2 (HL.out x hx)
 have HT1 := zv2 ht1
 have HG1 := zv2 (World.grownBy.trans (World.grownBy_alloc w _ (some b)) hg1)
 clear hx ht1 hg1
 go_wp2
 go_ret
 exact ⟨x, HX.out, rfl, HT1.out, HG1.out⟩) : P := h
theorem zx1 {P : Prop} (h : P := by
 intro j; rcases j with ⟨j, hj⟩
 have h9 : j = 0 ∨ j = 1 ∨ j = 2 ∨ j = 3 ∨ j = 4 ∨ j = 5 ∨ j = 6 ∨ j = 7 ∨ j = 8 := by omega
 rcases h9 with rfl | rfl | rfl | rfl | rfl | rfl | rfl | rfl | rfl <;> rfl) : P := h
theorem zdi (b k : Nat) (n : Int) (w : World) (h : Tape w b k) (hk : k ≤ 1000000) (hn : V.scheme n = true) :
  Calls Tryz.prog 26 #[.pointer (some ⟨b, 0, none⟩), .int .i64 n] w (VerPost b k n w) := by
 have HT := zv2 h
 have hs : n = 1 ∨ n = 2 ∨ n = 3 := by unfold V.scheme at hn; simpa [or_assoc] using hn
 clear h hn
 rcases hs with rfl | rfl | rfl
 ·have HL : Hid (∀ x ∈ zm8, V.valid 1 x = true) := zv2 (by decide +kernel)
  go_enter Tryz.func26, Tryz.ntmps26
  go_wp2_with fail
  refine (zay b k _ ⟨w.heap.size, 0, none⟩ 9 zm8 ((HT.out.below ((zv5 _ w).alloc (zv4 _) _))) (by omega) (by decide) (by decide) (by have := HT.out.lt; simp; omega) rfl (fun j hj => by
    rw [World.cell?_alloc_new, Nat.zero_add]
    have : ∀ j : Fin 9, (#[Value.string ⟨#[49, 46, 48, 46, 48]⟩, Value.string ⟨#[49, 46, 50, 46, 48]⟩, Value.string ⟨#[49, 46, 50, 46, 51]⟩, Value.string ⟨#[50, 46, 48, 46, 48, 45, 114, 99, 46, 49]⟩, Value.string ⟨#[50, 46, 48, 46, 48]⟩, Value.string ⟨#[50, 46, 48, 46, 48, 43, 98]⟩, Value.string ⟨#[48, 46, 57, 46, 48]⟩, Value.string ⟨#[49, 46, 49, 48, 46, 48]⟩, Value.string ⟨#[49, 46, 48, 46, 48, 45, 97, 108, 112, 104, 97]⟩])[j.val]? = some (Value.string ⟨(zm8.getD j.val []).toArray⟩) := by
      exact zx1
    exact this ⟨j, hj⟩)).mono ?_
  exact zw1
 ·have HL : Hid (∀ x ∈ zni, V.valid 2 x = true) := zv2 (by decide +kernel)
  go_enter Tryz.func26, Tryz.ntmps26
  go_wp2_with fail
  refine (zay b k _ ⟨w.heap.size, 0, none⟩ 9 zni ((HT.out.below ((zv5 _ w).alloc (zv4 _) _))) (by omega) (by decide) (by decide) (by have := HT.out.lt; simp; omega) rfl (fun j hj => by
    rw [World.cell?_alloc_new, Nat.zero_add]
    have : ∀ j : Fin 9, (#[Value.string ⟨#[49, 46, 48]⟩, Value.string ⟨#[49, 46, 48, 45, 49]⟩, Value.string ⟨#[49, 46, 48, 126, 114, 99, 49]⟩, Value.string ⟨#[49, 58, 48, 46, 53]⟩, Value.string ⟨#[49, 46, 48, 48]⟩, Value.string ⟨#[50, 46, 48]⟩, Value.string ⟨#[49, 46, 48, 45, 49, 46, 49]⟩, Value.string ⟨#[49, 46, 48, 43, 98]⟩, Value.string ⟨#[48, 58, 49, 46, 48]⟩])[j.val]? = some (Value.string ⟨(zni.getD j.val []).toArray⟩) := by
      exact zx1
    exact this ⟨j, hj⟩)).mono ?_
  exact zw1
 ·have HL : Hid (∀ x ∈ znf, V.valid 3 x = true) := zv2 (by decide +kernel)
  go_enter Tryz.func26, Tryz.ntmps26
  go_wp2_with fail
  refine (zay b k _ ⟨w.heap.size, 0, none⟩ 8 znf ((HT.out.below ((zv5 _ w).alloc (zv4 _) _))) (by omega) (by decide) (by decide) (by have := HT.out.lt; simp; omega) rfl (fun j hj => by
    rw [World.cell?_alloc_new, Nat.zero_add]
    have : ∀ j : Fin 8, (#[Value.string ⟨#[49]⟩, Value.string ⟨#[49, 46, 48]⟩, Value.string ⟨#[49, 46, 50]⟩, Value.string ⟨#[49, 46, 49, 48]⟩, Value.string ⟨#[50]⟩, Value.string ⟨#[48, 49]⟩, Value.string ⟨#[48, 46, 57]⟩, Value.string ⟨#[49, 46, 48, 46, 49]⟩])[j.val]? = some (Value.string ⟨(znf.getD j.val []).toArray⟩) := by
      intro j; rcases j with ⟨j, hj⟩
      have h9 : j = 0 ∨ j = 1 ∨ j = 2 ∨ j = 3 ∨ j = 4 ∨ j = 5 ∨ j = 6 ∨ j = 7 := by omega
      rcases h9 with rfl | rfl | rfl | rfl | rfl | rfl | rfl | rfl <;> rfl
    exact this ⟨j, hj⟩)).mono ?_
  exact zw1
def Nums (w : World) (a : Option Addr) (m : Nat) : Prop :=
 m ≤ maxLen /\ ∀ j, j < m -> ∃ b' off x, a = some ⟨b', off, none⟩ /\ b' < w.heap.size /\ w.cell? ⟨b', off + j, none⟩ = some (.int .i64 x) /\ (Lit.int .i64 x).wf = true
theorem Tape.made {w w' : World} {a : Option Addr} {m cap b : Nat} (h : Nums w a m) (hb : Below w.heap.size w w') (hlt : w.heap.size ≤ b) (c0 : w'.cell? ⟨b, 0, none⟩ = some (.slice a m cap)) (c1 : w'.cell? ⟨b, 1, none⟩ = some (.int .i64 0)) (hf : w'.frozen? ⟨b, 1, none⟩ = false) : Tape w' b 0 := by
 obtain ⟨hm, hx⟩ := h
 refine ⟨a, m, cap, 0, c0, c1, zv4 _, hm, hf, fun j hj => ?_⟩
 obtain ⟨b', off, x, rfl, h1, h2, h3⟩ := hx j hj
 exact ⟨b', off, x, rfl, Nat.lt_of_lt_of_le h1 hb.size, by omega, (hb.cell (p := ⟨b', off + j, none⟩) h1).trans h2, h3⟩
theorem cell_set (w : World) (b o b' o' : Nat) (u : Value) (h : ∃ v, w.cell? ⟨b, o, none⟩ = some v) : (w.setCell ⟨b, o, none⟩ u).cell? ⟨b', o', none⟩ = if b' = b /\ o' = o then some u else w.cell? ⟨b', o', none⟩ := by
 obtain ⟨v, hv⟩ := h
 split
 ·rename_i h; obtain ⟨rfl, rfl⟩ := h; exact World.cell?_setCell_same _ _ _ hv
 ·rename_i h
  exact World.cell?_setCell_other _ _ _ _ (by intro e; injection e with e1 e2; exact h ⟨e1.symm, e2.symm⟩)
theorem Tape.set {w : World} {b k b' o : Nat} {u u0 : Value} (h : Tape w b k) (g0 : b' ≠ b) (hc : w.cell? ⟨b', o, none⟩ = some u0) (hu : ∀ kk x, u0 ≠ .int kk x) : Tape (w.setCell ⟨b', o, none⟩ u) b k := by
 obtain ⟨a, m, cap, p, c0, c1, hp, hm, hf, hx⟩ := h
 have e := fun b2 o2 => cell_set w b' o b2 o2 u ⟨_, hc⟩
 refine ⟨a, m, cap, p, ?_, ?_, hp, hm, by simp only [World.frozen?_setCell]; exact hf, fun j hj => ?_⟩
 ·rw [e, if_neg (fun g => g0 g.1.symm)]; exact c0
 ·rw [e, if_neg (fun g => g0 g.1.symm)]; exact c1
 ·obtain ⟨b2, off, x, rfl, h1, h2, h3, h4⟩ := hx j hj
  refine ⟨b2, off, x, rfl, by simpa [World.setCell] using h1, h2, ?_, h4⟩
  rw [e, if_neg]
  ·exact h3
  ·rintro ⟨rfl, rfl⟩
   rw [hc] at h3
   exact hu _ _ (Option.some.inj h3)
open Go.RowKit
def zn (l : List Int) : List Value := l.map fun n => Value.int .u8 n
def dcells (l : List Int) : Array Value := (zn l).toArray
theorem yp : (Tryz.prog.info? 26).map (·.size) = some 32 := by kernel_rfl
theorem zfr {l : List Int} : (dcells l).all (·.oneCell') = true := by
 rw [Array.all_eq_true_iff_forall_mem]
 intro v hv
 unfold dcells zn at hv
 simp at hv
 obtain ⟨n, _, rfl⟩ := hv
 rfl
theorem jn {l : List Int} (h : l.length = 32) : (dcells l).size = 32 := by unfold dcells zn; simp [h]
theorem zbl {l : List Int} (h : l.length = 32) {w : World} {g : Nat} {t : TypeId} (hg : w.heap[g]? = some (.cells (dcells l) t (0, 0))) : (loadVar 26 ⟨g, 0, none⟩).run Tryz.prog w = .ok (.agg (dcells l)) w :=
 run_loadVar_row w g t _ (dcells l) (0, 0) _ hg Tryz.underlying26 rfl (by rw [yp, jn h])
theorem zka (w : World) (b o : Nat) (vs : List Value) : w.grownBy (w.setCells b o vs) (some b) := by
 have h := World.keptBut_setCells b (may := fun _ => True) vs o w (fun _ _ => trivial)
 refine ⟨World.os_setCells w b o vs, ?_, World.output_setCells w b o vs, ?_, fun k hk g0 => World.heap_setCells_other w b o vs hk (fun e => g0 (by rw [e]))⟩
 all_goals clear h
 ·induction vs generalizing o w with
  | nil => rfl
  | cons v vs ih => unfold World.setCells; rw [ih]; rfl
 ·induction vs generalizing o w with
  | nil => exact zv4 _
  | cons v vs ih =>
   unfold World.setCells
   refine Nat.le_trans ?_ (ih _ _)
   simp [World.setCell]
theorem zar {w w1 w2 : World} {row : Option Nat} {g : Nat} (h : w.grownBy w1 row) (h2 : w1.grownBy w2 (some g)) (hg : w.heap.size ≤ g) : w.grownBy w2 row :=
 ⟨h2.os.trans h.os, h2.tape.trans h.tape, h2.output.trans h.output, Nat.le_trans h.size h2.size, fun k hk g0 => (h2.block k (Nat.lt_of_lt_of_le hk h.size) (by simp; omega)).trans (h.block k hk g0)⟩
def zu : List Int := List.replicate 32 0
theorem zi2 : (#[.int .u8 0, .int .u8 0, .int .u8 0, .int .u8 0, .int .u8 0, .int .u8 0, .int .u8 0, .int .u8 0, .int .u8 0, .int .u8 0, .int .u8 0, .int .u8 0, .int .u8 0, .int .u8 0, .int .u8 0, .int .u8 0, .int .u8 0, .int .u8 0, .int .u8 0, .int .u8 0, .int .u8 0, .int .u8 0, .int .u8 0, .int .u8 0, .int .u8 0, .int .u8 0, .int .u8 0, .int .u8 0, .int .u8 0, .int .u8 0, .int .u8 0, .int .u8 0] : Array Value) = dcells zu := rfl
theorem zlk {c : V.Comp} (hc : CompWf c) {w : World} {C : Nat} {t : TypeId} (hg : w.heap[C]? = some (.cells (ccells c) t (0, 0))) : w.there C 4 32 := fun j hj => by
 refine ⟨?_, frozen_of_row w C _ _ _ hg⟩
 rw [cell_of_row w C _ _ _ _ hg, Array.getElem?_eq_getElem (by rw [hc.size]; omega)]
 rfl
theorem zvp {c : V.Comp} (hc : CompWf c) {w : World} {C : Nat} {t : TypeId} (hg : w.heap[C]? = some (.cells (ccells c) t (0, 0))) {d : List Int} (hd : d.length = 32) :
  (w.setCells C 4 (dcells d).toList).rangeAt C 0 (qu { c with dig := d }) := fun j v hv => by
 rw [Nat.zero_add]
 have hl : (dcells d).toList.length = 32 := by rw [Array.length_toList, jn hd]
 by_cases h4 : j < 4
 ·rw [World.cell?_setCells_out C _ 4 w ⟨C, j, none⟩ (fun _ _ => .inl h4), cell_of_row w C j _ _ _ hg]
  have e : (ccells c)[j]? = (qu { c with dig := d })[j]? := by
   have h : j = 0 ∨ j = 1 ∨ j = 2 ∨ j = 3 := by omega
   rcases h with rfl | rfl | rfl | rfl <;> rfl
  rw [e, hv]
 ·have h := World.rangeAt_setCells_same w C 4 (dcells d).toList (by rw [hl]; exact zlk hc hg)
  have hj : (dcells d).toList[j - 4]? = some v := by
   have e : (qu { c with dig := d })[j]? = (zn d)[j - 4]? := by
    obtain ⟨i, rfl⟩ : ∃ i, j = i + 4 := ⟨j - 4, by omega⟩
    rfl
   exact e.symm.trans hv
  have := h (j - 4) v hj
  rwa [show 4 + (j - 4) = j by omega] at this
theorem znj {ops : Array Oper} {rest : List Oper} {o : Oper} {a : Act} {w : World} {Q : Exit -> Act -> World -> Prop} (g0 : o.guard = none) (x y : Operand) (ho : o.op = .store 26 x y)
  (b off : Nat) (l : List Int) (hl : l.length = 32) (hx : a.eval x = .pointer (some ⟨b, off, none⟩)) (hy : a.eval y = .agg (dcells l)) (ht : w.there b off 32)
  (W : World) (hW : W = w.setCells b off (dcells l).toList) (h : wpList Tryz.prog ops Q rest (a.put o.dst undef) W) : wpList Tryz.prog ops Q (o :: rest) a w := by
 subst hW
 exact wpList_store_mid g0 _ x y ho b off (dcells l) hx hy (by rw [jn hl]; exact ht) (by rw [yp, jn hl]) zfr h
theorem compIE : ∃ ie z, Tryz.prog.info? 60 = some ie /\ ie.size = 36 /\ ie.zero = some z := by
 have h : (match Tryz.prog.info? 60 with | some i => i.size == 36 && i.zero.isSome | none => false) = true := by kernel_rfl
 cases hq : Tryz.prog.info? 60 with
 | none => rw [hq] at h; cases h
 | some i =>
  rw [hq] at h
  simp only [Bool.and_eq_true, beq_iff_eq] at h
  obtain ⟨z, hz⟩ := Option.isSome_iff_exists.1 h.2
  exact ⟨i, z, rfl, h.1, hz⟩
def dig1 (x : Int) : List Int := x :: List.replicate 31 0
def SumPost (b k : Nat) (w : World) (e : Ending) (w' : World) : Prop :=
 ∃ x : Nat, 1 ≤ x /\ x ≤ 6 /\ e = .returned (.agg (dcells (dig1 x))) /\ Tape w' b (k + 1) /\ w.grownBy w' (some b)
theorem zs6 (b k : Nat) (w : World) (h : Tape w b k) (hk : k ≤ 1000000) :
  Calls Tryz.prog 34 #[.pointer (some ⟨b, 0, none⟩)] w (SumPost b k w) := by
 have HT := zv2 h
 have hbw := h.lt
 clear h
 go_enter Tryz.func34, Tryz.ntmps34
 go_wp2_with fail
 rw [zi2]
 obtain ⟨W0, hW0⟩ : ∃ W0, W0 = w.alloc (.cells (dcells zu) 26) := ⟨_, rfl⟩
 have g1 : W0.heap[w.heap.size]? = some (.cells (dcells zu) 26 (0, 0)) := by rw [hW0]; exact heap_alloc_new w _
 have g3 : W0.heap.size = w.heap.size + 1 := by rw [hW0]; simp
 have g0 : Below w.heap.size w W0 := by rw [hW0]; exact (zv5 _ w).alloc (zv4 _) _
 rw [← hW0]
 clear hW0
 refine (kh b k 6 _ (HT.out.below g0) (by omega) (by omega) (by omega)).mono ?_
 rintro e w1 ⟨r, hr, rfl, ht1, hg1⟩
 have HG1 := zv2 (World.grownBy.trans (zq g0 (some b)) hg1)
 have HT1 := zv2 ht1
 have g2 : Hid (w1.heap[w.heap.size]? = some (.cells (dcells zu) 26 (0, 0))) := zv2 ((hg1.block _ (by omega) (by simp; omega)).trans g1)
 have g4 : IntKind.u8.wrap (1 + (r : Int)) = 1 + (r : Int) := by rw [IntKind.wrap_u8]; omega
 have g5 : w.heap.size < w1.heap.size := Nat.lt_of_lt_of_le (by omega) hg1.size
 clear g1 g3 g0 ht1 hg1
 go_wp2_with (first | (refine wpList_store_row rfl _ _ _ rfl w.heap.size (dcells (dig1 (1 + (r : Int)))) rfl rfl 26 _ g2.out (by rw [yp]; rfl) rfl zfr ?_) | fail)
 refine bodyPost_ret (v := .agg (dcells (dig1 (1 + (r : Int))))) ?_ rfl ⟨r + 1, by omega, by omega, ?_, ?_, ?_⟩
 ·exact qr Tryz.results34 rfl (zbl rfl (setRow_heap w1 w.heap.size _ _ _ _ g2.out))
 ·rw [show (1 + (r : Int)) = ((r + 1 : Nat) : Int) by omega]
 ·refine Tape.grown HT1.out (row := some w.heap.size) ?_ (by simp; omega) (by intro b' e; cases e; omega)
  exact qc _ _ _
 ·exact zar HG1.out (qc _ _ _) (zv4 _)
theorem laidOutK : laidOutB Tryz.prog = true := by kernel_rfl
theorem znd : ∃ m, Tryz.prog.types.size = m + 2 := ⟨Tryz.prog.types.size - 2, by
  have h : decide (2 ≤ Tryz.prog.types.size) = true := by kernel_rfl
  have := of_decide_eq_true h
  omega⟩
theorem zls {α β : Type} {f : α -> Option β} {g : α -> β} : ∀ {l : List α}, (∀ x ∈ l, f x = some (g x)) -> l.mapM f = some (l.map g)
 | [], _ => rfl
 | a :: l, h => by
  rw [List.mapM_cons, h a (by simp), zls (fun x hx => h x (by simp [hx]))]
  rfl
theorem cells_u8 : Tryz.prog.cellsOf 5 = 1 := by kernel_rfl
theorem zgv : Tryz.prog.cellsOf 26 = 32 := by kernel_rfl
theorem zii : Tryz.prog.cellsOf 60 = 36 := by kernel_rfl
theorem zvb : Tryz.prog.cellsOf 3 = 1 := by kernel_rfl
theorem zuo : Tryz.prog.cellsOf 9 = 1 := by kernel_rfl
def zbi (l : List Int) : List Lit := l.map fun n => Lit.int .u8 n
theorem zrd (l : List Int) : ((List.range l.length).map fun i => [Lit.int .u8 (l.getD i 0)]).flatten = zbi l := by
 unfold zbi
 apply List.ext_getElem?
 intro i
 have e : ∀ r : List Nat, (r.map fun i => [Lit.int .u8 (l.getD i 0)]).flatten = r.map fun i => Lit.int .u8 (l.getD i 0) := fun r => by
  induction r with
  | nil => rfl
  | cons a r ih => rw [List.map_cons, List.map_cons, List.flatten_cons, ih]; rfl
 rw [e, List.getElem?_map, List.getElem?_map]
 by_cases h : i < l.length
 ·rw [List.getElem?_range h, List.getElem?_eq_getElem h]
  simp [List.getD, List.getElem?_eq_getElem h]
 ·rw [List.getElem?_eq_none (by simpa using h), List.getElem?_eq_none (by omega)]
  rfl
theorem zf2 (d : Nat) {l : List Int} (hl : l.length = 32) (hw : ∀ n ∈ l, (Lit.int .u8 n).wf = true) : Tryz.prog.keyLits (d + 2) 26 (zn l) = some (zbi l) := by
 have g0 : (zn l).length = 32 := by unfold zn; simp [hl]
 unfold Program.keyLits
 simp only [Tryz.underlying26]
 rw [if_pos (by rw [g0, zgv])]
 rw [zls (g := fun i => [Lit.int .u8 (l.getD i 0)]) (fun i hi => ?_)]
 ·rw [Option.map_some, ← zrd l, hl]
 ·have g1 : i < l.length := by rw [hl]; simpa using hi
  have e : ((zn l).drop (i * Tryz.prog.cellsOf 5)).take (Tryz.prog.cellsOf 5) = [Value.int .u8 (l.getD i 0)] := by
   rw [cells_u8, Nat.mul_one, List.drop_eq_getElem_cons (by rw [g0]; omega)]
   unfold zn
   simp [List.getD, List.getElem?_eq_getElem g1]
  rw [e]
  unfold Program.keyLits
  simp only [Tryz.underlying5]
  rw [if_pos ⟨by trivial, hw _ (by rw [List.getD_eq_getElem?_getD, List.getElem?_eq_getElem g1]; exact List.getElem_mem _)⟩]
def ym (c : V.Comp) : List Lit := .int .i64 c.par :: .int .i64 c.sch :: .string c.name :: .string c.ver :: zbi c.dig
theorem zb5 (d : Nat) {c : V.Comp} (h : CompWf c) : Tryz.prog.keyLits (d + 3) 60 (qu c) = some (ym c) := by
 have g1 : (qu c).length = 36 := by have := h.size; unfold ccells at this; simpa using this
 have hd := zf2 d h.len h.dig
 have hn : (⟨c.name.toArray⟩ : ByteArray).size ≤ maxLen := by show c.name.toArray.size ≤ _; simpa using h.name
 have hv : (⟨c.ver.toArray⟩ : ByteArray).size ≤ maxLen := by show c.ver.toArray.size ≤ _; simpa using h.ver
 have k1 : ∀ n : Int, (Lit.int .i64 n).wf = true -> Tryz.prog.keyLits (d + 2) 3 [.int .i64 n] = some [.int .i64 n] := fun n hw => by
  unfold Program.keyLits
  simp only [Tryz.underlying3]
  rw [if_pos ⟨by trivial, hw⟩]
 have k2 : ∀ s : ByteArray, s.size ≤ maxLen -> Tryz.prog.keyLits (d + 2) 9 [.string s] = some [.string s.data.toList] := fun s hw => by
  unfold Program.keyLits
  simp only [Tryz.underlying9]
  rw [if_pos hw]
 have g0 : (zn c.dig).take 32 = zn c.dig := List.take_of_length_le (by unfold zn; simp [h.len])
 unfold Program.keyLits
 simp only [Tryz.underlying60]
 rw [if_pos ⟨by rw [g1, zii], by decide +kernel⟩]
 have e4 : ((qu c).drop 4).take 32 = zn c.dig := g0
 simp only [List.mapM_cons, List.mapM_nil, zvb, zuo, zgv]
 rw [show ((qu c).drop 0).take 1 = [.int .i64 c.par] from rfl, show ((qu c).drop 1).take 1 = [.int .i64 c.sch] from rfl, show ((qu c).drop 2).take 1 = [.string ⟨c.name.toArray⟩] from rfl, show ((qu c).drop 3).take 1 = [.string ⟨c.ver.toArray⟩] from rfl, e4,
   k1 _ h.par, k1 _ h.sch, k2 _ hn, k2 _ hv, hd]
 simp [ym]
theorem ztj {l : List Int} (hl : l.length = 32) (hw : ∀ n ∈ l, (Lit.int .u8 n).wf = true) : keyOf Tryz.prog 26 (.agg (dcells l)) = some (.string (keyBytes (zbi l))) := by
 obtain ⟨m, hm⟩ := znd
 unfold keyOf
 simp only [Tryz.underlying26]
 rw [if_pos (by rw [Bool.and_eq_true]; exact ⟨by kernel_rfl, by simp [Value.formed, Tryz.underlying26, jn hl, zgv]⟩), hm]
 show Option.map _ (Tryz.prog.keyLits (m + 1 + 2) 26 (dcells l).toList) = _
 rw [show (dcells l).toList = zn l from rfl, zf2 (m + 1) hl hw]
 rfl
theorem ze9 {c : V.Comp} (h : CompWf c) : keyOf Tryz.prog 60 (.agg (ccells c)) = some (.string (keyBytes (ym c))) := by
 obtain ⟨m, hm⟩ := znd
 unfold keyOf
 simp only [Tryz.underlying60]
 rw [if_pos (by rw [Bool.and_eq_true]; exact ⟨by kernel_rfl, by simp [Value.formed, Tryz.underlying60, h.size, zii]⟩), hm]
 show Option.map _ (Tryz.prog.keyLits (m + 3) 60 (ccells c).toList) = _
 rw [show (ccells c).toList = qu c from rfl, zb5 m h]
 rfl
theorem zg2 {a b : List Int} (h : zbi a = zbi b) : a = b := by
 unfold zbi at h
 exact List.map_inj_right (fun x y e => by injection e) |>.1 h
theorem ze8 {a b : V.Comp} (h : ym a = ym b) : a = b := by
 unfold ym at h
 simp only [List.cons.injEq, Lit.int.injEq, Lit.string.injEq, true_and] at h
 obtain ⟨h1, h2, h3, h4, h5⟩ := h
 have := zg2 h5
 cases a; cases b
 simp_all
theorem zz2 {P : Prop} (h : P := by
 by_cases h : a = b
 ·rw [this.2 h]; simp [h]
 ·rcases r with _ | _
  ·simp [h]
  ·exact absurd (this.1 rfl) h) : P := h
theorem eq_comp {a b : V.Comp} (ha : CompWf a) (hb : CompWf b) (w : World) : (Op.equalIn 10000 60 (.agg (ccells a)) (.agg (ccells b))).run Tryz.prog w = .ok (decide (a = b)) w := by
 obtain ⟨r, hr, g0⟩ := run_equal_deep (P := Tryz.prog) w (m := 20) (by decide) (k := 60) (by kernel_rfl) (by kernel_rfl) (ze9 ha) (ze9 hb)
 have : (r = true ↔ a = b) := by
  rw [g0]
  constructor
  ·intro e
   obtain ⟨m, hm⟩ := znd
   exact ze8 (keyLits_inj (zb5 0 ha) (zb5 0 hb) (by simpa using e))
  ·intro e; rw [e]
 have e : r = decide (a = b) := by
  exact zz2
 rw [e] at hr
 exact hr
theorem zm6 {a b : List Int} (ha : a.length = 32) (wa : ∀ n ∈ a, (Lit.int .u8 n).wf = true) (hb : b.length = 32) (wb : ∀ n ∈ b, (Lit.int .u8 n).wf = true) (w : World) :
  (Op.equalIn 10000 26 (.agg (dcells a)) (.agg (dcells b))).run Tryz.prog w = .ok (decide (a = b)) w := by
 obtain ⟨r, hr, g0⟩ := run_equal_deep (P := Tryz.prog) w (m := 20) (by decide) (k := 26) (by kernel_rfl) (by kernel_rfl) (ztj ha wa) (ztj hb wb)
 have : (r = true ↔ a = b) := by
  rw [g0]
  constructor
  ·intro e
   exact zg2 (keyLits_inj (zf2 0 ha wa) (zf2 0 hb wb) (by simpa using e))
  ·intro e; rw [e]
 have e : r = decide (a = b) := by
  exact zz2
 rw [e] at hr
 exact hr
theorem zc4 {P : Program} {ops : Array Oper} {rest : List Oper} {o : Oper} {a : Act} {w : World} {Q : Exit -> Act -> World -> Prop} (g0 : o.guard = none) (T T2 : TypeId) (x y : Operand) (ho : o.op = .binOp .eql T x y T2)
  (xs ys : Array Value) (hx : a.eval x = .agg xs) (hy : a.eval y = .agg ys) (hm : P.eqGuardType P.depth T = false) (r : Bool) (hr : (Op.equalIn 10000 T (.agg xs) (.agg ys)).run P w = .ok r w)
  (h : wpList P ops Q rest (a.put o.dst (.bool r)) w) : wpList P ops Q (o :: rest) a w := by
 refine wpList_plain g0 fun K hK => ?_
 unfold Oper.wp execOp
 simp only [ho, hx, hy, Sem.run_bind, run_eqGuard_agg w .eql T x y xs ys hm, Result.andThen_ok, run_eql_struct, hr, Sem.run_pure]
 exact hK _ _ h
theorem zrr : Tryz.prog.eqGuardType Tryz.prog.depth 60 = false := by kernel_rfl
theorem kz : Tryz.prog.eqGuardType Tryz.prog.depth 26 = false := by kernel_rfl
open Go.RowKit
def icells (d : List Int) (time : Int) (v : Value) : Array Value := (zn d ++ [.int .i64 time, v]).toArray
theorem zf1 (w : World) (t : TypeId) {d : List Int} (time : Int) (v : Value) (hd : d.length = 32) : (w.alloc (.cells (icells d time v) t)).rangeAt w.heap.size 0 (zn d) := fun j u hj => by
 rw [Nat.zero_add, World.cell?_alloc_new]
 unfold icells
 have : j < (zn d).length := (List.getElem?_eq_some_iff.1 hj).1
 rw [List.getElem?_toArray, List.getElem?_append_left this]
 exact hj
end Go.Proofs.YtbikeahmldobkaaGreatDoor
