/-
  Lemmas for the law.
-/
import Derived.Test.YtbikeahmldobkaaGreatDoorC50x04
import Derived.Test.YtbikeahmldobkaaGreatDoorC50x07
import Derived.Test.YtbikeahmldobkaaGreatDoorC50x03
import Derived.Deep.MidRow
import Derived.StillTailTactics
import Derived.Deep.Upon
import Derived.Great.BuildSlice
import Derived.DeepKeys5
import Derived.Laws.StructEq
import Derived.Maps.Own
import Derived.Maps.OwnSet
set_option linter.all false
set_option maxRecDepth 100000
set_option maxHeartbeats 1600000
namespace Go.Proofs.YtbikeahmldobkaaGreatDoor
open Go.RowKit
def qu (c : V.Comp) : List Value := .int .i64 c.par :: .int .i64 c.sch :: .string ⟨c.name.toArray⟩ :: .string ⟨c.ver.toArray⟩ :: c.dig.map (fun n => Value.int .u8 n)
def ccells (c : V.Comp) : Array Value := (qu c).toArray
def cval (c : V.Comp) : Value := .agg (ccells c)
structure CompWf (c : V.Comp) : Prop where
 par : (Lit.int .i64 c.par).wf = true
 sch : (Lit.int .i64 c.sch).wf = true
 name : c.name.length ≤ maxLen
 ver : c.ver.length ≤ maxLen
 len : c.dig.length = 32
 dig : ∀ n ∈ c.dig, (Lit.int .u8 n).wf = true
theorem ccells_0 (c : V.Comp) : (ccells c)[0]? = some (.int .i64 c.par) := rfl
theorem zqn (c : V.Comp) : (ccells c)[1]? = some (.int .i64 c.sch) := rfl
theorem zq0 (c : V.Comp) : (ccells c)[2]? = some (.string ⟨c.name.toArray⟩) := rfl
theorem zqh (c : V.Comp) : (ccells c)[3]? = some (.string ⟨c.ver.toArray⟩) := rfl
theorem CompWf.size {c : V.Comp} (h : CompWf c) : (ccells c).size = 36 := by
 unfold ccells qu
 simp [h.len]
theorem zb9 : (Tryz.prog.info? 60).map (·.size) = some 36 := by kernel_rfl
theorem zi0 : ∃ d, Tryz.prog.underlying 60 = some d /\ d.isRow = true := ⟨_, Tryz.underlying60, rfl⟩
theorem zu1 {c : V.Comp} (hc : CompWf c) {w : World} {b o : Nat} (h : w.rangeAt b o (qu c)) :
  (Instr.loadAt 60 (.pointer (some ⟨b, o, none⟩))).run Tryz.prog w = .ok (.agg (ccells c)) w := by
 obtain ⟨d, hu, hd⟩ := zi0
 exact run_loadAt_mid w b o _ (qu c) d h hu hd (by rw [zb9]; have := hc.size; unfold ccells at this; simp at this; rw [this])
theorem zcq (c : V.Comp) (w : World) (t : TypeId) : (w.alloc (.cells (ccells c) t)).rangeAt w.heap.size 0 (qu c) := fun j v hv => by
 rw [Nat.zero_add, World.cell?_alloc_new]
 unfold ccells
 simpa using hv
theorem zc7 {ops : Array Oper} {rest : List Oper} {o : Oper} {a : Act} {w : World} {Q : Exit -> Act -> World -> Prop} (g0 : o.guard = none) (x : Operand) (ho : o.op = .load 60 x)
  (b off : Nat) (hx : a.eval x = .pointer (some ⟨b, off, none⟩)) (c : V.Comp) (hc : CompWf c) (hr : w.rangeAt b off (qu c))
  (h : wpList Tryz.prog ops Q rest (a.put o.dst (.agg (ccells c))) w) : wpList Tryz.prog ops Q (o :: rest) a w := by
 obtain ⟨d, hu, hd⟩ := zi0
 exact wpList_load_mid g0 _ x ho b off hx (qu c) d hr hu hd (by rw [zb9]; have := hc.size; unfold ccells at this; simp at this; rw [this]) h
theorem zt7 (w : World) (old cs : Array Value) (t : TypeId) : (w.alloc (.cells old t)).setRow w.heap.size cs = w.alloc (.cells cs t) := by
 have e : ((w.alloc (.cells old t)).setRow w.heap.size cs).heap = (w.alloc (.cells cs t)).heap := by
  apply Array.ext_getElem?
  intro i
  show ((w.heap.push _).modify w.heap.size _)[i]? = (w.heap.push _)[i]?
  rw [Array.getElem?_modify, Array.getElem?_push, Array.getElem?_push]
  by_cases h : i = w.heap.size
  ·subst h; simp
  ·rw [if_neg h, if_neg h, if_neg (Ne.symm h)]
 show ({ (w.alloc (.cells old t)).setRow w.heap.size cs with heap := ((w.alloc (.cells old t)).setRow w.heap.size cs).heap } : World) = _
 rw [e]
 rfl
theorem zju {c : V.Comp} : (ccells c).all (·.oneCell') = true := by
 rw [Array.all_eq_true_iff_forall_mem]
 intro v hv
 unfold ccells qu at hv
 simp at hv
 rcases hv with rfl | rfl | rfl | rfl | ⟨n, _, rfl⟩ <;> rfl
theorem zfw {ops : Array Oper} {rest : List Oper} {o : Oper} {a : Act} {w : World} {Q : Exit -> Act -> World -> Prop} (g1 : o.guard = none) (x y : Operand) (ho : o.op = .store 60 x y)
  (old : Array Value) (t : TypeId) (hx : a.eval x = .pointer (some ⟨w.heap.size, 0, none⟩)) (c : V.Comp) (hc : CompWf c) (hy : a.eval y = .agg (ccells c)) (g0 : old.size = 36)
  (h : wpList Tryz.prog ops Q rest (a.put o.dst undef) (w.alloc (.cells (ccells c) t))) : wpList Tryz.prog ops Q (o :: rest) a (w.alloc (.cells old t)) := by
 refine wpList_store_row g1 _ x y ho w.heap.size (ccells c) hx hy t old (heap_alloc_new w _) (by rw [zb9, hc.size]) (by rw [g0, hc.size]) zju ?_
 rw [zt7]; exact h
theorem zh0 {ops : Array Oper} {rest : List Oper} {o : Oper} {a : Act} {w : World} {Q : Exit -> Act -> World -> Prop} (g1 : o.guard = none) (x y : Operand) (ho : o.op = .store 60 x y)
  (g : Nat) (old : Array Value) (t : TypeId) (hg : w.heap[g]? = some (.cells old t (0, 0))) (hx : a.eval x = .pointer (some ⟨g, 0, none⟩)) (c : V.Comp) (hc : CompWf c) (hy : a.eval y = .agg (ccells c)) (g0 : old.size = 36)
  (h : wpList Tryz.prog ops Q rest (a.put o.dst undef) (w.setRow g (ccells c))) : wpList Tryz.prog ops Q (o :: rest) a w :=
 wpList_store_row g1 _ x y ho g (ccells c) hx hy t old hg (by rw [zb9, hc.size]) (by rw [g0, hc.size]) zju h
theorem zh5 {c : V.Comp} (hc : CompWf c) {w : World} {g : Nat} {t : TypeId} (hg : w.heap[g]? = some (.cells (ccells c) t (0, 0))) : (loadVar 60 ⟨g, 0, none⟩).run Tryz.prog w = .ok (.agg (ccells c)) w := by
 obtain ⟨d, hu, hd⟩ := zi0
 exact run_loadVar_row w g t _ (ccells c) (0, 0) d hg hu (by cases d <;> first | rfl | cases hd) (by rw [zb9, hc.size])
def zf8 : V.Comp := ⟨0, 0, [], [], List.replicate 32 0⟩
theorem zqx : CompWf zf8 := ⟨by decide, by decide, by decide, by decide, by decide, by decide⟩
theorem zr0 : (#[.int .i64 0, .int .i64 0, .string ⟨#[]⟩, .string ⟨#[]⟩, Value.int .u8 0, Value.int .u8 0, Value.int .u8 0, Value.int .u8 0, Value.int .u8 0, Value.int .u8 0, Value.int .u8 0, Value.int .u8 0, Value.int .u8 0, Value.int .u8 0, Value.int .u8 0, Value.int .u8 0, Value.int .u8 0, Value.int .u8 0, Value.int .u8 0, Value.int .u8 0, Value.int .u8 0, Value.int .u8 0, Value.int .u8 0, Value.int .u8 0, Value.int .u8 0, Value.int .u8 0, Value.int .u8 0, Value.int .u8 0, Value.int .u8 0, Value.int .u8 0, Value.int .u8 0, Value.int .u8 0, Value.int .u8 0, Value.int .u8 0, Value.int .u8 0, Value.int .u8 0] : Array Value) = ccells zf8 := rfl
theorem zu0 {c : V.Comp} {w : World} {g : Nat} {t : TypeId} (hg : w.heap[g]? = some (.cells (ccells c) t (0, 0))) : w.rangeAt g 0 (qu c) := fun j v hv => by
 rw [Nat.zero_add, cell_of_row w g j (ccells c) t (0, 0) hg]
 unfold ccells
 simpa using hv
theorem zk {w w' : World} {b o : Nat} {l : List Value} (h : w.rangeAt b o l) (hb : Below w.heap.size w w') : w'.rangeAt b o l := fun j v hv => by
 have := h j v hv
 exact (hb.cell (p := ⟨b, o + j, none⟩) (World.block_lt_of_cell? _ _ this)).trans this
theorem wf_rng {n : Int} (h : (Lit.int .i64 n).wf = true) : -9223372036854775808 ≤ n /\ n ≤ 9223372036854775807 := by
 simpa [Lit.wf, IntKind.min, IntKind.max, IntKind.signed, IntKind.bits] using h
theorem zlg (c : V.Comp) (w : World) (hm : zj w) (hc : CompWf c) :
  Calls Tryz.prog 66 #[cval c] w fun e w' => e = .returned (.bool (V.zbq c)) /\ Below w.heap.size w w' := by
 have HM := zwg hm
 have HC := zwg hc
 have h1 := zqn c
 have h2 := zq0 c
 have h3 := zqh c
 have HD : Hid (V.zbq c = (V.jx c.name && V.valid c.sch c.ver)) := rfl
 have hn := zwg hc.name
 have hv := zwg hc.ver
 clear hm hc
 unfold cval
 generalize ccells c = cs at *
 generalize V.zbq c = r at *
 obtain ⟨par, sch, name, ver, dig⟩ := c
 simp only at *
 go_enter Tryz.func66, Tryz.ntmps66
 go_wp2_with fail
 refine (zp2 _ _ (HM.out.below ((zwj _ w).alloc (zwi _) _)) (by show name.toArray.size ≤ _; simpa using hn.out)).mono ?_
 rintro e w1 ⟨rfl, hb1⟩
 have g0 := (zwj w.heap.size w).alloc (zwi _) (.cells cs 60)
 have HB1 := zwg (g0.trans (hb1.mono g0.size))
 have hc1 : w1.cell? ⟨w.heap.size, 1, none⟩ = some (.int .i64 sch) := by rw [hb1.cell (p := ⟨w.heap.size, 1, none⟩) (by simp), World.cell?_alloc_new]; exact h1
 have g1 : w1.cell? ⟨w.heap.size, 3, none⟩ = some (.string ⟨ver.toArray⟩) := by rw [hb1.cell (p := ⟨w.heap.size, 3, none⟩) (by simp), World.cell?_alloc_new]; exact h3
 clear g0 hb1 h1 h2 h3
 rw [jq]
 rcases hp : V.jx name with _ | _
 ·have HP := zwg hp
  rw [hp] at HD
  clear hp
  go_wp2
  go_ret
  exact ⟨zg HD.out.symm, HB1.out⟩
 ·have HP := zwg hp
  rw [hp] at HD
  clear hp
  go_wp2_with fail
  refine (zhg _ _ _ (HM.out.below HB1.out) (by show ver.toArray.size ≤ _; simpa using hv.out)).mono ?_
  rintro e w2 ⟨rfl, hb2⟩
  have HB2 := zwh HB1 hb2
  clear hb2
  go_wp2
  go_ret
  exact ⟨zg (by rw [HD.out]; rfl), HB2.out⟩
open Go.RowKit
def PickPost (b k : Nat) (l : List V.Bs) (w : World) (e : Ending) (w' : World) : Prop :=
 ∃ x, x ∈ l /\ e = .returned (.string ⟨x.toArray⟩) /\ Tape w' b (k + 1) /\ w.grownBy w' (some b)
theorem ut (b k : Nat) (w : World) (a : Addr) (cap : Nat) (l : List V.Bs) (h : Tape w b k) (hk : k ≤ 1000000) (hl : 0 < l.length) (g3 : l.length ≤ 1000) (g0 : a.block ≠ b) (hs : a.spot = none)
  (hc : ∀ j, j < l.length -> w.cell? ⟨a.block, a.off + j, none⟩ = some (.string ⟨(l.getD j []).toArray⟩)) :
  Calls Tryz.prog 23 #[.pointer (some ⟨b, 0, none⟩), .slice (some a) l.length cap] w (PickPost b k l w) := by
 have HC := zwg hc
 have HT := zwg h
 have HAB := zwg g0
 obtain ⟨ab, ao, asp⟩ := a
 simp only at hs
 subst hs
 clear hc h g0
 go_enter Tryz.func23, Tryz.ntmps23
 go_wp2_with fail
 refine (jf b k l.length _ HT.out (by omega) (by omega) (by omega)).mono ?_
 rintro e w1 ⟨r, hr, rfl, ht1, hg1⟩
 have g1 : r < l.length := by omega
 have hcell := hg1.cell (HC.out r g1) (by intro e; cases e; exact HAB.out rfl)
 have HT1 := zwg ht1
 have HG1 := zwg hg1
 have g2 : Hid (l.getD r [] ∈ l) := zwg (by rw [List.getD_eq_getElem?_getD, List.getElem?_eq_getElem g1]; exact List.getElem_mem _)
 clear ht1 hg1 hr
 generalize l.getD r [] = x at *
 go_wp2
 go_ret
 exact ⟨x, g2.out, rfl, HT1.out, HG1.out⟩
def znj : List V.Bs := [[49, 46, 48, 46, 48], [49, 46, 50, 46, 48], [49, 46, 50, 46, 51], [50, 46, 48, 46, 48, 45, 114, 99, 46, 49], [50, 46, 48, 46, 48], [50, 46, 48, 46, 48, 43, 98], [48, 46, 57, 46, 48], [49, 46, 49, 48, 46, 48], [49, 46, 48, 46, 48, 45, 97, 108, 112, 104, 97]]
def znt : List V.Bs := [[49, 46, 48], [49, 46, 48, 45, 49], [49, 46, 48, 126, 114, 99, 49], [49, 58, 48, 46, 53], [49, 46, 48, 48], [50, 46, 48], [49, 46, 48, 45, 49, 46, 49], [49, 46, 48, 43, 98], [48, 58, 49, 46, 48]]
def znq : List V.Bs := [[49], [49, 46, 48], [49, 46, 50], [49, 46, 49, 48], [50], [48, 49], [48, 46, 57], [49, 46, 48, 46, 49]]
def VerPost (b k : Nat) (n : Int) (w : World) (e : Ending) (w' : World) : Prop :=
 ∃ x : V.Bs, V.valid n x = true /\ e = .returned (.string ⟨x.toArray⟩) /\ Tape w' b (k + 1) /\ w.grownBy w' (some b)
theorem zxf {P : Prop} (h : P := by
 rintro e w1 ⟨x, hx, rfl, ht1, hg1⟩
 have HX := zwg (HL.out x hx)
 have HT1 := zwg ht1
 have HG1 := zwg (World.grownBy.trans (World.grownBy_alloc w _ (some b)) hg1)
 clear hx ht1 hg1
 go_wp2
 go_ret
 exact ⟨x, HX.out, rfl, HT1.out, HG1.out⟩) : P := h
theorem zyj {P : Prop} (h : P := by
 intro j; rcases j with ⟨j, hj⟩
 have h9 : j = 0 ∨ j = 1 ∨ j = 2 ∨ j = 3 ∨ j = 4 ∨ j = 5 ∨ j = 6 ∨ j = 7 ∨ j = 8 := by omega
 rcases h9 with rfl | rfl | rfl | rfl | rfl | rfl | rfl | rfl | rfl <;> rfl) : P := h
theorem yb (b k : Nat) (n : Int) (w : World) (h : Tape w b k) (hk : k ≤ 1000000) (hn : V.scheme n = true) :
  Calls Tryz.prog 26 #[.pointer (some ⟨b, 0, none⟩), .int .i64 n] w (VerPost b k n w) := by
 have HT := zwg h
 have hs : n = 1 ∨ n = 2 ∨ n = 3 := by unfold V.scheme at hn; simpa [or_assoc] using hn
 clear h hn
 rcases hs with rfl | rfl | rfl
 ·have HL : Hid (∀ x ∈ znj, V.valid 1 x = true) := zwg (by decide +kernel)
  go_enter Tryz.func26, Tryz.ntmps26
  go_wp2_with fail
  refine (ut b k _ ⟨w.heap.size, 0, none⟩ 9 znj ((HT.out.below ((zwj _ w).alloc (zwi _) _))) (by omega) (by decide) (by decide) (by have := HT.out.lt; simp; omega) rfl (fun j hj => by
    rw [World.cell?_alloc_new, Nat.zero_add]
    have : ∀ j : Fin 9, (#[Value.string ⟨#[49, 46, 48, 46, 48]⟩, Value.string ⟨#[49, 46, 50, 46, 48]⟩, Value.string ⟨#[49, 46, 50, 46, 51]⟩, Value.string ⟨#[50, 46, 48, 46, 48, 45, 114, 99, 46, 49]⟩, Value.string ⟨#[50, 46, 48, 46, 48]⟩, Value.string ⟨#[50, 46, 48, 46, 48, 43, 98]⟩, Value.string ⟨#[48, 46, 57, 46, 48]⟩, Value.string ⟨#[49, 46, 49, 48, 46, 48]⟩, Value.string ⟨#[49, 46, 48, 46, 48, 45, 97, 108, 112, 104, 97]⟩])[j.val]? = some (Value.string ⟨(znj.getD j.val []).toArray⟩) := by
      exact zyj
    exact this ⟨j, hj⟩)).mono ?_
  exact zxf
 ·have HL : Hid (∀ x ∈ znt, V.valid 2 x = true) := zwg (by decide +kernel)
  go_enter Tryz.func26, Tryz.ntmps26
  go_wp2_with fail
  refine (ut b k _ ⟨w.heap.size, 0, none⟩ 9 znt ((HT.out.below ((zwj _ w).alloc (zwi _) _))) (by omega) (by decide) (by decide) (by have := HT.out.lt; simp; omega) rfl (fun j hj => by
    rw [World.cell?_alloc_new, Nat.zero_add]
    have : ∀ j : Fin 9, (#[Value.string ⟨#[49, 46, 48]⟩, Value.string ⟨#[49, 46, 48, 45, 49]⟩, Value.string ⟨#[49, 46, 48, 126, 114, 99, 49]⟩, Value.string ⟨#[49, 58, 48, 46, 53]⟩, Value.string ⟨#[49, 46, 48, 48]⟩, Value.string ⟨#[50, 46, 48]⟩, Value.string ⟨#[49, 46, 48, 45, 49, 46, 49]⟩, Value.string ⟨#[49, 46, 48, 43, 98]⟩, Value.string ⟨#[48, 58, 49, 46, 48]⟩])[j.val]? = some (Value.string ⟨(znt.getD j.val []).toArray⟩) := by
      exact zyj
    exact this ⟨j, hj⟩)).mono ?_
  exact zxf
 ·have HL : Hid (∀ x ∈ znq, V.valid 3 x = true) := zwg (by decide +kernel)
  go_enter Tryz.func26, Tryz.ntmps26
  go_wp2_with fail
  refine (ut b k _ ⟨w.heap.size, 0, none⟩ 8 znq ((HT.out.below ((zwj _ w).alloc (zwi _) _))) (by omega) (by decide) (by decide) (by have := HT.out.lt; simp; omega) rfl (fun j hj => by
    rw [World.cell?_alloc_new, Nat.zero_add]
    have : ∀ j : Fin 8, (#[Value.string ⟨#[49]⟩, Value.string ⟨#[49, 46, 48]⟩, Value.string ⟨#[49, 46, 50]⟩, Value.string ⟨#[49, 46, 49, 48]⟩, Value.string ⟨#[50]⟩, Value.string ⟨#[48, 49]⟩, Value.string ⟨#[48, 46, 57]⟩, Value.string ⟨#[49, 46, 48, 46, 49]⟩])[j.val]? = some (Value.string ⟨(znq.getD j.val []).toArray⟩) := by
      intro j; rcases j with ⟨j, hj⟩
      have h9 : j = 0 ∨ j = 1 ∨ j = 2 ∨ j = 3 ∨ j = 4 ∨ j = 5 ∨ j = 6 ∨ j = 7 := by omega
      rcases h9 with rfl | rfl | rfl | rfl | rfl | rfl | rfl | rfl <;> rfl
    exact this ⟨j, hj⟩)).mono ?_
  exact zxf
def Nums (w : World) (a : Option Addr) (m : Nat) : Prop :=
 m ≤ maxLen /\ ∀ j, j < m -> ∃ b' off x, a = some ⟨b', off, none⟩ /\ b' < w.heap.size /\ w.cell? ⟨b', off + j, none⟩ = some (.int .i64 x) /\ (Lit.int .i64 x).wf = true
theorem Tape.made {w w' : World} {a : Option Addr} {m cap b : Nat} (h : Nums w a m) (hb : Below w.heap.size w w') (hlt : w.heap.size ≤ b) (c0 : w'.cell? ⟨b, 0, none⟩ = some (.slice a m cap)) (c1 : w'.cell? ⟨b, 1, none⟩ = some (.int .i64 0)) (hf : w'.frozen? ⟨b, 1, none⟩ = false) : Tape w' b 0 := by
 obtain ⟨hm, hx⟩ := h
 refine ⟨a, m, cap, 0, c0, c1, zwi _, hm, hf, fun j hj => ?_⟩
 obtain ⟨b', off, x, rfl, h1, h2, h3⟩ := hx j hj
 exact ⟨b', off, x, rfl, Nat.lt_of_lt_of_le h1 hb.size, by omega, (hb.cell (p := ⟨b', off + j, none⟩) h1).trans h2, h3⟩
theorem cell_set (w : World) (b o b' o' : Nat) (u : Value) (h : ∃ v, w.cell? ⟨b, o, none⟩ = some v) : (w.setCell ⟨b, o, none⟩ u).cell? ⟨b', o', none⟩ = if b' = b /\ o' = o then some u else w.cell? ⟨b', o', none⟩ := by
 obtain ⟨v, hv⟩ := h
 split
 ·rename_i h; obtain ⟨rfl, rfl⟩ := h; exact World.cell?_setCell_same _ _ _ hv
 ·rename_i h
  exact World.cell?_setCell_other _ _ _ _ (by intro e; injection e with e1 e2; exact h ⟨e1.symm, e2.symm⟩)
theorem Tape.set {w : World} {b k b' o : Nat} {u u0 : Value} (h : Tape w b k) (g0 : b' ≠ b) (hc : w.cell? ⟨b', o, none⟩ = some u0) (hu : ∀ kk x, u0 ≠ .int kk x) : Tape (w.setCell ⟨b', o, none⟩ u) b k := by
 obtain ⟨a, m, cap, p, c0, c1, hp, hm, hf, hx⟩ := h
 have e := fun b2 o2 => cell_set w b' o b2 o2 u ⟨_, hc⟩
 refine ⟨a, m, cap, p, ?_, ?_, hp, hm, by simp only [World.frozen?_setCell]; exact hf, fun j hj => ?_⟩
 ·rw [e, if_neg (fun g => g0 g.1.symm)]; exact c0
 ·rw [e, if_neg (fun g => g0 g.1.symm)]; exact c1
 ·obtain ⟨b2, off, x, rfl, h1, h2, h3, h4⟩ := hx j hj
  refine ⟨b2, off, x, rfl, by simpa [World.setCell] using h1, h2, ?_, h4⟩
  rw [e, if_neg]
  ·exact h3
  ·rintro ⟨rfl, rfl⟩
   rw [hc] at h3
   exact hu _ _ (Option.some.inj h3)
open Go.RowKit
def zq (l : List Int) : List Value := l.map fun n => Value.int .u8 n
def dcells (l : List Int) : Array Value := (zq l).toArray
theorem vd : (Tryz.prog.info? 26).map (·.size) = some 32 := by kernel_rfl
theorem zgi {l : List Int} : (dcells l).all (·.oneCell') = true := by
 rw [Array.all_eq_true_iff_forall_mem]
 intro v hv
 unfold dcells zq at hv
 simp at hv
 obtain ⟨n, _, rfl⟩ := hv
 rfl
theorem jr {l : List Int} (h : l.length = 32) : (dcells l).size = 32 := by unfold dcells zq; simp [h]
theorem zbz {l : List Int} (h : l.length = 32) {w : World} {g : Nat} {t : TypeId} (hg : w.heap[g]? = some (.cells (dcells l) t (0, 0))) : (loadVar 26 ⟨g, 0, none⟩).run Tryz.prog w = .ok (.agg (dcells l)) w :=
 run_loadVar_row w g t _ (dcells l) (0, 0) _ hg Tryz.underlying26 rfl (by rw [vd, jr h])
theorem zks (w : World) (b o : Nat) (vs : List Value) : w.grownBy (w.setCells b o vs) (some b) := by
 have h := World.keptBut_setCells b (may := fun _ => True) vs o w (fun _ _ => trivial)
 refine ⟨World.os_setCells w b o vs, ?_, World.output_setCells w b o vs, ?_, fun k hk g0 => World.heap_setCells_other w b o vs hk (fun e => g0 (by rw [e]))⟩
 all_goals clear h
 ·induction vs generalizing o w with
  | nil => rfl
  | cons v vs ih => unfold World.setCells; rw [ih]; rfl
 ·induction vs generalizing o w with
  | nil => exact zwi _
  | cons v vs ih =>
   unfold World.setCells
   refine Nat.le_trans ?_ (ih _ _)
   simp [World.setCell]
theorem za2 {w w1 w2 : World} {row : Option Nat} {g : Nat} (h : w.grownBy w1 row) (h2 : w1.grownBy w2 (some g)) (hg : w.heap.size ≤ g) : w.grownBy w2 row :=
 ⟨h2.os.trans h.os, h2.tape.trans h.tape, h2.output.trans h.output, Nat.le_trans h.size h2.size, fun k hk g0 => (h2.block k (Nat.lt_of_lt_of_le hk h.size) (by simp; omega)).trans (h.block k hk g0)⟩
def zu : List Int := List.replicate 32 0
theorem zjp : (#[.int .u8 0, .int .u8 0, .int .u8 0, .int .u8 0, .int .u8 0, .int .u8 0, .int .u8 0, .int .u8 0, .int .u8 0, .int .u8 0, .int .u8 0, .int .u8 0, .int .u8 0, .int .u8 0, .int .u8 0, .int .u8 0, .int .u8 0, .int .u8 0, .int .u8 0, .int .u8 0, .int .u8 0, .int .u8 0, .int .u8 0, .int .u8 0, .int .u8 0, .int .u8 0, .int .u8 0, .int .u8 0, .int .u8 0, .int .u8 0, .int .u8 0, .int .u8 0] : Array Value) = dcells zu := rfl
theorem zlz {c : V.Comp} (hc : CompWf c) {w : World} {C : Nat} {t : TypeId} (hg : w.heap[C]? = some (.cells (ccells c) t (0, 0))) : w.there C 4 32 := fun j hj => by
 refine ⟨?_, frozen_of_row w C _ _ _ hg⟩
 rw [cell_of_row w C _ _ _ _ hg, Array.getElem?_eq_getElem (by rw [hc.size]; omega)]
 rfl
theorem zv4 {c : V.Comp} (hc : CompWf c) {w : World} {C : Nat} {t : TypeId} (hg : w.heap[C]? = some (.cells (ccells c) t (0, 0))) {d : List Int} (hd : d.length = 32) :
  (w.setCells C 4 (dcells d).toList).rangeAt C 0 (qu { c with dig := d }) := fun j v hv => by
 rw [Nat.zero_add]
 have hl : (dcells d).toList.length = 32 := by rw [Array.length_toList, jr hd]
 by_cases h4 : j < 4
 ·rw [World.cell?_setCells_out C _ 4 w ⟨C, j, none⟩ (fun _ _ => .inl h4), cell_of_row w C j _ _ _ hg]
  have e : (ccells c)[j]? = (qu { c with dig := d })[j]? := by
   have h : j = 0 ∨ j = 1 ∨ j = 2 ∨ j = 3 := by omega
   rcases h with rfl | rfl | rfl | rfl <;> rfl
  rw [e, hv]
 ·have h := World.rangeAt_setCells_same w C 4 (dcells d).toList (by rw [hl]; exact zlz hc hg)
  have hj : (dcells d).toList[j - 4]? = some v := by
   have e : (qu { c with dig := d })[j]? = (zq d)[j - 4]? := by
    obtain ⟨i, rfl⟩ : ∃ i, j = i + 4 := ⟨j - 4, by omega⟩
    rfl
   exact e.symm.trans hv
  have := h (j - 4) v hj
  rwa [show 4 + (j - 4) = j by omega] at this
theorem znu {ops : Array Oper} {rest : List Oper} {o : Oper} {a : Act} {w : World} {Q : Exit -> Act -> World -> Prop} (g0 : o.guard = none) (x y : Operand) (ho : o.op = .store 26 x y)
  (b off : Nat) (l : List Int) (hl : l.length = 32) (hx : a.eval x = .pointer (some ⟨b, off, none⟩)) (hy : a.eval y = .agg (dcells l)) (ht : w.there b off 32)
  (W : World) (hW : W = w.setCells b off (dcells l).toList) (h : wpList Tryz.prog ops Q rest (a.put o.dst undef) W) : wpList Tryz.prog ops Q (o :: rest) a w := by
 subst hW
 exact wpList_store_mid g0 _ x y ho b off (dcells l) hx hy (by rw [jr hl]; exact ht) (by rw [vd, jr hl]) zgi h
theorem compIE : ∃ ie z, Tryz.prog.info? 60 = some ie /\ ie.size = 36 /\ ie.zero = some z := by
 have h : (match Tryz.prog.info? 60 with | some i => i.size == 36 && i.zero.isSome | none => false) = true := by kernel_rfl
 cases hq : Tryz.prog.info? 60 with
 | none => rw [hq] at h; cases h
 | some i =>
  rw [hq] at h
  simp only [Bool.and_eq_true, beq_iff_eq] at h
  obtain ⟨z, hz⟩ := Option.isSome_iff_exists.1 h.2
  exact ⟨i, z, rfl, h.1, hz⟩
def dig1 (x : Int) : List Int := x :: List.replicate 31 0
def SumPost (b k : Nat) (w : World) (e : Ending) (w' : World) : Prop :=
 ∃ x : Nat, 1 ≤ x /\ x ≤ 6 /\ e = .returned (.agg (dcells (dig1 x))) /\ Tape w' b (k + 1) /\ w.grownBy w' (some b)
theorem ztj (b k : Nat) (w : World) (h : Tape w b k) (hk : k ≤ 1000000) :
  Calls Tryz.prog 34 #[.pointer (some ⟨b, 0, none⟩)] w (SumPost b k w) := by
 have HT := zwg h
 have hbw := h.lt
 clear h
 go_enter Tryz.func34, Tryz.ntmps34
 go_wp2_with fail
 rw [zjp]
 obtain ⟨W0, hW0⟩ : ∃ W0, W0 = w.alloc (.cells (dcells zu) 26) := ⟨_, rfl⟩
 have g1 : W0.heap[w.heap.size]? = some (.cells (dcells zu) 26 (0, 0)) := by rw [hW0]; exact heap_alloc_new w _
 have g3 : W0.heap.size = w.heap.size + 1 := by rw [hW0]; simp
 have g0 : Below w.heap.size w W0 := by rw [hW0]; exact (zwj _ w).alloc (zwi _) _
 rw [← hW0]
 clear hW0
 refine (jf b k 6 _ (HT.out.below g0) (by omega) (by omega) (by omega)).mono ?_
 rintro e w1 ⟨r, hr, rfl, ht1, hg1⟩
 have HG1 := zwg (World.grownBy.trans (zn g0 (some b)) hg1)
 have HT1 := zwg ht1
 have g2 : Hid (w1.heap[w.heap.size]? = some (.cells (dcells zu) 26 (0, 0))) := zwg ((hg1.block _ (by omega) (by simp; omega)).trans g1)
 have g4 : IntKind.u8.wrap (1 + (r : Int)) = 1 + (r : Int) := by rw [IntKind.wrap_u8]; omega
 have g5 : w.heap.size < w1.heap.size := Nat.lt_of_lt_of_le (by omega) hg1.size
 clear g1 g3 g0 ht1 hg1
 go_wp2_with (first | (refine wpList_store_row rfl _ _ _ rfl w.heap.size (dcells (dig1 (1 + (r : Int)))) rfl rfl 26 _ g2.out (by rw [vd]; rfl) rfl zgi ?_) | fail)
 refine bodyPost_ret (v := .agg (dcells (dig1 (1 + (r : Int))))) ?_ rfl ⟨r + 1, by omega, by omega, ?_, ?_, ?_⟩
 ·exact qr Tryz.results34 rfl (zbz rfl (setRow_heap w1 w.heap.size _ _ _ _ g2.out))
 ·rw [show (1 + (r : Int)) = ((r + 1 : Nat) : Int) by omega]
 ·refine Tape.grown HT1.out (row := some w.heap.size) ?_ (by simp; omega) (by intro b' e; cases e; omega)
  exact qc _ _ _
 ·exact za2 HG1.out (qc _ _ _) (zwi _)
theorem laidOutK : laidOutB Tryz.prog = true := by kernel_rfl
theorem zno : ∃ m, Tryz.prog.types.size = m + 2 := ⟨Tryz.prog.types.size - 2, by
  have h : decide (2 ≤ Tryz.prog.types.size) = true := by kernel_rfl
  have := of_decide_eq_true h
  omega⟩
theorem zl4 {α β : Type} {f : α -> Option β} {g : α -> β} : ∀ {l : List α}, (∀ x ∈ l, f x = some (g x)) -> l.mapM f = some (l.map g)
 | [], _ => rfl
 | a :: l, h => by
  rw [List.mapM_cons, h a (by simp), zl4 (fun x hx => h x (by simp [hx]))]
  rfl
theorem cells_u8 : Tryz.prog.cellsOf 5 = 1 := by kernel_rfl
theorem zhl : Tryz.prog.cellsOf 26 = 32 := by kernel_rfl
theorem zi6 : Tryz.prog.cellsOf 60 = 36 := by kernel_rfl
theorem zvr : Tryz.prog.cellsOf 3 = 1 := by kernel_rfl
theorem zu6 : Tryz.prog.cellsOf 9 = 1 := by kernel_rfl
def zbu (l : List Int) : List Lit := l.map fun n => Lit.int .u8 n
theorem zrm (l : List Int) : ((List.range l.length).map fun i => [Lit.int .u8 (l.getD i 0)]).flatten = zbu l := by
 unfold zbu
 apply List.ext_getElem?
 intro i
 have e : ∀ r : List Nat, (r.map fun i => [Lit.int .u8 (l.getD i 0)]).flatten = r.map fun i => Lit.int .u8 (l.getD i 0) := fun r => by
  induction r with
  | nil => rfl
  | cons a r ih => rw [List.map_cons, List.map_cons, List.flatten_cons, ih]; rfl
 rw [e, List.getElem?_map, List.getElem?_map]
 by_cases h : i < l.length
 ·rw [List.getElem?_range h, List.getElem?_eq_getElem h]
  simp [List.getD, List.getElem?_eq_getElem h]
 ·rw [List.getElem?_eq_none (by simpa using h), List.getElem?_eq_none (by omega)]
  rfl
theorem zgx (d : Nat) {l : List Int} (hl : l.length = 32) (hw : ∀ n ∈ l, (Lit.int .u8 n).wf = true) : Tryz.prog.keyLits (d + 2) 26 (zq l) = some (zbu l) := by
 have g0 : (zq l).length = 32 := by unfold zq; simp [hl]
 unfold Program.keyLits
 simp only [Tryz.underlying26]
 rw [if_pos (by rw [g0, zhl])]
 rw [zl4 (g := fun i => [Lit.int .u8 (l.getD i 0)]) (fun i hi => ?_)]
 ·rw [Option.map_some, ← zrm l, hl]
 ·have g1 : i < l.length := by rw [hl]; simpa using hi
  have e : ((zq l).drop (i * Tryz.prog.cellsOf 5)).take (Tryz.prog.cellsOf 5) = [Value.int .u8 (l.getD i 0)] := by
   rw [cells_u8, Nat.mul_one, List.drop_eq_getElem_cons (by rw [g0]; omega)]
   unfold zq
   simp [List.getD, List.getElem?_eq_getElem g1]
  rw [e]
  unfold Program.keyLits
  simp only [Tryz.underlying5]
  rw [if_pos ⟨by trivial, hw _ (by rw [List.getD_eq_getElem?_getD, List.getElem?_eq_getElem g1]; exact List.getElem_mem _)⟩]
def yt (c : V.Comp) : List Lit := .int .i64 c.par :: .int .i64 c.sch :: .string c.name :: .string c.ver :: zbu c.dig
theorem zci (d : Nat) {c : V.Comp} (h : CompWf c) : Tryz.prog.keyLits (d + 3) 60 (qu c) = some (yt c) := by
 have g1 : (qu c).length = 36 := by have := h.size; unfold ccells at this; simpa using this
 have hd := zgx d h.len h.dig
 have hn : (⟨c.name.toArray⟩ : ByteArray).size ≤ maxLen := by show c.name.toArray.size ≤ _; simpa using h.name
 have hv : (⟨c.ver.toArray⟩ : ByteArray).size ≤ maxLen := by show c.ver.toArray.size ≤ _; simpa using h.ver
 have k1 : ∀ n : Int, (Lit.int .i64 n).wf = true -> Tryz.prog.keyLits (d + 2) 3 [.int .i64 n] = some [.int .i64 n] := fun n hw => by
  unfold Program.keyLits
  simp only [Tryz.underlying3]
  rw [if_pos ⟨by trivial, hw⟩]
 have k2 : ∀ s : ByteArray, s.size ≤ maxLen -> Tryz.prog.keyLits (d + 2) 9 [.string s] = some [.string s.data.toList] := fun s hw => by
  unfold Program.keyLits
  simp only [Tryz.underlying9]
  rw [if_pos hw]
 have g0 : (zq c.dig).take 32 = zq c.dig := List.take_of_length_le (by unfold zq; simp [h.len])
 unfold Program.keyLits
 simp only [Tryz.underlying60]
 rw [if_pos ⟨by rw [g1, zi6], by decide +kernel⟩]
 have e4 : ((qu c).drop 4).take 32 = zq c.dig := g0
 simp only [List.mapM_cons, List.mapM_nil, zvr, zu6, zhl]
 rw [show ((qu c).drop 0).take 1 = [.int .i64 c.par] from rfl, show ((qu c).drop 1).take 1 = [.int .i64 c.sch] from rfl, show ((qu c).drop 2).take 1 = [.string ⟨c.name.toArray⟩] from rfl, show ((qu c).drop 3).take 1 = [.string ⟨c.ver.toArray⟩] from rfl, e4,
   k1 _ h.par, k1 _ h.sch, k2 _ hn, k2 _ hv, hd]
 simp [yt]
theorem ztz {l : List Int} (hl : l.length = 32) (hw : ∀ n ∈ l, (Lit.int .u8 n).wf = true) : keyOf Tryz.prog 26 (.agg (dcells l)) = some (.string (keyBytes (zbu l))) := by
 obtain ⟨m, hm⟩ := zno
 unfold keyOf
 simp only [Tryz.underlying26]
 rw [if_pos (by rw [Bool.and_eq_true]; exact ⟨by kernel_rfl, by simp [Value.formed, Tryz.underlying26, jr hl, zhl]⟩), hm]
 show Option.map _ (Tryz.prog.keyLits (m + 1 + 2) 26 (dcells l).toList) = _
 rw [show (dcells l).toList = zq l from rfl, zgx (m + 1) hl hw]
 rfl
theorem zfz {c : V.Comp} (h : CompWf c) : keyOf Tryz.prog 60 (.agg (ccells c)) = some (.string (keyBytes (yt c))) := by
 obtain ⟨m, hm⟩ := zno
 unfold keyOf
 simp only [Tryz.underlying60]
 rw [if_pos (by rw [Bool.and_eq_true]; exact ⟨by kernel_rfl, by simp [Value.formed, Tryz.underlying60, h.size, zi6]⟩), hm]
 show Option.map _ (Tryz.prog.keyLits (m + 3) 60 (ccells c).toList) = _
 rw [show (ccells c).toList = qu c from rfl, zci m h]
 rfl
theorem zht {a b : List Int} (h : zbu a = zbu b) : a = b := by
 unfold zbu at h
 exact List.map_inj_right (fun x y e => by injection e) |>.1 h
theorem zfy {a b : V.Comp} (h : yt a = yt b) : a = b := by
 unfold yt at h
 simp only [List.cons.injEq, Lit.int.injEq, Lit.string.injEq, true_and] at h
 obtain ⟨h1, h2, h3, h4, h5⟩ := h
 have := zht h5
 cases a; cases b
 simp_all
theorem z0m {P : Prop} (h : P := by
 by_cases h : a = b
 ·rw [this.2 h]; simp [h]
 ·rcases r with _ | _
  ·simp [h]
  ·exact absurd (this.1 rfl) h) : P := h
theorem eq_comp {a b : V.Comp} (ha : CompWf a) (hb : CompWf b) (w : World) : (Op.equalIn 10000 60 (.agg (ccells a)) (.agg (ccells b))).run Tryz.prog w = .ok (decide (a = b)) w := by
 obtain ⟨r, hr, g0⟩ := run_equal_deep (P := Tryz.prog) w (m := 20) (by decide) (k := 60) (by kernel_rfl) (by kernel_rfl) (zfz ha) (zfz hb)
 have : (r = true ↔ a = b) := by
  rw [g0]
  constructor
  ·intro e
   obtain ⟨m, hm⟩ := zno
   exact zfy (keyLits_inj (zci 0 ha) (zci 0 hb) (by simpa using e))
  ·intro e; rw [e]
 have e : r = decide (a = b) := by
  exact z0m
 rw [e] at hr
 exact hr
theorem zrv {a b : List Int} (ha : a.length = 32) (wa : ∀ n ∈ a, (Lit.int .u8 n).wf = true) (hb : b.length = 32) (wb : ∀ n ∈ b, (Lit.int .u8 n).wf = true) (w : World) :
  (Op.equalIn 10000 26 (.agg (dcells a)) (.agg (dcells b))).run Tryz.prog w = .ok (decide (a = b)) w := by
 obtain ⟨r, hr, g0⟩ := run_equal_deep (P := Tryz.prog) w (m := 20) (by decide) (k := 26) (by kernel_rfl) (by kernel_rfl) (ztz ha wa) (ztz hb wb)
 have : (r = true ↔ a = b) := by
  rw [g0]
  constructor
  ·intro e
   exact zht (keyLits_inj (zgx 0 ha wa) (zgx 0 hb wb) (by simpa using e))
  ·intro e; rw [e]
 have e : r = decide (a = b) := by
  exact z0m
 rw [e] at hr
 exact hr
theorem zk9 {P : Program} {ops : Array Oper} {rest : List Oper} {o : Oper} {a : Act} {w : World} {Q : Exit -> Act -> World -> Prop} (g0 : o.guard = none) (T T2 : TypeId) (x y : Operand) (ho : o.op = .binOp .eql T x y T2)
  (xs ys : Array Value) (hx : a.eval x = .agg xs) (hy : a.eval y = .agg ys) (hm : P.eqGuardType P.depth T = false) (r : Bool) (hr : (Op.equalIn 10000 T (.agg xs) (.agg ys)).run P w = .ok r w)
  (h : wpList P ops Q rest (a.put o.dst (.bool r)) w) : wpList P ops Q (o :: rest) a w := by
 refine wpList_plain g0 fun K hK => ?_
 unfold Oper.wp execOp
 simp only [ho, hx, hy, Sem.run_bind, run_eqGuard_agg w .eql T x y xs ys hm, Result.andThen_ok, run_eql_struct, hr, Sem.run_pure]
 exact hK _ _ h
theorem zr3 : Tryz.prog.eqGuardType Tryz.prog.depth 60 = false := by kernel_rfl
theorem wg : Tryz.prog.eqGuardType Tryz.prog.depth 26 = false := by kernel_rfl
open Go.RowKit
def icells (d : List Int) (time : Int) (v : Value) : Array Value := (zq d ++ [.int .i64 time, v]).toArray
theorem zom (w : World) (t : TypeId) {d : List Int} (time : Int) (v : Value) (hd : d.length = 32) : (w.alloc (.cells (icells d time v) t)).rangeAt w.heap.size 0 (zq d) := fun j u hj => by
 rw [Nat.zero_add, World.cell?_alloc_new]
 unfold icells
 have : j < (zq d).length := (List.getElem?_eq_some_iff.1 hj).1
 rw [List.getElem?_toArray, List.getElem?_append_left this]
 exact hj
def Comps (w : World) (v : Value) (l : List V.Comp) : Prop :=
 ∃ a cap, v = .slice a l.length cap /\ ∀ j (h : j < l.length), CompWf l[j] /\ ∃ b off, a = some ⟨b, off, none⟩ /\ b < w.heap.size /\ w.rangeAt b (off + j * 36) (qu l[j])
theorem Comps.nil (w : World) : Comps w (.slice none 0 0) [] := ⟨none, 0, rfl, fun j h => by simp at h⟩
theorem Comps.below {w w' : World} {v : Value} {l : List V.Comp} (h : Comps w v l) (hb : Below w.heap.size w w') : Comps w' v l := by
 obtain ⟨a, cap, e, hc⟩ := h
 refine ⟨a, cap, e, fun j hj => ?_⟩
 obtain ⟨hw, b, off, ea, hlt, hr⟩ := hc j hj
 exact ⟨hw, b, off, ea, Nat.lt_of_lt_of_le hlt hb.size, zk hr hb⟩
theorem Comps.at {w : World} {a : Option Addr} {n cap : Nat} {l : List V.Comp} (h : Comps w (.slice a n cap) l) (j : Nat) (hj : j < l.length) :
  CompWf l[j] /\ ∃ b off, a = some ⟨b, off, none⟩ /\ b < w.heap.size /\ w.rangeAt b (off + j * 36) (qu l[j]) := by
 obtain ⟨a', c, e, hc⟩ := h
 cases e
 exact hc j hj
theorem zmm {P : Program} {ops : Array Oper} {rest : List Oper} {o : Oper} {a : Act} {w : World} {Q : Exit -> Act -> World -> Prop} (hw : Region.wanted o (yielded ops a.tmps) = true)
  (h : ∀ K : Act -> World -> Prop, (∀ a w, wpList P ops Q rest a w -> K a w) -> o.wp P a w K Q) : wpList P ops Q (o :: rest) a w :=
 wpList_step fun K hK => by rw [if_pos hw]; exact h K hK
theorem ztm {ops : Array Oper} {rest : List Oper} {o : Oper} {a : Act} {w : World} {Q : Exit -> Act -> World -> Prop} (hw : Region.wanted o (yielded ops a.tmps) = true) (x : Operand) (ho : o.op = .load 60 x)
  (b off : Nat) (hx : a.eval x = .pointer (some ⟨b, off, none⟩)) (c : V.Comp) (hc : CompWf c) (hr : w.rangeAt b off (qu c))
  (h : wpList Tryz.prog ops Q rest (a.put o.dst (.agg (ccells c))) w) : wpList Tryz.prog ops Q (o :: rest) a w :=
 zmm hw fun K hK => by
  obtain ⟨d, hu, hd⟩ := zi0
  exact wp_load_mid _ x ho b off hx (qu c) d hr hu hd (by rw [zb9]; have := hc.size; unfold ccells at this; simp at this; rw [this]) (hK _ _ h)
def CMap (w : World) (b n : Nat) (l : List V.Comp) : Prop :=
 ∃ D : DataW Unit, w.ownsMap Tryz.prog 60 (Go.plainElem Tryz.prog 4) b n D /\ (∃ es, D = .map es) /\ ∀ c, CompWf c -> D.atKey (.string (keyBytes (yt c))) (.lit (.bool false)) = .lit (.bool (decide (c ∈ l)))
theorem zqm : Go.Maps.Keyed Tryz.prog 60 := by
 refine Go.Maps.Keyed.of_law (deep_law_gate laidOutK ?_ ?_ ?_ ?_)
 ·exact of_decide_eq_true (by kernel_rfl)
 ·exact of_decide_eq_true (by kernel_rfl)
 ·kernel_rfl
 ·kernel_rfl
theorem zvk (w : World) : (zeroValue 4).run Tryz.prog w = .ok (.bool false) w := by kernel_rfl
theorem CMap.made (w : World) : CMap (w.alloc (.map #[] 0)) w.heap.size 0 [] :=
 ⟨.map [], World.ownsMap_made _ _ _ _, ⟨[], rfl⟩, fun c _ => by simp [DataW.atKey]⟩
theorem CMap.kept {w w' : World} {b n : Nat} {l : List V.Comp} (h : CMap w b n l) (hb : Below w.heap.size w w') : CMap w' b n l := by
 obtain ⟨D, h1, h2, h3⟩ := h
 exact ⟨D, h1.kept (row := none) ⟨hb.os, hb.tape, hb.output, hb.size, fun k hk _ => hb.block k hk⟩ (by simp), h2, h3⟩
theorem zni {a b : V.Comp} (ha : CompWf a) (hb : CompWf b) (h : Lit.string (keyBytes (yt a)) = .string (keyBytes (yt b))) : a = b :=
 zfy (keyLits_inj (zci 0 ha) (zci 0 hb) (by simpa using h))
theorem zvt {v : Value} {z : DataW Unit × List MemPlace} (h : Go.plainElem Tryz.prog 4 v = some z) : ∃ x, v = .bool x /\ z = (.lit (.bool x), []) := by
 unfold Go.plainElem at h
 rw [Tryz.underlying4] at h
 cases v <;> simp at h
 exact ⟨_, rfl, h.symm⟩
theorem CMap.look {w : World} {b n : Nat} {l : List V.Comp} (h : CMap w b n l) {c : V.Comp} (hc : CompWf c) : (Instr.lookup 105 (.map (some b)) (.agg (ccells c)) false).run Tryz.prog w = .ok (.bool (decide (c ∈ l))) w := by
 obtain ⟨D, h1, _, h3⟩ := h
 obtain ⟨v, ps, g0, hv⟩ := h1.lookup zqm Tryz.underlying105 (zvk w) (Go.plainElem_bool Tryz.underlying4 false) (zfz hc)
 obtain ⟨x, rfl, hz⟩ := zvt hv
 rw [g0]
 have := (Prod.mk.inj hz).1
 rw [h3 c hc] at this
 injection this with this
 injection this with this
 rw [this]
theorem zlq {ops : Array Oper} {rest : List Oper} {o : Oper} {a : Act} {w : World} {Q : Exit -> Act -> World -> Prop} (hw : Region.wanted o (yielded ops a.tmps) = true) (m x : Operand) (ho : o.op = .lookup 105 m x false)
  (b n : Nat) (l : List V.Comp) (hm : a.eval m = .map (some b)) (g0 : CMap w b n l) (c : V.Comp) (hc : CompWf c) (hx : a.eval x = .agg (ccells c))
  (h : wpList Tryz.prog ops Q rest (a.put o.dst (.bool (decide (c ∈ l)))) w) : wpList Tryz.prog ops Q (o :: rest) a w :=
 zmm hw fun K hK => by
  unfold Oper.wp
  simp [execOp, ho, hm, hx, g0.look hc, Result.andThen]
  exact hK _ _ h
theorem zu9 {ops : Array Oper} {rest : List Oper} {o : Oper} {a : Act} {w : World} {Q : Exit -> Act -> World -> Prop} (hg : o.guard = none) (m x v : Operand) (ho : o.op = .mapUpdate 105 m x v)
  (b n : Nat) (l : List V.Comp) (hm : a.eval m = .map (some b)) (g3 : CMap w b n l) (hn : n < maxLen) (c : V.Comp) (hc : CompWf c) (hx : a.eval x = .agg (ccells c)) (hv : a.eval v = .bool true)
  (h : ∀ w', CMap w' b (n + 1) (l ++ [c]) -> w.grownBy w' (some b) -> wpList Tryz.prog ops Q rest (a.put o.dst undef) w') : wpList Tryz.prog ops Q (o :: rest) a w := by
 obtain ⟨D, h1, ⟨es, he⟩, h3⟩ := g3
 refine wpList_mapUpdate_own w hg m x v 105 ho 60 4 zqm Tryz.underlying105 (Go.plainElem Tryz.prog 4) b n D hm h1 hn _ _ _ hx hv (zfz hc) (.lit (.bool true)) [] (Go.plainElem_bool Tryz.underlying4 true) ?_
 intro w' g1 g2
 refine h w' ⟨_, g1, Go.Maps.IsMap.put ⟨es, he⟩ _ _, fun c' g0 => ?_⟩ g2
 by_cases e : c' = c
 ·subst e
  rw [Go.Maps.atKey_put_same (k := Lit.string (keyBytes (yt c'))) ⟨es, he⟩ trivial]
  simp
 ·rw [Go.Maps.atKey_put_other (fun g => e (zni g0 hc g)), h3 c' g0]
  congr 2
  simp [e]
end Go.Proofs.YtbikeahmldobkaaGreatDoor
