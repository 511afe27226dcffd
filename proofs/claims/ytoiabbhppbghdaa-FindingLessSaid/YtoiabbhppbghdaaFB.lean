/-
  Findings as values; open, Worst.
-/
import Derived.Test.YtoiabbhppbghdaaFA
import Derived.Test.YtoiabbhppbghdaaIF
namespace Go.Proofs.Ytoiabbhppbghdaa
open Go.RowKit

namespace V
/-- a finding -/
structure Fnd where
  inv : List Int
  comp : Int
  id : Bs
  sev : Int
  docs : List (List Int)
  st : Int
  ddocs : List (List Int)
  con : Bool
def isOpen (st : Int) : Bool := st == 3 || st == 4
def worstStep (s : Int × Bool) (f : Fnd) : Int × Bool := if isOpen f.st && (!s.2 || decide (s.1 < f.sev)) then (f.sev, true) else s
def worstTo (l : List Fnd) (k : Nat) : Int × Bool := (l.take k).foldl worstStep (0, false)
def worst (l : List Fnd) : Int := (worstTo l l.length).1
theorem worstTo_step {l : List Fnd} {k : Nat} (h : k < l.length) : worstTo l (k + 1) = worstStep (worstTo l k) l[k] := by
  unfold worstTo
  rw [List.take_succ_eq_append_getElem h, List.foldl_append]
  rfl
def openL (l : List Fnd) (sev : Int) : List Fnd := l.filter fun f => isOpen f.st && decide (sev ≤ f.sev)
end V

/-- a finding with the slices that it holds -/
structure FV where
  f : V.Fnd
  dv : Value
  ev : Value
def fl (x : FV) : List Value := dcellsL x.f.inv ++ [.int .i64 x.f.comp, .string ⟨x.f.id.toArray⟩, .int .i64 x.f.sev, x.dv, .int .i64 x.f.st, x.ev, .bool x.f.con]
def fcells (x : FV) : Array Value := (fl x).toArray
structure FOk (w : World) (x : FV) : Prop where
  inv : DigOk x.f.inv
  docs : Digs w x.dv x.f.docs
  ddocs : Digs w x.ev x.f.ddocs
  few : x.f.docs.length ≤ 1000
  dfew : x.f.ddocs.length ≤ 1000
  id : x.f.id.length ≤ 100
theorem FOk.below {w w' : World} {x : FV} (h : FOk w x) (hb : Below w.heap.size w w') : FOk w' x := ⟨h.inv, h.docs.below hb, h.ddocs.below hb, h.few, h.dfew, h.id⟩
theorem FOk.grow {w w' : World} {x : FV} (h : FOk w x) {row : Option Nat} (hg : w.grownBy w' row) (hr : ∀ b, row = some b → ∃ cs t fr, w.heap[b]? = some (.cells cs t fr) ∧ t ≠ 24) : FOk w' x := ⟨h.inv, h.docs.grow hg hr, h.ddocs.grow hg hr, h.few, h.dfew, h.id⟩
theorem fl_len {x : FV} (h : DigOk x.f.inv) : (fl x).length = 39 := by unfold fl; rw [List.length_append, dL_len h]; rfl
theorem fcells_size {x : FV} (h : DigOk x.f.inv) : (fcells x).size = 39 := by unfold fcells; rw [List.size_toArray, fl_len h]
theorem fcells_at {x : FV} (h : DigOk x.f.inv) (i : Nat) : (fcells x)[32 + i]? = [Value.int .i64 x.f.comp, .string ⟨x.f.id.toArray⟩, .int .i64 x.f.sev, x.dv, .int .i64 x.f.st, x.ev, .bool x.f.con][i]? := by
  unfold fcells fl
  rw [List.getElem?_toArray, List.getElem?_append_right (by rw [dL_len h]; omega), dL_len h, Nat.add_sub_cancel_left]
theorem fl_one {w : World} {x : FV} (h : FOk w x) : ∀ u ∈ fl x, u.oneCell' = true := by
  intro u hu
  have h1 := h.docs.one
  have h2 := h.ddocs.one
  unfold fl dcellsL at hu
  simp at hu
  rcases hu with ⟨n, _, rfl⟩ | rfl | rfl | rfl | rfl | rfl | rfl | rfl <;> first | rfl | exact h1 | exact h2
theorem findInfo : (Try.prog.info? 64).map (·.size) = some 39 := by kernel_rfl
theorem findRow : ∃ d, Try.prog.underlying 64 = some d ∧ d.isRow = true := ⟨_, Try.underlying64, rfl⟩
/-- at the operation: a finding loaded -/
theorem wl_loadF {ops : Array Oper} {rest : List Oper} {o : Oper} {a : Act} {w : World} {Q : Exit → Act → World → Prop} (hgd : o.guard = none) (y : Operand) (ho : o.op = .load 64 y)
    (g off : Nat) (hy : a.eval y = .pointer (some ⟨g, off, none⟩)) (x : FV) (hx : DigOk x.f.inv) (hr : w.rangeAt g off (fl x))
    (h : wpList Try.prog ops Q rest (a.put o.dst (.agg (fcells x))) w) : wpList Try.prog ops Q (o :: rest) a w := by
  obtain ⟨d, hu, hd⟩ := findRow
  exact wpList_load_mid hgd _ y ho g off hy (fl x) d hr hu hd (by rw [findInfo, fl_len hx]) h
theorem find_range {x : FV} {w : World} {g : Nat} {T : TypeId} (hg : w.heap[g]? = some (.cells (fcells x) T (0, 0))) : w.rangeAt g 0 (fl x) := fun i u hu => by
  rw [Nat.zero_add, cell_of_row w g i _ _ _ hg]
  unfold fcells
  simpa using hu
/-- at the operation: a finding stored into a new block -/
theorem wl_storeF {ops : Array Oper} {rest : List Oper} {o : Oper} {a : Act} {w : World} {Q : Exit → Act → World → Prop} (hgd : o.guard = none) (p y : Operand) (ho : o.op = .store 64 p y)
    (old : Array Value) (t : TypeId) (hp : a.eval p = .pointer (some ⟨w.heap.size, 0, none⟩)) (x : FV) (hx : DigOk x.f.inv) (hone : ∀ u ∈ fl x, u.oneCell' = true) (hy : a.eval y = .agg (fcells x)) (ho39 : old.size = 39)
    (h : wpList Try.prog ops Q rest (a.put o.dst undef) (w.alloc (.cells (fcells x) t))) : wpList Try.prog ops Q (o :: rest) a (w.alloc (.cells old t)) := by
  refine wpList_store_row hgd _ p y ho w.heap.size (fcells x) hp hy t old (heap_alloc_new w _) (by rw [findInfo, fcells_size hx]) (by rw [ho39, fcells_size hx]) (all_oneCell_toArray hone) ?_
  rw [set_new]; exact h

/-- a slice of findings -/
def Finds (w : World) (v : Value) (xs : List FV) : Prop :=
  ∃ a cap, v = .slice a xs.length cap ∧ ∀ j (h : j < xs.length), FOk w xs[j] ∧ ∃ g off, a = some ⟨g, off, none⟩ ∧ g < w.heap.size ∧ w.rangeAt g (off + j * 39) (fl xs[j])
theorem Finds.nil (w : World) : Finds w (.slice none 0 0) [] := ⟨none, 0, rfl, fun j h => by simp at h⟩
theorem Finds.below {w w' : World} {v : Value} {xs : List FV} (h : Finds w v xs) (hb : Below w.heap.size w w') : Finds w' v xs := by
  obtain ⟨a, cap, e, hc⟩ := h
  refine ⟨a, cap, e, fun j hj => ?_⟩
  obtain ⟨hw, b, off, ea, hlt, hr⟩ := hc j hj
  exact ⟨hw.below hb, b, off, ea, Nat.lt_of_lt_of_le hlt hb.size, rangeAt_below hr hb⟩

set_option maxRecDepth 100000 in
theorem open_any (x : FV) (w : World) (hx : DigOk x.f.inv) :
    Calls Try.prog 25 #[.agg (fcells x)] w fun e w' => e = .returned (.bool (V.isOpen x.f.st)) ∧ Below w.heap.size w w' := by
  have hb := (Below.refl w.heap.size w).alloc (Nat.le_refl _) (.cells (fcells x) 64)
  have hc : (w.alloc (.cells (fcells x) 64)).cell? ⟨w.heap.size, 36, none⟩ = some (.int .i64 x.f.st) := by
    rw [World.cell?_alloc_new]
    exact fcells_at hx 4
  have HB := Lib.hid hb
  clear hb
  obtain ⟨s, hs⟩ : ∃ s, s = x.f.st := ⟨_, rfl⟩
  rw [← hs] at hc ⊢
  generalize fcells x = cs at *
  clear hs hx
  go_enter Try.func25, Try.ntmps25
  rcases h3 : (s == 3) with _ | _
  · have HO : Hid (V.isOpen s = (s == 4)) := Lib.hid (by unfold V.isOpen; rw [h3]; rfl)
    rw [HO.out]
    go_wp2
    go_ret
    exact ⟨rfl, HB.out⟩
  · have HO : Hid (V.isOpen s = true) := Lib.hid (by unfold V.isOpen; rw [h3]; rfl)
    rw [HO.out]
    go_wp2
    go_ret
    exact ⟨rfl, HB.out⟩

set_option maxRecDepth 100000 in
set_option maxHeartbeats 1600000 in
theorem worst_any (v : Value) (xs : List FV) (w : World) (hv : Finds w v xs) (hl : xs.length ≤ 1000000) :
    Calls Try.prog 11 #[v] w fun e w' => e = .returned (.int .i64 (V.worst (xs.map FV.f))) ∧ Below w.heap.size w w' := by
  obtain ⟨va, vc, rfl, hat⟩ := hv
  have HA := Lib.hid hat
  clear hat
  go_enter Try.func11, Try.ntmps11
  go_wp2
  go_loopw [3, 4, 9] (fun mv bv jv wx => ∃ k : Nat, k ≤ xs.length ∧ jv = .int .i64 k ∧ mv = .int .i64 (V.worstTo (xs.map FV.f) k).1 ∧ bv = .bool (V.worstTo (xs.map FV.f) k).2 ∧ Below w.heap.size w wx) (fun _ _ jv _ => xs.length - (intOf jv).toNat)
  case atStart => exact ⟨0, Nat.zero_le _, rfl, rfl, rfl, Below.refl _ _⟩
  case round =>
    obtain ⟨k, hk, rfl, rfl, rfl, hbx⟩ := hrel
    have HBX := Lib.hid hbx
    clear hbx
    by_cases hlt : k < xs.length
    · obtain ⟨hok, g, off, rfl, hgl, hr⟩ := HA.out k hlt
      have HST : Hid (V.worstTo (xs.map FV.f) (k + 1) = V.worstStep (V.worstTo (xs.map FV.f) k) xs[k].f) := Lib.hid (by rw [V.worstTo_step (by simpa using hlt)]; simp)
      have HR := Lib.hid (rangeAt_below hr HBX.out)
      have HD := Lib.hid hok.inv
      have HON := Lib.hid (fl_one hok)
      have hi1 : (0 : Int) ≤ (k : Int) := by omega
      have hi2 : (k : Int) < (xs.length : Int) := by omega
      clear hok hr
      generalize xs[k] = x at *
      have hb1 : Below wr.heap.size wr (wr.alloc (.cells (fcells x) 64)) := (Below.refl _ wr).alloc (Nat.le_refl _) _
      have HB1 := Lib.hid (HBX.out.trans (hb1.mono HBX.out.size))
      have HG1 : Hid ((wr.alloc (.cells (fcells x) 64)).heap[wr.heap.size]? = some (.cells (fcells x) 64 (0, 0))) := Lib.hid (heap_alloc_new wr _)
      have hz1 : wr.heap.size < (wr.alloc (.cells (fcells x) 64)).heap.size := by simp
      clear hb1
      generalize V.worstTo (xs.map FV.f) k = s at *
      obtain ⟨m, b⟩ := s
      simp only at HST ⊢
      go_wp2_with (first | (refine wl_loadF rfl _ rfl g (off + k * 39) rfl x HD.out HR.out ?_) | (refine wl_storeF rfl _ _ rfl _ _ rfl x HD.out HON.out rfl rfl ?_; generalize wr.alloc (.cells (fcells x) 64) = w1 at *; generalize wr.heap.size = X at *) | (refine wl_loadF rfl _ rfl X 0 rfl x HD.out (find_range HG1.out) ?_) | fail)
      refine (open_any x w1 HD.out).mono ?_
      rintro e w2 ⟨rfl, hb2⟩
      have HB2 := Lib.hid (HB1.out.trans (hb2.mono HB1.out.size))
      have hc : w2.cell? ⟨X, 34, none⟩ = some (.int .i64 x.f.sev) := by
        rw [cell_of_row w2 X 34 _ _ _ ((hb2.block X hz1).trans HG1.out)]
        exact fcells_at HD.out 2
      clear hb2 hz1 HG1
      rcases hop : V.isOpen x.f.st with _ | _
      · have HN : Hid (V.worstTo (xs.map FV.f) (k + 1) = (m, b)) := Lib.hid (by rw [HST.out]; unfold V.worstStep; rw [hop]; rfl)
        clear hop HST
        go_wp2
        go_roundw
        case rel => exact ⟨k + 1, by omega, by go_num, by rw [HN.out], by rw [HN.out], HB2.out⟩
        case measure => simp [intOf]; omega
      · rcases b with _ | _
        · have HN : Hid (V.worstTo (xs.map FV.f) (k + 1) = (x.f.sev, true)) := Lib.hid (by rw [HST.out]; unfold V.worstStep; rw [hop]; rfl)
          clear hop HST
          go_wp2
          go_roundw
          case rel => exact ⟨k + 1, by omega, by go_num, by rw [HN.out], by rw [HN.out], HB2.out⟩
          case measure => simp [intOf]; omega
        · by_cases hs : m < x.f.sev
          · have HN : Hid (V.worstTo (xs.map FV.f) (k + 1) = (x.f.sev, true)) := Lib.hid (by rw [HST.out]; unfold V.worstStep; rw [hop, decide_eq_true hs]; rfl)
            clear hop HST
            go_wp2
            go_roundw
            case rel => exact ⟨k + 1, by omega, by go_num, by rw [HN.out], by rw [HN.out], HB2.out⟩
            case measure => simp [intOf]; omega
          · have HN : Hid (V.worstTo (xs.map FV.f) (k + 1) = (m, true)) := Lib.hid (by rw [HST.out]; unfold V.worstStep; rw [hop, decide_eq_false hs]; rfl)
            clear hop HST
            go_wp2
            go_roundw
            case rel => exact ⟨k + 1, by omega, by go_num, by rw [HN.out], by rw [HN.out], HB2.out⟩
            case measure => simp [intOf]; omega
    · obtain rfl : k = xs.length := by omega
      have HW : Hid (V.worst (xs.map FV.f) = (V.worstTo (xs.map FV.f) xs.length).1) := Lib.hid (by unfold V.worst; rw [List.length_map])
      go_wp2
      go_ret
      exact ⟨by rw [HW.out]; rfl, HBX.out⟩
end Go.Proofs.Ytoiabbhppbghdaa
