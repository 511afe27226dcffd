/-
  Walk: the maker finding.
-/
import Derived.Test.YtoiabbhppbghdaaFE
import Derived.Test.YtoiabbhppbghdaaJH
namespace Go.Proofs.Ytoiabbhppbghdaa
open Go.RowKit

/-- a block's row behind a range stored -/
theorem setCells_row {g : Nat} {t : TypeId} {fr : Nat × Nat} : ∀ (vs : List Value) (o : Nat) (w : World) (cs : Array Value), w.heap[g]? = some (.cells cs t fr) →
    ∃ cs', (w.setCells g o vs).heap[g]? = some (.cells cs' t fr) ∧ cs'.size = cs.size ∧ ∀ i, cs'[i]? = if o ≤ i ∧ i < o + vs.length ∧ i < cs.size then vs[i - o]? else cs[i]?
  | [], o, w, cs, h => ⟨cs, h, rfl, fun i => by rw [if_neg (by simp; omega)]⟩
  | v :: r, o, w, cs, h => by
    obtain ⟨cs', h1, h2, h3⟩ := setCells_row r (o + 1) _ _ (setCell_heap o v h)
    refine ⟨cs', h1, by rw [h2]; simp, fun i => ?_⟩
    rw [h3]
    simp only [Array.size_setIfInBounds, List.length_cons]
    by_cases hi : i = o
    · subst hi
      rw [if_neg (by omega), Array.getElem?_setIfInBounds]
      by_cases hs : i < cs.size
      · rw [if_pos rfl, if_pos hs, if_pos ⟨by omega, by omega, hs⟩]
        simp
      · rw [if_pos rfl, if_neg hs, if_neg (by omega)]
        exact (Array.getElem?_eq_none (by omega)).symm
    · by_cases hb : o + 1 ≤ i ∧ i < o + 1 + r.length ∧ i < cs.size
      · rw [if_pos hb, if_pos (by omega), show i - o = (i - (o + 1)) + 1 by omega]
        rfl
      · rw [if_neg hb, if_neg (by omega), Array.getElem?_setIfInBounds_ne (by omega)]
def zeroF : FV := ⟨⟨zero32, 0, [], 0, [], 0, [], false⟩, .slice none 0 0, .slice none 0 0⟩
theorem zero_find : (#[.int .u8 0, Value.int .u8 0, Value.int .u8 0, Value.int .u8 0, Value.int .u8 0, Value.int .u8 0, Value.int .u8 0, Value.int .u8 0, Value.int .u8 0, Value.int .u8 0, Value.int .u8 0, Value.int .u8 0, Value.int .u8 0, Value.int .u8 0, Value.int .u8 0, Value.int .u8 0, Value.int .u8 0, Value.int .u8 0, Value.int .u8 0, Value.int .u8 0, Value.int .u8 0, Value.int .u8 0, Value.int .u8 0, Value.int .u8 0, Value.int .u8 0, Value.int .u8 0, Value.int .u8 0, Value.int .u8 0, Value.int .u8 0, Value.int .u8 0, Value.int .u8 0, Value.int .u8 0, .int .i64 0, .string ⟨#[]⟩, .int .i64 0, .slice none 0 0, .int .i64 0, .slice none 0 0, .bool false] : Array Value) = fcells zeroF := rfl
theorem dig_lit (n : Int) : (#[.int .u8 n, Value.int .u8 0, Value.int .u8 0, Value.int .u8 0, Value.int .u8 0, Value.int .u8 0, Value.int .u8 0, Value.int .u8 0, Value.int .u8 0, Value.int .u8 0, Value.int .u8 0, Value.int .u8 0, Value.int .u8 0, Value.int .u8 0, Value.int .u8 0, Value.int .u8 0, Value.int .u8 0, Value.int .u8 0, Value.int .u8 0, Value.int .u8 0, Value.int .u8 0, Value.int .u8 0, Value.int .u8 0, Value.int .u8 0, Value.int .u8 0, Value.int .u8 0, Value.int .u8 0, Value.int .u8 0, Value.int .u8 0, Value.int .u8 0, Value.int .u8 0, Value.int .u8 0] : Array Value) = dcells (dig1 n) := rfl
theorem dig1_ok {n : Int} (h0 : 0 ≤ n) (h1 : n ≤ 255) : DigOk (dig1 n) := ⟨rfl, by
  intro m hm
  rcases List.mem_cons.1 hm with rfl | hm
  · simp [Lit.wf, IntKind.min, IntKind.max, IntKind.signed, IntKind.bits]; omega
  · rw [(List.mem_replicate.1 hm).2]; decide⟩
/-- at the operation: a finding stored into a block -/
theorem wl_storeFat {ops : Array Oper} {rest : List Oper} {o : Oper} {a : Act} {w : World} {Q : Exit → Act → World → Prop} (hgd : o.guard = none) (p y : Operand) (ho : o.op = .store 64 p y)
    (g : Nat) (old : Array Value) (t : TypeId) (hg : w.heap[g]? = some (.cells old t (0, 0))) (hp : a.eval p = .pointer (some ⟨g, 0, none⟩)) (x : FV) (hx : DigOk x.f.inv) (hone : ∀ u ∈ fl x, u.oneCell' = true) (hy : a.eval y = .agg (fcells x)) (ho39 : old.size = 39)
    (h : wpList Try.prog ops Q rest (a.put o.dst undef) (w.setRow g (fcells x))) : wpList Try.prog ops Q (o :: rest) a w :=
  wpList_store_row hgd _ p y ho g (fcells x) hp hy t old hg (by rw [findInfo, fcells_size hx]) (by rw [ho39, fcells_size hx]) (all_oneCell_toArray hone) h
/-- at the operation: a decision stored into a finding -/
theorem wl_storeDec {ops : Array Oper} {rest : List Oper} {o : Oper} {a : Act} {w : World} {Q : Exit → Act → World → Prop} (hgd : o.guard = none) (p y : Operand) (ho : o.op = .store 62 p y)
    (g off : Nat) (u1 u2 u3 : Value) (hp : a.eval p = .pointer (some ⟨g, off, none⟩)) (hy : a.eval y = .agg #[u1, u2, u3]) (ht : w.there g off 3) (h1 : u1.oneCell' = true) (h2 : u2.oneCell' = true) (h3 : u3.oneCell' = true)
    (W : World) (hW : W = w.setCells g off [u1, u2, u3]) (h : wpList Try.prog ops Q rest (a.put o.dst undef) W) : wpList Try.prog ops Q (o :: rest) a w := by
  subst hW
  exact wpList_store_mid hgd _ p y ho g off #[u1, u2, u3] hp hy ht (by rw [decInfo]; rfl) (by simp [h1, h2, h3]) h
theorem fcells_dec {x : FV} (hx : DigOk x.f.inv) {w : World} {g : Nat} {t : TypeId} (hg : w.heap[g]? = some (.cells (fcells x) t (0, 0))) (st : Int) (ev : Value) (dd : List (List Int)) (con : Bool) :
    (w.setCells g 36 [.int .i64 st, ev, .bool con]).heap[g]? = some (.cells (fcells ⟨{ x.f with st := st, ddocs := dd, con := con }, x.dv, ev⟩) t (0, 0)) := by
  obtain ⟨⟨inv, comp, id, sev, docs, st0, dd0, con0⟩, dv, ev0⟩ := x
  obtain ⟨cs', h1, h2, h3⟩ := setCells_row [.int .i64 st, ev, .bool con] 36 w _ hg
  rw [h1]
  simp only at hx ⊢
  have e : cs' = fcells ⟨⟨inv, comp, id, sev, docs, st, dd, con⟩, dv, ev⟩ := by
    apply Array.ext_getElem?
    intro i
    rw [h3, fcells_size (x := ⟨⟨inv, comp, id, sev, docs, st0, dd0, con0⟩, dv, ev0⟩) hx]
    have hl : (dcellsL inv).length = 32 := dL_len hx
    by_cases hi : 36 ≤ i ∧ i < 39
    · rw [if_pos (by simp; omega)]
      show _ = (dcellsL inv ++ _).toArray[i]?
      rw [List.getElem?_toArray, List.getElem?_append_right (by omega), hl]
      rcases (show i = 36 ∨ i = 37 ∨ i = 38 by omega) with rfl | rfl | rfl <;> rfl
    · rw [if_neg (by simp; omega)]
      show (dcellsL inv ++ _).toArray[i]? = (dcellsL inv ++ _).toArray[i]?
      rw [List.getElem?_toArray, List.getElem?_toArray]
      by_cases h32 : i < 32
      · rw [List.getElem?_append_left (by omega), List.getElem?_append_left (by omega)]
      · rw [List.getElem?_append_right (by omega), List.getElem?_append_right (by omega), hl]
        by_cases h36 : i < 36
        · rcases (show i = 32 ∨ i = 33 ∨ i = 34 ∨ i = 35 by omega) with rfl | rfl | rfl | rfl <;> rfl
        · obtain ⟨q, rfl⟩ : ∃ q, i = 39 + q := ⟨i - 39, by omega⟩
          rw [show 39 + q - 32 = 7 + q by omega, List.getElem?_eq_none (by simp), List.getElem?_eq_none (by simp)]
  rw [e]
theorem fcells_ev {x : FV} (hx : DigOk x.f.inv) (ev : Value) (dd : List (List Int)) : (fcells x).setIfInBounds 37 ev = fcells ⟨{ x.f with ddocs := dd }, x.dv, ev⟩ := by
  have h32 := dL_len hx
  unfold fcells fl
  rw [List.setIfInBounds_toArray, List.set_append_right _ _ (by omega), h32]
  rfl
theorem one_digs {d : List Int} (h : DigOk d) {w : World} {g : Nat} (hg : w.heap[g]? = some (.cells (dcells d) 24 (0, 0))) : Digs w (.slice (some ⟨g, 0, none⟩) 1 1) [d] :=
  ⟨_, 1, rfl, fun j hj => by
    obtain rfl : j = 0 := by simpa using hj
    refine ⟨h, _, 0, rfl, ⟨_, _, hg⟩, fun i u hu => ?_⟩
    simp only [Nat.zero_mul, Nat.zero_add]
    rw [cell_of_row w g i _ _ _ hg]
    simpa [dcells] using hu⟩
/-- a slice whose block is one of the later ones -/
def Up (B : Nat) (v : Value) : Prop := ∀ g o n c, v = .slice (some ⟨g, o, none⟩) n c → B ≤ g
theorem Up.nil (B : Nat) : Up B (.slice none 0 0) := fun g o n c h => by cases h
theorem Up.mk {B g : Nat} (h : B ≤ g) (o n c : Nat) : Up B (.slice (some ⟨g, o, none⟩) n c) := fun g' o' n' c' e => by cases e; exact h
theorem Up.le {B B' : Nat} {v : Value} (h : Up B v) (hb : B' ≤ B) : Up B' v := fun g o n c e => Nat.le_trans hb (h g o n c e)
theorem Digs.grown {w w' : World} {v : Value} {l : List (List Int)} {b : Nat} (h : Digs w v l) (hg : w.grownBy w' (some b)) (hu : Up (b + 1) v) : Digs w' v l := by
  obtain ⟨a, cap, e, hc⟩ := h
  refine ⟨a, cap, e, fun j hj => ?_⟩
  obtain ⟨hw, b', off, ea, ⟨cs, fr, hb⟩, hra⟩ := hc j hj
  have hk : w'.heap[b']? = w.heap[b']? := hg.block b' (Array.getElem?_eq_some_iff.1 hb).1 (fun e' => by
    have := hu b' off _ _ (by rw [e, ea])
    cases e'
    omega)
  refine ⟨hw, b', off, ea, ⟨cs, fr, hk.trans hb⟩, fun i u hu => ?_⟩
  rw [World.cell?_of_block (a := ⟨b', off + j * 32 + i, none⟩) hk]
  exact hra i u hu
theorem FOk.grown {w w' : World} {x : FV} {b : Nat} (h : FOk w x) (hg : w.grownBy w' (some b)) (h1 : Up (b + 1) x.dv) (h2 : Up (b + 1) x.ev) : FOk w' x := ⟨h.inv, h.docs.grown hg h1, h.ddocs.grown hg h2, h.few, h.dfew, h.id⟩
theorem wl_build1D {ops : Array Oper} {rest : List Oper} {o : Oper} {a : Act} {w : World} {Q : Exit → Act → World → Prop} (hgd : o.guard = none) (e1 : Operand) (ho : o.op = .buildSlice 55 1 #[(0, e1)])
    (d : List Int) (hd : d.length = 32) (h1 : a.eval e1 = .agg (dcells d)) (W : World) (hW : W = w.alloc (.cells (dcells d) 24))
    (h : wpList Try.prog ops Q rest (a.put o.dst (.slice (some ⟨w.heap.size, 0, none⟩) 1 1)) W) : wpList Try.prog ops Q (o :: rest) a w := by
  subst hW
  obtain ⟨ie, z, hie, hz, hsz, _, _⟩ := digIE3
  refine wpList_buildSlice hgd _ 24 1 _ ho (dcells d) ie z Try.underlying55 hie hz (by rw [hsz]; decide) (by rw [hsz]; decide) ?_ h
  have := Great.fill_whole (s := 32) (by decide) [Value.agg (dcells d)] ((Array.range (1 * ie.size)).map (z.cells[· % z.cells.size]!)) (fun v hv => by
    rcases List.mem_cons.1 hv with rfl | hv
    · exact dcells_size hd
    · cases hv) (by rw [hsz]; simp)
  rw [hsz] at this ⊢
  simp only [h1, List.map_toArray, List.map_cons, List.map_nil]
  exact this.trans (by simp [Value.cells])
theorem there_find {x : FV} (hx : DigOk x.f.inv) {w : World} {g : Nat} {t : TypeId} (hg : w.heap[g]? = some (.cells (fcells x) t (0, 0))) : w.there g 36 3 := fun j hj => by
  refine ⟨?_, frozen_row hg⟩
  rw [cell_of_row w g _ _ _ _ hg, Array.getElem?_eq_getElem (by rw [fcells_size hx]; omega)]
  rfl
theorem loadVar_find {x : FV} (hx : DigOk x.f.inv) {w : World} {g : Nat} {t : TypeId} (hg : w.heap[g]? = some (.cells (fcells x) t (0, 0))) : (loadVar 64 ⟨g, 0, none⟩).run Try.prog w = .ok (.agg (fcells x)) w := by
  obtain ⟨d, hu, hd⟩ := findRow
  exact run_loadVar_row w g t _ (fcells x) (0, 0) d hg hu (by cases d <;> first | rfl | cases hd) (by rw [findInfo, fcells_size hx])
theorem fl_oneV {x : FV} (h1 : x.dv.oneCell' = true) (h2 : x.ev.oneCell' = true) : ∀ u ∈ fl x, u.oneCell' = true := by
  intro u hu
  unfold fl dcellsL at hu
  simp at hu
  rcases hu with ⟨n, _, rfl⟩ | rfl | rfl | rfl | rfl | rfl | rfl | rfl <;> first | rfl | exact h1 | exact h2
/-- a finding that is made -/
def findV (i c : Int) (id : V.Bs) (s d : Int) (D : Nat) : FV := ⟨⟨dig1 i, c, id, s, [dig1 d], 0, [], false⟩, .slice (some ⟨D, 0, none⟩) 1 1, .slice none 0 0⟩
def findD (i c : Int) (id : V.Bs) (s d : Int) (D : Nat) (st : Int) (con : Bool) : FV := ⟨⟨dig1 i, c, id, s, [dig1 d], st, [], con⟩, .slice (some ⟨D, 0, none⟩) 1 1, .slice none 0 0⟩
def findE (i c : Int) (id : V.Bs) (s d : Int) (D : Nat) (st : Int) (con : Bool) (e : Int) (E : Nat) : FV := ⟨⟨dig1 i, c, id, s, [dig1 d], st, [dig1 e], con⟩, .slice (some ⟨D, 0, none⟩) 1 1, .slice (some ⟨E, 0, none⟩) 1 1⟩

def FindPost (b k : Nat) (w : World) (e : Ending) (w' : World) : Prop :=
  ∃ x : FV, e = .returned (.agg (fcells x)) ∧ FOk w' x ∧ 1 ≤ x.f.sev ∧ x.f.sev ≤ 10 ∧ Up w.heap.size x.dv ∧ Up w.heap.size x.ev ∧ Tape w' b (k + 10) ∧ w.grownBy w' (some b)

set_option maxRecDepth 100000 in
set_option maxHeartbeats 6400000 in
theorem finding_any (b k : Nat) (w : World) (h : Tape w b k) (hk : k ≤ 10000) :
    Calls Try.prog 22 #[.pointer (some ⟨b, 0, none⟩)] w (FindPost b k w) := by
  have HT := Lib.hid h
  have hbw := h.lt
  clear h
  obtain ⟨W0, hW0⟩ : ∃ W0, W0 = w.alloc (.cells (fcells zeroF) 64) := ⟨_, rfl⟩
  have hg0 : W0.heap[w.heap.size]? = some (.cells (fcells zeroF) 64 (0, 0)) := by rw [hW0]; exact heap_alloc_new w _
  have hz0 : W0.heap.size = w.heap.size + 1 := by rw [hW0]; simp
  have hb0 : Below w.heap.size w W0 := by rw [hW0]; exact (Below.refl _ w).alloc (Nat.le_refl _) _
  have HZF : Hid (DigOk zeroF.f.inv) := Lib.hid ⟨rfl, by decide⟩
  go_enter Try.func22, Try.ntmps22
  go_wp2_with fail
  rw [zero_find, ← hW0]
  clear hW0
  refine (next_any b k 2 _ (HT.out.below hb0) (by omega) (by omega) (by omega)).mono ?_
  rintro e w1 ⟨r0, hr0, rfl, ht1, hg1⟩
  have HG1 := Lib.hid (World.grownBy.trans (below_grown hb0 (some b)) hg1)
  have HT1 := Lib.hid ht1
  have HR1 := Lib.hid ((hg1.block w.heap.size (by omega) (by simp; omega)).trans hg0)
  have hz1 : w.heap.size < w1.heap.size := Nat.lt_of_lt_of_le (by omega) hg1.size
  have hw0 : IntKind.u8.wrap (1 + (r0 : Int)) = 1 + (r0 : Int) := by rw [IntKind.wrap_u8]; omega
  clear hg0 hz0 hb0 ht1 hg1
  go_wp2_with fail
  clear hw0
  refine (next_any b (k + 1) 4 w1 HT1.out (by omega) (by omega) (by omega)).mono ?_
  rintro e w2 ⟨r1, hr1, rfl, ht2, hg2⟩
  have HG2 := Lib.hid (World.grownBy.trans HG1.out hg2)
  have HT2 := Lib.hid ht2
  have HR2 := Lib.hid ((hg2.block w.heap.size hz1 (by simp; omega)).trans HR1.out)
  have hz2 : w.heap.size < w2.heap.size := Nat.lt_of_lt_of_le hz1 hg2.size
  clear ht2 hg2 hz1 HG1 HT1 HR1
  go_wp2_with fail
  refine (idsOf_any w2).mono ?_
  rintro e w3 ⟨rfl, hw3⟩
  have hb3 : Below w2.heap.size w2 w3 := by rw [hw3]; exact (Below.refl _ w2).alloc (Nat.le_refl _) _
  have hs3 : w3.heap.size = w2.heap.size + 1 := by rw [hw3]; simp
  have HIC : Hid (∀ j, j < idNames.length → w3.cell? ⟨w2.heap.size, 0 + j, none⟩ = some (.string ⟨(idNames.getD j []).toArray⟩)) := Lib.hid (by
    intro j hj
    rw [hw3, Nat.zero_add, World.cell?_alloc_new]
    have hj3 : j < 3 := hj
    rcases (show j = 0 ∨ j = 1 ∨ j = 2 by omega) with rfl | rfl | rfl <;> rfl)
  have HG3 := Lib.hid (World.grownBy.trans HG2.out (below_grown hb3 (some b)))
  have HT3 := Lib.hid (HT2.out.below hb3)
  have HR3 := Lib.hid ((hb3.block w.heap.size hz2).trans HR2.out)
  have hz3 : w.heap.size < w3.heap.size := by omega
  clear hw3 hb3 HG2 HT2 HR2
  go_wp2_with fail
  refine (pick_any b (k + 1 + 1) w3 ⟨w2.heap.size, 0, none⟩ 3 idNames HT3.out (by omega) (by decide) (by decide) (by show w2.heap.size ≠ b; omega) rfl HIC.out).mono ?_
  rintro e w4 ⟨x, hx, rfl, ht4, hg4⟩
  have HXS := Lib.hid (ids_short x hx)
  have HG4 := Lib.hid (World.grownBy.trans HG3.out hg4)
  have HT4 := Lib.hid ht4
  have HR4 := Lib.hid ((hg4.block w.heap.size hz3 (by simp; omega)).trans HR3.out)
  have hz4 : w.heap.size < w4.heap.size := Nat.lt_of_lt_of_le hz3 hg4.size
  clear hx ht4 hg4 hz2 hz3 hs3 HG3 HT3 HR3 HIC
  go_wp2_with fail
  refine (next_any b (k + 1 + 1 + 1) 10 w4 HT4.out (by omega) (by omega) (by omega)).mono ?_
  rintro e w5 ⟨r2, hr2, rfl, ht5, hg5⟩
  have HG5 := Lib.hid (World.grownBy.trans HG4.out hg5)
  have HT5 := Lib.hid ht5
  have HR5 := Lib.hid ((hg5.block w.heap.size hz4 (by simp; omega)).trans HR4.out)
  have hz5 : w.heap.size < w5.heap.size := Nat.lt_of_lt_of_le hz4 hg5.size
  clear ht5 hg5 hz4 HG4 HT4 HR4
  go_wp2_with fail
  refine (next_any b (k + 1 + 1 + 1 + 1) 3 w5 HT5.out (by omega) (by omega) (by omega)).mono ?_
  rintro e w6 ⟨r3, hr3, rfl, ht6, hg6⟩
  have HG6 := Lib.hid (World.grownBy.trans HG5.out hg6)
  have HT6 := Lib.hid ht6
  have HR6 := Lib.hid ((hg6.block w.heap.size hz5 (by simp; omega)).trans HR5.out)
  have hz6 : w.heap.size < w6.heap.size := Nat.lt_of_lt_of_le hz5 hg6.size
  have hw3 : IntKind.u8.wrap (30 + (r3 : Int)) = 30 + (r3 : Int) := by rw [IntKind.wrap_u8]; omega
  clear ht6 hg6 hz5 HG5 HT5 HR5
  have HD0 : Hid (DigOk (dig1 (1 + (r0 : Int)))) := Lib.hid (dig1_ok (by omega) (by omega))
  have HD3 : Hid (DigOk (dig1 (30 + (r3 : Int)))) := Lib.hid (dig1_ok (by omega) (by omega))
  have HOK6 : Hid (x.length ≤ 100) := HXS
  have hbz : w.heap.size ≤ w6.heap.size := by omega
  obtain ⟨W6, hW6⟩ : ∃ W6, W6 = w6.alloc (.cells (dcells (dig1 (30 + (r3 : Int)))) 24) := ⟨_, rfl⟩
  have HW6 := Lib.hid hW6
  obtain ⟨W7, hW7⟩ : ∃ W7, W7 = W6.alloc (.cells (fcells (findV (1 + (r0 : Int)) r1 x (1 + (r2 : Int)) (30 + (r3 : Int)) w6.heap.size)) 64) := ⟨_, rfl⟩
  have hs6 : W6.heap.size = w6.heap.size + 1 := by rw [hW6]; simp
  have hs7 : W7.heap.size = W6.heap.size + 1 := by rw [hW7]; simp
  have hb6 : Below w6.heap.size w6 W6 := by rw [hW6]; exact (Below.refl _ w6).alloc (Nat.le_refl _) _
  have hb7 : Below W6.heap.size W6 W7 := by rw [hW7]; exact (Below.refl _ W6).alloc (Nat.le_refl _) _
  have hb67 : Below w6.heap.size w6 W7 := hb6.trans (hb7.mono (by omega))
  have HDD7 : Hid (W7.heap[w6.heap.size]? = some (.cells (dcells (dig1 (30 + (r3 : Int)))) 24 (0, 0))) := Lib.hid ((hb7.block _ (by omega)).trans (by rw [hW6]; exact heap_alloc_new w6 _))
  have HF7 : Hid (W7.heap[W6.heap.size]? = some (.cells (fcells (findV (1 + (r0 : Int)) r1 x (1 + (r2 : Int)) (30 + (r3 : Int)) w6.heap.size)) 64 (0, 0))) := Lib.hid (by rw [hW7]; exact heap_alloc_new W6 _)
  have HT7 := Lib.hid (HT6.out.below hb67)
  have HG7 := Lib.hid (World.grownBy.trans HG6.out (below_grown hb67 (some b)))
  have HR7 := Lib.hid ((hb67.block w.heap.size hz6).trans HR6.out)
  have HW7 := Lib.hid hW7
  have HS6 := Lib.hid hs6
  have HS7 := Lib.hid hs7
  clear hb6 hb7 hb67 hW6 hW7 HT6 HG6 HR6 hs6 hs7
  rw [dig_lit (1 + (r0 : Int))]
  go_wp2_with (first | (refine wpList_buildTo rfl 24 _ rfl _ rfl (dcells (dig1 (30 + (r3 : Int)))) (by kernel_rfl) ?_) | (refine wl_build1D rfl _ rfl (dig1 (30 + (r3 : Int))) rfl rfl W6 HW6.out ?_) | (refine wpList_buildTo rfl 64 _ rfl _ rfl (fcells (findV (1 + (r0 : Int)) r1 x (1 + (r2 : Int)) (30 + (r3 : Int)) w6.heap.size)) (by kernel_rfl) ?_) | (refine wl_storeF rfl _ _ rfl _ _ rfl (findV (1 + (r0 : Int)) r1 x (1 + (r2 : Int)) (30 + (r3 : Int)) w6.heap.size) HD0.out (fl_oneV rfl rfl) rfl rfl ?_; rw [← HW7.out]) | fail)
  have hs6 := HS6.out
  have hs7 := HS7.out
  clear HS6 HS7
  obtain ⟨T, hT⟩ : ∃ T, T = W6.heap.size := ⟨_, rfl⟩
  rw [← hT] at hs6 hs7 HF7 ⊢
  have hbT : b < T := by omega
  have hwT : w.heap.size < T := by omega
  have hDT : w6.heap.size < T := by omega
  have hz7 : T < W7.heap.size := by omega
  have hbD : b < w6.heap.size := by omega
  clear hs6 hs7 hT
  refine (next_any b (k + 1 + 1 + 1 + 1 + 1) 4 W7 HT7.out (by omega) (by omega) (by omega)).mono ?_
  rintro e w8 ⟨r4, hr4, rfl, ht8, hg8⟩
  have HG8 := Lib.hid (World.grownBy.trans HG7.out hg8)
  have HT8 := Lib.hid ht8
  have HR8 := Lib.hid ((hg8.block w.heap.size (by omega) (by simp; omega)).trans HR7.out)
  have HDD8 := Lib.hid ((hg8.block w6.heap.size (by omega) (by simp; omega)).trans HDD7.out)
  have HF8 := Lib.hid ((hg8.block T (by omega) (by simp; omega)).trans HF7.out)
  have hz8 : T < w8.heap.size := Nat.lt_of_lt_of_le hz7 hg8.size
  clear ht8 hg8 hz7 HG7 HT7 HR7 HDD7 HF7 HW7 HW6
  go_wp2_with fail
  refine (next_any b (k + 1 + 1 + 1 + 1 + 1 + 1) 6 w8 HT8.out (by omega) (by omega) (by omega)).mono ?_
  rintro e w9 ⟨r5, hr5, rfl, ht9, hg9⟩
  have HT9 := Lib.hid ht9
  have HF9 := Lib.hid ((hg9.block T (by omega) (by simp; omega)).trans HF8.out)
  have HTH := Lib.hid (there_find HD0.out HF9.out)
  obtain ⟨W9, hW9⟩ : ∃ W9, W9 = w9.setCells T 36 [.int .i64 (1 + (r4 : Int)), .slice none 0 0, .bool ((r5 : Int) == 0)] := ⟨_, rfl⟩
  have hgs : w9.grownBy W9 (some T) := by rw [hW9]; exact setCells_grown w9 T 36 _
  have HFS : Hid (W9.heap[T]? = some (.cells (fcells (findD (1 + (r0 : Int)) r1 x (1 + (r2 : Int)) (30 + (r3 : Int)) w6.heap.size (1 + (r4 : Int)) ((r5 : Int) == 0))) 64 (0, 0))) := Lib.hid (by rw [hW9]; exact fcells_dec HD0.out HF9.out (1 + (r4 : Int)) (.slice none 0 0) [] ((r5 : Int) == 0))
  have HGS := Lib.hid (grown_new (World.grownBy.trans HG8.out hg9) hgs (by omega : w.heap.size ≤ T))
  have HTS := Lib.hid (ht9.grown hgs (by simp; omega) (by intro b' e; cases e; omega))
  have HRS := Lib.hid ((hgs.block w.heap.size (by have := hg9.size; omega) (by simp; omega)).trans ((hg9.block w.heap.size (by omega) (by simp; omega)).trans HR8.out))
  have HDDS := Lib.hid ((hgs.block w6.heap.size (by have := hg9.size; omega) (by simp; omega)).trans ((hg9.block w6.heap.size (by omega) (by simp; omega)).trans HDD8.out))
  have hzS : T < W9.heap.size := Nat.lt_of_lt_of_le hz8 (Nat.le_trans hg9.size hgs.size)
  have HWS := Lib.hid hW9
  clear ht9 hg9 hz8 HG8 HT8 HR8 HDD8 HF8 hgs hW9
  go_wp2_with (first | (refine wl_storeDec rfl _ _ rfl T 36 (.int .i64 (1 + (r4 : Int))) (.slice none 0 0) (.bool ((r5 : Int) == 0)) rfl rfl HTH.out rfl rfl rfl W9 HWS.out ?_) | fail)
  clear HWS HTH HF9 HT9
  refine (next_any b (k + 1 + 1 + 1 + 1 + 1 + 1 + 1) 3 W9 HTS.out (by omega) (by omega) (by omega)).mono ?_
  rintro e w11 ⟨r6, hr6, rfl, ht11, hg11⟩
  have HT11 := Lib.hid ht11
  have HG11 := Lib.hid (World.grownBy.trans HGS.out hg11)
  have HF11 := Lib.hid ((hg11.block T (by omega) (by simp; omega)).trans HFS.out)
  have HR11 := Lib.hid ((hg11.block w.heap.size (by omega) (by simp; omega)).trans HRS.out)
  have HDD11 := Lib.hid ((hg11.block w6.heap.size (by omega) (by simp; omega)).trans HDDS.out)
  have hz11 : T < w11.heap.size := Nat.lt_of_lt_of_le hzS hg11.size
  clear ht11 hg11 hzS HTS HGS HFS HRS HDDS
  have HSV : Hid (1 ≤ 1 + (r2 : Int) ∧ 1 + (r2 : Int) ≤ 10) := Lib.hid (by omega)
  by_cases h0 : r6 = 0
  · subst h0
    have HOKX : Hid (FOk w11 (findD (1 + (r0 : Int)) r1 x (1 + (r2 : Int)) (30 + (r3 : Int)) w6.heap.size (1 + (r4 : Int)) ((r5 : Int) == 0))) := Lib.hid ⟨HD0.out, one_digs HD3.out HDD11.out, Digs.nil _, (show 1 ≤ 1000 by omega), (show 0 ≤ 1000 by omega), HXS.out⟩
    go_wp2_with (first | (refine wl_loadF rfl _ rfl T 0 rfl (findD (1 + (r0 : Int)) r1 x (1 + (r2 : Int)) (30 + (r3 : Int)) w6.heap.size (1 + (r4 : Int)) ((r5 : Int) == 0)) HD0.out (find_range HF11.out) ?_) | (refine wl_storeFat rfl _ _ rfl w.heap.size _ _ HR11.out rfl (findD (1 + (r0 : Int)) r1 x (1 + (r2 : Int)) (30 + (r3 : Int)) w6.heap.size (1 + (r4 : Int)) ((r5 : Int) == 0)) HD0.out (fl_one HOKX.out) rfl (fcells_size HZF.out) ?_) | fail)
    have hgr := setRow_grown w11 w.heap.size (fcells (findD (1 + (r0 : Int)) r1 x (1 + (r2 : Int)) (30 + (r3 : Int)) w6.heap.size (1 + (r4 : Int)) ((r5 : Int) == 0)))
    refine bodyPost_ret (v := .agg (fcells (findD (1 + (r0 : Int)) r1 x (1 + (r2 : Int)) (30 + (r3 : Int)) w6.heap.size (1 + (r4 : Int)) ((r5 : Int) == 0)))) ?_ rfl ⟨_, rfl, ?_, HSV.out.1, HSV.out.2, Up.mk hbz _ _ _, Up.nil _, ?_, ?_⟩
    · exact results_one Try.results22 rfl (loadVar_find HD0.out (setRow_heap _ w.heap.size _ _ _ _ HR11.out))
    · exact HOKX.out.grown hgr (Up.mk (by omega) _ _ _) (Up.nil _)
    · exact (HT11.out.grown hgr (by simp; omega) (by intro b' e; cases e; omega)).le (by omega)
    · exact grown_new HG11.out hgr (Nat.le_refl _)
  · have h1 : (0 : Int) < (r6 : Int) := by omega
    go_wp2_with fail
    refine (next_any b (k + 1 + 1 + 1 + 1 + 1 + 1 + 1 + 1) 12 w11 HT11.out (by omega) (by omega) (by omega)).mono ?_
    rintro e w12 ⟨r7, hr7, rfl, ht12, hg12⟩
    have hw7 : IntKind.u8.wrap (10 + (r7 : Int)) = 10 + (r7 : Int) := by rw [IntKind.wrap_u8]; omega
    have HD7 : Hid (DigOk (dig1 (10 + (r7 : Int)))) := Lib.hid (dig1_ok (by omega) (by omega))
    have hz12 : T < w12.heap.size := Nat.lt_of_lt_of_le hz11 hg12.size
    obtain ⟨W12, hW12⟩ : ∃ W12, W12 = w12.alloc (.cells (dcells (dig1 (10 + (r7 : Int)))) 24) := ⟨_, rfl⟩
    have hb12 : Below w12.heap.size w12 W12 := by rw [hW12]; exact (Below.refl _ w12).alloc (Nat.le_refl _) _
    have HW12 := Lib.hid hW12
    have HEE : Hid (W12.heap[w12.heap.size]? = some (.cells (dcells (dig1 (10 + (r7 : Int)))) 24 (0, 0))) := Lib.hid (by rw [hW12]; exact heap_alloc_new w12 _)
    have HT12 := Lib.hid (ht12.below hb12)
    have HG12 := Lib.hid (World.grownBy.trans (World.grownBy.trans HG11.out hg12) (below_grown hb12 (some b)))
    have HF12 := Lib.hid ((hb12.block T (by omega)).trans ((hg12.block T (by omega) (by simp; omega)).trans HF11.out))
    have HR12 := Lib.hid ((hb12.block w.heap.size (by omega)).trans ((hg12.block w.heap.size (by omega) (by simp; omega)).trans HR11.out))
    have HDD12 := Lib.hid ((hb12.block w6.heap.size (by omega)).trans ((hg12.block w6.heap.size (by omega) (by simp; omega)).trans HDD11.out))
    have hzW : T < W12.heap.size := Nat.lt_of_lt_of_le hz12 hb12.size
    have hc37 : W12.cell? ⟨T, 37, none⟩ = some (.slice none 0 0) := by rw [cell_of_row W12 T 37 _ _ _ HF12.out]; exact fcells_at (x := (findD (1 + (r0 : Int)) r1 x (1 + (r2 : Int)) (30 + (r3 : Int)) w6.heap.size (1 + (r4 : Int)) ((r5 : Int) == 0))) HD0.out 5
    have hf37 : W12.frozen? ⟨T, 37, none⟩ = false := frozen_row HF12.out
    obtain ⟨W13, hW13⟩ : ∃ W13, W13 = W12.setCell ⟨T, 37, none⟩ (.slice (some ⟨w12.heap.size, 0, none⟩) 1 1) := ⟨_, rfl⟩
    have hgs : W12.grownBy W13 (some T) := by rw [hW13]; exact set_grown W12 T 37 _
    have HF13 : Hid (W13.heap[T]? = some (.cells (fcells (findE (1 + (r0 : Int)) r1 x (1 + (r2 : Int)) (30 + (r3 : Int)) w6.heap.size (1 + (r4 : Int)) ((r5 : Int) == 0) (10 + (r7 : Int)) w12.heap.size)) 64 (0, 0))) := Lib.hid (by
      have := setCell_heap 37 (Value.slice (some ⟨w12.heap.size, 0, none⟩) 1 1) HF12.out
      rw [fcells_ev (x := (findD (1 + (r0 : Int)) r1 x (1 + (r2 : Int)) (30 + (r3 : Int)) w6.heap.size (1 + (r4 : Int)) ((r5 : Int) == 0))) HD0.out _ [dig1 (10 + (r7 : Int))]] at this
      rw [hW13]
      exact this)
    have HW13 := Lib.hid hW13
    have HT13 := Lib.hid (HT12.out.grown hgs (by simp; omega) (by intro b' e; cases e; omega))
    have HG13 := Lib.hid (grown_new HG12.out hgs (by omega : w.heap.size ≤ T))
    have HR13 := Lib.hid ((hgs.block w.heap.size (by omega) (by simp; omega)).trans HR12.out)
    have HDD13 := Lib.hid ((hgs.block w6.heap.size (by omega) (by simp; omega)).trans HDD12.out)
    have HEE13 := Lib.hid ((hgs.block w12.heap.size (by have := (Array.getElem?_eq_some_iff.1 HEE.out).1; omega) (by simp; omega)).trans HEE.out)
    have HOKX : Hid (FOk W13 (findE (1 + (r0 : Int)) r1 x (1 + (r2 : Int)) (30 + (r3 : Int)) w6.heap.size (1 + (r4 : Int)) ((r5 : Int) == 0) (10 + (r7 : Int)) w12.heap.size)) := Lib.hid ⟨HD0.out, one_digs HD3.out HDD13.out, one_digs HD7.out HEE13.out, (show 1 ≤ 1000 by omega), (show 1 ≤ 1000 by omega), HXS.out⟩
    clear ht12 hg12 hz11 hb12 hW12 hgs hW13 HT11 HG11 HF11 HR11 HDD11 HEE HT12 HG12 HF12 HR12 HDD12 hzW
    go_wp2_with (first | (refine wpList_buildTo rfl 24 _ rfl _ rfl (dcells (dig1 (10 + (r7 : Int)))) (by kernel_rfl) ?_) | (refine wl_build1D rfl _ rfl (dig1 (10 + (r7 : Int))) rfl rfl W12 HW12.out ?_) | (refine wl_loadF rfl _ rfl T 0 rfl (findE (1 + (r0 : Int)) r1 x (1 + (r2 : Int)) (30 + (r3 : Int)) w6.heap.size (1 + (r4 : Int)) ((r5 : Int) == 0) (10 + (r7 : Int)) w12.heap.size) HD0.out (find_range HF13.out) ?_) | (refine wl_storeFat rfl _ _ rfl w.heap.size _ _ HR13.out rfl (findE (1 + (r0 : Int)) r1 x (1 + (r2 : Int)) (30 + (r3 : Int)) w6.heap.size (1 + (r4 : Int)) ((r5 : Int) == 0) (10 + (r7 : Int)) w12.heap.size) HD0.out (fl_one HOKX.out) rfl (fcells_size HZF.out) ?_) | (rw [← HW13.out]; refine wl_loadF rfl _ rfl T 0 rfl (findE (1 + (r0 : Int)) r1 x (1 + (r2 : Int)) (30 + (r3 : Int)) w6.heap.size (1 + (r4 : Int)) ((r5 : Int) == 0) (10 + (r7 : Int)) w12.heap.size) HD0.out (find_range HF13.out) ?_) | fail)
    have hgr := setRow_grown W13 w.heap.size (fcells (findE (1 + (r0 : Int)) r1 x (1 + (r2 : Int)) (30 + (r3 : Int)) w6.heap.size (1 + (r4 : Int)) ((r5 : Int) == 0) (10 + (r7 : Int)) w12.heap.size))
    refine bodyPost_ret (v := .agg (fcells (findE (1 + (r0 : Int)) r1 x (1 + (r2 : Int)) (30 + (r3 : Int)) w6.heap.size (1 + (r4 : Int)) ((r5 : Int) == 0) (10 + (r7 : Int)) w12.heap.size))) ?_ rfl ⟨_, rfl, ?_, HSV.out.1, HSV.out.2, Up.mk hbz _ _ _, Up.mk (by omega) _ _ _, ?_, ?_⟩
    · exact results_one Try.results22 rfl (loadVar_find HD0.out (setRow_heap _ w.heap.size _ _ _ _ HR13.out))
    · exact HOKX.out.grown hgr (Up.mk (by omega) _ _ _) (Up.mk (by omega) _ _ _)
    · exact (HT13.out.grown hgr (by simp; omega) (by intro b' e; cases e; omega)).le (by omega)
    · exact grown_new HG13.out hgr (Nat.le_refl _)
end Go.Proofs.Ytoiabbhppbghdaa
