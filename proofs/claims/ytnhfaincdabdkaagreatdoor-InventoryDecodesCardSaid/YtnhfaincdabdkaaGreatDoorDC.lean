/-
  Walks: the makers of digests and components.
  Walks: Word, of both.
-/
import Derived.Test.YtnhfaincdabdkaaGreatDoorJC
import Derived.Test.YtnhfaincdabdkaaGreatDoorL5
import Derived.Test.YtnhfaincdabdkaaGreatDoorTN
import Derived.Test.YtnhfaincdabdkaaGreatDoorDB
import Derived.Deep.Upon
import Derived.Great.BuildSlice
namespace Go.Proofs.YtnhfaincdabdkaaGreatDoor
open Go.RowKit

/-- the cells of a digest -/
def dcellsL (l : List Int) : List Value := l.map fun n => Value.int .u8 n
def dcells (l : List Int) : Array Value := (dcellsL l).toArray
theorem digInfo : (Tryz.prog.info? 24).map (·.size) = some 32 := by kernel_rfl
theorem dig_one {l : List Int} : (dcells l).all (·.oneCell') = true := by
  rw [Array.all_eq_true_iff_forall_mem]
  intro v hv
  unfold dcells dcellsL at hv
  simp at hv
  obtain ⟨n, _, rfl⟩ := hv
  rfl
theorem dcells_size {l : List Int} (h : l.length = 32) : (dcells l).size = 32 := by unfold dcells dcellsL; simp [h]
theorem loadVar_dig {l : List Int} (h : l.length = 32) {w : World} {g : Nat} {t : TypeId} (hg : w.heap[g]? = some (.cells (dcells l) t (0, 0))) : (loadVar 24 ⟨g, 0, none⟩).run Tryz.prog w = .ok (.agg (dcells l)) w :=
  run_loadVar_row w g t _ (dcells l) (0, 0) _ hg Tryz.underlying24 rfl (by rw [digInfo, dcells_size h])
theorem setCells_grown (w : World) (b o : Nat) (vs : List Value) : w.grownBy (w.setCells b o vs) (some b) := by
  have h := World.keptBut_setCells b (may := fun _ => True) vs o w (fun _ _ => trivial)
  refine ⟨World.os_setCells w b o vs, ?_, World.output_setCells w b o vs, ?_, fun k hk hne => World.heap_setCells_other w b o vs hk (fun e => hne (by rw [e]))⟩
  all_goals clear h
  · induction vs generalizing o w with
    | nil => rfl
    | cons v vs ih => unfold World.setCells; rw [ih]; rfl
  · induction vs generalizing o w with
    | nil => exact Nat.le_refl _
    | cons v vs ih =>
      unfold World.setCells
      refine Nat.le_trans ?_ (ih _ _)
      simp [World.setCell]

theorem setRow_grown (w : World) (g : Nat) (cs : Array Value) : w.grownBy (w.setRow g cs) (some g) :=
  ⟨rfl, rfl, rfl, by simp, fun i _ hi => setRow_other w g i cs (fun e => hi (by rw [e]))⟩
/-- behind changes in a block that is new -/
theorem grown_new {w w1 w2 : World} {row : Option Nat} {g : Nat} (h : w.grownBy w1 row) (h2 : w1.grownBy w2 (some g)) (hg : w.heap.size ≤ g) : w.grownBy w2 row :=
  ⟨h2.os.trans h.os, h2.tape.trans h.tape, h2.output.trans h.output, Nat.le_trans h.size h2.size, fun k hk hne => (h2.block k (Nat.lt_of_lt_of_le hk h.size) (by simp; omega)).trans (h.block k hk hne)⟩
def zero32 : List Int := List.replicate 32 0
theorem zero_dig : (#[.int .u8 0, .int .u8 0, .int .u8 0, .int .u8 0, .int .u8 0, .int .u8 0, .int .u8 0, .int .u8 0, .int .u8 0, .int .u8 0, .int .u8 0, .int .u8 0, .int .u8 0, .int .u8 0, .int .u8 0, .int .u8 0, .int .u8 0, .int .u8 0, .int .u8 0, .int .u8 0, .int .u8 0, .int .u8 0, .int .u8 0, .int .u8 0, .int .u8 0, .int .u8 0, .int .u8 0, .int .u8 0, .int .u8 0, .int .u8 0, .int .u8 0, .int .u8 0] : Array Value) = dcells zero32 := rfl

/-- a digest stored into a component -/
theorem there_dig {c : V.Comp} (hc : CompWf c) {w : World} {C : Nat} {t : TypeId} (hg : w.heap[C]? = some (.cells (ccells c) t (0, 0))) : w.there C 4 32 := fun j hj => by
  refine ⟨?_, frozen_of_row w C _ _ _ hg⟩
  rw [cell_of_row w C _ _ _ _ hg, Array.getElem?_eq_getElem (by rw [hc.size]; omega)]
  rfl
theorem range_dig {c : V.Comp} (hc : CompWf c) {w : World} {C : Nat} {t : TypeId} (hg : w.heap[C]? = some (.cells (ccells c) t (0, 0))) {d : List Int} (hd : d.length = 32) :
    (w.setCells C 4 (dcells d).toList).rangeAt C 0 (cellsL { c with dig := d }) := fun j v hv => by
  rw [Nat.zero_add]
  have hl : (dcells d).toList.length = 32 := by rw [Array.length_toList, dcells_size hd]
  by_cases h4 : j < 4
  · rw [World.cell?_setCells_out C _ 4 w ⟨C, j, none⟩ (fun _ _ => .inl h4), cell_of_row w C j _ _ _ hg]
    have e : (ccells c)[j]? = (cellsL { c with dig := d })[j]? := by
      have h : j = 0 ∨ j = 1 ∨ j = 2 ∨ j = 3 := by omega
      rcases h with rfl | rfl | rfl | rfl <;> rfl
    rw [e, hv]
  · have h := World.rangeAt_setCells_same w C 4 (dcells d).toList (by rw [hl]; exact there_dig hc hg)
    have hj : (dcells d).toList[j - 4]? = some v := by
      have e : (cellsL { c with dig := d })[j]? = (dcellsL d)[j - 4]? := by
        obtain ⟨i, rfl⟩ : ∃ i, j = i + 4 := ⟨j - 4, by omega⟩
        rfl
      exact e.symm.trans hv
    have := h (j - 4) v hj
    rwa [show 4 + (j - 4) = j by omega] at this

/-- at the operation: a digest is stored; the world behind it under a name -/
theorem wl_store_dig {ops : Array Oper} {rest : List Oper} {o : Oper} {a : Act} {w : World} {Q : Exit → Act → World → Prop} (hgd : o.guard = none) (x y : Operand) (ho : o.op = .store 24 x y)
    (b off : Nat) (l : List Int) (hl : l.length = 32) (hx : a.eval x = .pointer (some ⟨b, off, none⟩)) (hy : a.eval y = .agg (dcells l)) (ht : w.there b off 32)
    (W : World) (hW : W = w.setCells b off (dcells l).toList) (h : wpList Tryz.prog ops Q rest (a.put o.dst undef) W) : wpList Tryz.prog ops Q (o :: rest) a w := by
  subst hW
  exact wpList_store_mid hgd _ x y ho b off (dcells l) hx hy (by rw [dcells_size hl]; exact ht) (by rw [digInfo, dcells_size hl]) dig_one h

theorem compIE : ∃ ie z, Tryz.prog.info? 88 = some ie ∧ ie.size = 36 ∧ ie.zero = some z := by
  have h : (match Tryz.prog.info? 88 with | some i => i.size == 36 && i.zero.isSome | none => false) = true := by kernel_rfl
  cases hq : Tryz.prog.info? 88 with
  | none => rw [hq] at h; cases h
  | some i =>
    rw [hq] at h
    simp only [Bool.and_eq_true, beq_iff_eq] at h
    obtain ⟨z, hz⟩ := Option.isSome_iff_exists.1 h.2
    exact ⟨i, z, rfl, h.1, hz⟩
/-- a component loaded, as a step of a region that draws -/
theorem step_load {ops : Array Oper} {o : Oper} {a : Act} {w : World} {K : Act → World → Prop} {Q : Exit → Act → World → Prop} {E : Prop} (hgd : o.guard = none) (x : Operand) (ho : o.op = .load 88 x)
    (b off : Nat) (hx : a.eval x = .pointer (some ⟨b, off, none⟩)) (c : V.Comp) (hc : CompWf c) (hr : w.rangeAt b off (cellsL c)) (h : K (a.put o.dst (.agg (ccells c))) w) :
    if Region.wanted o (yielded ops a.tmps) = true then Oper.wp Tryz.prog o a w K Q else E := by
  rw [if_pos (by simp [Region.wanted, hgd])]
  obtain ⟨d, hu, hd⟩ := compRow
  exact wp_load_mid _ x ho b off hx (cellsL c) d hr hu hd (by rw [compInfo]; have := hc.size; unfold ccells at this; simp at this; rw [this]) h
/-- a call of a Go function, as a step of a region that draws -/
theorem step_call {P : Program} {ops : Array Oper} {o : Oper} {a : Act} {w : World} {K : Act → World → Prop} {Q : Exit → Act → World → Prop} {E : Prop} (hgd : o.guard = none) (f : FuncId) (args : Array Value) {R : Ending → World → Prop}
    (he : (execOp a.eval o).run P w = .ok (.enter f args) w) (hc : Calls P f args w R) (h : ∀ e w', R e w' → ∃ v, e = .returned v ∧ K (a.put o.dst v) w') :
    if Region.wanted o (yielded ops a.tmps) = true then Oper.wp P o a w K Q else E := by
  rw [if_pos (by simp [Region.wanted, hgd])]
  unfold Oper.wp
  rw [he]
  refine hc.mono ?_
  intro e w' hR
  obtain ⟨v, rfl, hK⟩ := h e w' hR
  exact hK
/-- two components laid beside each other -/
theorem step_build2 {ops : Array Oper} {o : Oper} {a : Act} {w : World} {K : Act → World → Prop} {Q : Exit → Act → World → Prop} {E : Prop} (hgd : o.guard = none) (x y : Operand) (ho : o.op = .buildSlice 25 2 #[(0, x), (1, y)])
    (c1 c2 : V.Comp) (h1 : CompWf c1) (h2 : CompWf c2) (hx : a.eval x = .agg (ccells c1)) (hy : a.eval y = .agg (ccells c2))
    (h : K (a.put o.dst (.slice (some ⟨w.heap.size, 0, none⟩) 2 2)) (w.alloc (.cells (cellsL c1 ++ cellsL c2).toArray 88))) :
    if Region.wanted o (yielded ops a.tmps) = true then Oper.wp Tryz.prog o a w K Q else E := by
  rw [if_pos (by simp [Region.wanted, hgd])]
  obtain ⟨ie, z, hie, hsz, hz⟩ := compIE
  refine wp_buildSlice _ 88 2 _ ho (cellsL c1 ++ cellsL c2).toArray ie z Tryz.underlying25 hie hz (by rw [hsz]; decide) (by rw [hsz]; decide) ?_ h
  have := Great.fill_whole (s := 36) (by decide) [Value.agg (ccells c1), Value.agg (ccells c2)] ((Array.range (2 * ie.size)).map (z.cells[· % z.cells.size]!)) (fun v hv => by
    rcases List.mem_cons.1 hv with rfl | hv
    · exact h1.size
    · rcases List.mem_cons.1 hv with rfl | hv
      · exact h2.size
      · cases hv) (by rw [hsz]; simp)
  rw [hsz] at this ⊢
  simp only [hx, hy, List.map_toArray, List.map_cons, List.map_nil]
  exact this.trans (by simp [Value.cells, ccells])

def dig1 (x : Int) : List Int := x :: List.replicate 31 0
def SumPost (b k : Nat) (w : World) (e : Ending) (w' : World) : Prop :=
  ∃ x : Nat, 1 ≤ x ∧ x ≤ 6 ∧ e = .returned (.agg (dcells (dig1 x))) ∧ Tape w' b (k + 1) ∧ w.grownBy w' (some b)

set_option maxRecDepth 100000 in
set_option maxHeartbeats 1600000 in
theorem sum_any (b k : Nat) (w : World) (h : Tape w b k) (hk : k ≤ 1000000) :
    Calls Tryz.prog 173 #[.pointer (some ⟨b, 0, none⟩)] w (SumPost b k w) := by
  have HT := Lib.hid h
  have hbw := h.lt
  clear h
  go_enter Tryz.func173, Tryz.ntmps173
  go_wp2_with fail
  rw [zero_dig]
  obtain ⟨W0, hW0⟩ : ∃ W0, W0 = w.alloc (.cells (dcells zero32) 24) := ⟨_, rfl⟩
  have hg0 : W0.heap[w.heap.size]? = some (.cells (dcells zero32) 24 (0, 0)) := by rw [hW0]; exact heap_alloc_new w _
  have hz0 : W0.heap.size = w.heap.size + 1 := by rw [hW0]; simp
  have hb0 : Below w.heap.size w W0 := by rw [hW0]; exact (Below.refl _ w).alloc (Nat.le_refl _) _
  rw [← hW0]
  clear hW0
  refine (next_any b k 6 _ (HT.out.below hb0) (by omega) (by omega) (by omega)).mono ?_
  rintro e w1 ⟨r, hr, rfl, ht1, hg1⟩
  have HG1 := Lib.hid (World.grownBy.trans (below_grown hb0 (some b)) hg1)
  have HT1 := Lib.hid ht1
  have HR1 : Hid (w1.heap[w.heap.size]? = some (.cells (dcells zero32) 24 (0, 0))) := Lib.hid ((hg1.block _ (by omega) (by simp; omega)).trans hg0)
  have hw1 : IntKind.u8.wrap (1 + (r : Int)) = 1 + (r : Int) := by rw [IntKind.wrap_u8]; omega
  have hz1 : w.heap.size < w1.heap.size := Nat.lt_of_lt_of_le (by omega) hg1.size
  clear hg0 hz0 hb0 ht1 hg1
  go_wp2_with (first | (refine wpList_store_row rfl _ _ _ rfl w.heap.size (dcells (dig1 (1 + (r : Int)))) rfl rfl 24 _ HR1.out (by rw [digInfo]; rfl) rfl dig_one ?_) | fail)
  refine bodyPost_ret (v := .agg (dcells (dig1 (1 + (r : Int))))) ?_ rfl ⟨r + 1, by omega, by omega, ?_, ?_, ?_⟩
  · exact results_one Tryz.results173 rfl (loadVar_dig rfl (setRow_heap w1 w.heap.size _ _ _ _ HR1.out))
  · rw [show (1 + (r : Int)) = ((r + 1 : Nat) : Int) by omega]
  · refine Tape.grown HT1.out (row := some w.heap.size) ?_ (by simp; omega) (by intro b' e; cases e; omega)
    exact setRow_grown _ _ _
  · exact grown_new HG1.out (setRow_grown _ _ _) (Nat.le_refl _)
end Go.Proofs.YtnhfaincdabdkaaGreatDoor
namespace Go.Proofs.YtnhfaincdabdkaaGreatDoor
open Go.RowKit

theorem word_step {l : V.Bs} {k : Nat} (h : k < l.length) : (l.take (k + 1)).flatMap V.encB = (l.take k).flatMap V.encB ++ V.encB l[k] := by
  rw [List.take_succ_eq_append_getElem h, List.flatMap_append]
  simp
theorem word_to (l : V.Bs) (k : Nat) : ((l.take k).flatMap V.encB).length ≤ 3 * l.length := by
  rw [V.flat_enc]
  exact size_to l k

theorem dig_at {n : Nat} (h : n < 16) : (ByteArray.mk #[48, 49, 50, 51, 52, 53, 54, 55, 56, 57, 65, 66, 67, 68, 69, 70]).data.toList[n]? = some (V.digU.getD n 0) := by
  have : ∀ m : Fin 16, (ByteArray.mk #[48, 49, 50, 51, 52, 53, 54, 55, 56, 57, 65, 66, 67, 68, 69, 70]).data.toList[m.val]? = some (V.digU.getD m.val 0) := by decide
  exact this ⟨n, h⟩
set_option maxRecDepth 100000 in
set_option maxHeartbeats 3200000 in
theorem docWord_any (s : ByteArray) (w : World) (hs : s.size ≤ 100000) : Calls Tryz.prog 107 #[.string s] w fun e w' => e = .returned (.string ⟨(V.word s.data.toList).toArray⟩) ∧ Below w.heap.size w w' := by
  by_cases h0 : s.data.toList = []
  · have hs0 : s = ⟨#[]⟩ := bs_ext (by rw [h0])
    subst hs0
    go_enter Tryz.func107, Tryz.ntmps107
    go_wp2
    go_ret
    exact ⟨rfl, Below.refl _ _⟩
  · have hse : s.toList.isEmpty = false := by
      rw [Lib.toList_data]
      cases hq : s.data.toList with
      | nil => exact absurd hq h0
      | cons c r => rfl
    have HW : Hid (V.word s.data.toList = s.data.toList.flatMap V.encB) := Lib.hid (by
      unfold V.word
      cases hq : s.data.toList with
      | nil => exact absurd hq h0
      | cons c r => rw [List.isEmpty_cons, if_neg (by decide)])
    have HP : Hid (0 < s.data.toList.length) := Lib.hid (List.length_pos_iff.2 h0)
    have hsz := V.sizeW_le s.data.toList
    rw [bs_size] at hsz
    clear h0
    go_enter Tryz.func107, Tryz.ntmps107
    go_wp2_with fail
    refine (docSize_any s w hs).mono ?_
    rintro e w' ⟨rfl, rfl⟩
    clear hse
    go_wp2_with (first | (refine wl_room rfl _ rfl w'.heap.size (V.sizeW s.data.toList) w' (Below.refl _ _) (Nat.le_refl _) rfl (by omega) ?_; intro w1 hb1) | fail)
    have HB1 := Lib.hid hb1
    clear hb1
    go_wp2
    go_loopw [3, 4] (fun ov iv wx => ∃ k : Nat, k ≤ s.size ∧ iv = .int .i64 k ∧ Buf w'.heap.size ov ((s.data.toList.take k).flatMap V.encB) w' wx) (fun _ iv _ => s.size - (intOf iv).toNat)
    case atStart => exact ⟨0, Nat.zero_le _, rfl, HB1.out⟩
    case round =>
      obtain ⟨k, hk, rfl, hb⟩ := hrel
      have HB := Lib.hid hb
      obtain ⟨oa, oc, rfl⟩ := hb.slice
      have hl := bs_size s
      have hle := word_to s.data.toList k
      rw [hl] at hle
      clear hb HB1
      by_cases hlt : k < s.size
      · have HT := Lib.hid (word_step (l := s.data.toList) (k := k) (by omega))
        have he : s.data.toList[k]'(by omega) = s[k] := by simp; rfl
        rw [he] at HT
        have hs1 : (0 : Int) ≤ (k : Int) := by omega
        have hs2 : (k : Int) < (s.size : Int) := by omega
        obtain ⟨L, hL⟩ : ∃ L, L = (s.data.toList.take k).flatMap V.encB := ⟨_, rfl⟩
        rw [← hL] at HT hle HB ⊢
        obtain ⟨c, hc⟩ : ∃ c, c = s[k] := ⟨_, rfl⟩
        have HCI : Hid (s.data.toList[((k : Int)).toNat]? = some c) := Lib.hid (by rw [Int.toNat_natCast, List.getElem?_eq_getElem (by omega), he, ← hc])
        have hc256 := c.toNat_lt
        have HD1 : Hid ((ByteArray.mk #[48, 49, 50, 51, 52, 53, 54, 55, 56, 57, 65, 66, 67, 68, 69, 70]).data.toList[(((c.toNat / 16 : Nat) : Int)).toNat]? = some (V.digU.getD (c.toNat / 16) 0)) := Lib.hid (by rw [Int.toNat_natCast]; exact dig_at (by omega))
        have HD2 : Hid ((ByteArray.mk #[48, 49, 50, 51, 52, 53, 54, 55, 56, 57, 65, 66, 67, 68, 69, 70]).data.toList[(((c.toNat % 16 : Nat) : Int)).toNat]? = some (V.digU.getD (c.toNat % 16) 0)) := Lib.hid (by rw [Int.toNat_natCast]; exact dig_at (by omega))
        rw [← hc] at HT
        have HC := Lib.hid hc
        clear he hl hL hc
        go_wp2_with fail
        rw [← HC.out]
        refine (docPlain_any c wr).mono ?_
        rintro e w2 ⟨rfl, rfl⟩
        rcases hp : V.plainB c with _ | _
        · have HN : Hid ((s.data.toList.take (k + 1)).flatMap V.encB = L ++ [37, V.digU.getD (c.toNat / 16) 0, V.digU.getD (c.toNat % 16) 0]) := Lib.hid (by rw [HT.out]; unfold V.encB; rw [hp]; rfl)
          clear hp HT
          go_wp2_with fail
          refine wp_region_any (by kernel_rfl) ?_
          change wpAny _ _ _ _ _ _ _ (World.drew _)
          have HB3 := Lib.hid (HB.out.below (Below.refl _ w2).drew)
          clear HB
          generalize w2.drew = w3 at *
          refine wpAny_take (i := 0) (v := .slice oa L.length oc) rfl (by kernel_rfl) (by kernel_rfl) (by kernel_rfl) (fun _ _ _ h => h) (Or.inl ⟨by rfl, fun W => by go_simp⟩) ?_
          refine wpAny_take (i := 1) (v := .string s) rfl (by kernel_rfl) (by kernel_rfl) (by kernel_rfl) (fun _ _ _ h => h) (Or.inl ⟨by rfl, fun W => by go_simp⟩) ?_
          refine wpAny_take (i := 2) (v := .int .i64 k) rfl (by kernel_rfl) (by kernel_rfl) (by kernel_rfl) (fun _ _ _ h => h) (Or.inl ⟨by rfl, fun W => by go_simp⟩) ?_
          refine wpAny_take (i := 6) (v := .string s) rfl (by kernel_rfl) (by kernel_rfl) (by kernel_rfl) (fun _ _ _ h => h) (Or.inl ⟨by rfl, fun W => by go_simp⟩) ?_
          refine wpAny_take (i := 7) (v := .int .i64 k) rfl (by kernel_rfl) (by kernel_rfl) (by kernel_rfl) (fun _ _ _ h => h) (Or.inl ⟨by rfl, fun W => by go_simp⟩) ?_
          simp only [List.getElem_toArray, List.getElem_cons_succ, List.getElem_cons_zero, Act.put, List.setIfInBounds_toArray, List.set_cons_succ, List.set_cons_zero]
          refine wpAny_take (i := 3) (v := .int .u8 c.toNat) rfl (by kernel_rfl) (by kernel_rfl) (by kernel_rfl) (fun _ _ _ h => h) (Or.inl ⟨by rfl, fun W => ex_index rfl rfl rfl hs1 HCI.out⟩) ?_
          refine wpAny_take (i := 8) (v := .int .u8 c.toNat) rfl (by kernel_rfl) (by kernel_rfl) (by kernel_rfl) (fun _ _ _ h => h) (Or.inl ⟨by rfl, fun W => ex_index rfl rfl rfl hs1 HCI.out⟩) ?_
          simp only [List.getElem_toArray, List.getElem_cons_succ, List.getElem_cons_zero, Act.put, List.setIfInBounds_toArray, List.set_cons_succ, List.set_cons_zero]
          refine wpAny_take (i := 4) (v := .int .u8 ((c.toNat / 16 : Nat) : Int)) rfl (by kernel_rfl) (by kernel_rfl) (by kernel_rfl) (fun _ _ _ h => h) (Or.inl ⟨by rfl, fun W => ex_shr4 rfl rfl rfl⟩) ?_
          refine wpAny_take (i := 9) (v := .int .u8 ((c.toNat % 16 : Nat) : Int)) rfl (by kernel_rfl) (by kernel_rfl) (by kernel_rfl) (fun _ _ _ h => h) (Or.inl ⟨by rfl, fun W => ex_and15 rfl rfl rfl⟩) ?_
          simp only [List.getElem_toArray, List.getElem_cons_succ, List.getElem_cons_zero, Act.put, List.setIfInBounds_toArray, List.set_cons_succ, List.set_cons_zero]
          refine wpAny_take (i := 5) (v := .int .u8 (V.digU.getD (c.toNat / 16) 0).toNat) rfl (by kernel_rfl) (by kernel_rfl) (by kernel_rfl) (fun _ _ _ h => h) (Or.inl ⟨by rfl, fun W => ex_index rfl rfl rfl (by omega) HD1.out⟩) ?_
          refine wpAny_take (i := 10) (v := .int .u8 (V.digU.getD (c.toNat % 16) 0).toNat) rfl (by kernel_rfl) (by kernel_rfl) (by kernel_rfl) (fun _ _ _ h => h) (Or.inl ⟨by rfl, fun W => ex_index rfl rfl rfl (by omega) HD2.out⟩) ?_
          simp only [List.getElem_toArray, List.getElem_cons_succ, List.getElem_cons_zero, Act.put, List.setIfInBounds_toArray, List.set_cons_succ, List.set_cons_zero]
          refine wpAny_all (rs := [11]) (by kernel_rfl) (by simp) ?_
          intro i0 hi0
          obtain rfl : i0 = 11 := by simpa using hi0
          clear hi0
          refine wpOp_step (by rfl) (fun K hK => step_build3B rfl _ _ _ rfl 37 (V.digU.getD (c.toNat / 16) 0) (V.digU.getD (c.toNat % 16) 0) rfl rfl rfl (hK _ _ ?_))
          clear hK K
          have HBN := Lib.hid (bytes_new [37, V.digU.getD (c.toNat / 16) 0, V.digU.getD (c.toNat % 16) 0] w3)
          have HB4 := Lib.hid (HB3.out.below ((Below.refl _ w3).alloc (Nat.le_refl _) (.cells (bvals [37, V.digU.getD (c.toNat / 16) 0, V.digU.getD (c.toNat % 16) 0]).toArray 5)))
          clear HB3
          generalize w3.alloc (.cells (bvals [37, V.digU.getD (c.toNat / 16) 0, V.digU.getD (c.toNat % 16) 0]).toArray 5) = w4 at *
          simp only [List.getElem_toArray, List.getElem_cons_succ, List.getElem_cons_zero, Act.put, List.setIfInBounds_toArray, List.set_cons_succ, List.set_cons_zero]
          refine wpAny_all (rs := [12]) (by kernel_rfl) (by simp) ?_
          intro i0 hi0
          obtain rfl : i0 = 12 := by simpa using hi0
          clear hi0
          refine wpOp_step (by rfl) (fun K hK => ?_)
          refine step_bytes rfl _ _ rfl w'.heap.size (.slice oa L.length oc) L w' rfl HB4.out w3.heap.size 3 [37, V.digU.getD (c.toNat / 16) 0, V.digU.getD (c.toNat % 16) 0] rfl HBN.out (by simp; omega) ?_
          intro v9 w9 hb9
          refine hK _ _ ?_
          clear hK K
          have HB9 := Lib.hid hb9
          clear hb9 HBN HB4
          simp only [List.getElem_toArray, List.getElem_cons_succ, List.getElem_cons_zero, Act.put, List.setIfInBounds_toArray, List.set_cons_succ, List.set_cons_zero]
          refine wpAny_take (i := 13) (v := v9) rfl (by kernel_rfl) (by kernel_rfl) (by kernel_rfl) (fun _ _ _ h => h) (Or.inl ⟨by rfl, fun W => by go_simp⟩) ?_
          simp only [List.getElem_toArray, List.getElem_cons_succ, List.getElem_cons_zero, Act.put, List.setIfInBounds_toArray, List.set_cons_succ, List.set_cons_zero]
          refine wpAny_done (by kernel_rfl) ?_ _
          go_wp2
          go_roundw
          case rel => exact ⟨k + 1, by omega, by go_num, by rw [HN.out]; exact HB9.out⟩
          case measure => simp [intOf]; omega
        · have HN : Hid ((s.data.toList.take (k + 1)).flatMap V.encB = L ++ [c]) := Lib.hid (by rw [HT.out]; unfold V.encB; rw [hp]; rfl)
          clear hp HT
          have HB2 : Hid (Buf w'.heap.size (.slice oa L.length oc) L w' (w2.alloc (.cells #[.int .u8 s[k].toNat] 5))) := Lib.hid (HB.out.below ((Below.refl _ w2).alloc (Nat.le_refl _) _))
          go_wp2_with (first | (refine wl_bytes rfl _ _ rfl w'.heap.size (.slice oa L.length oc) L w' rfl HB2.out w2.heap.size 1 [c] rfl ?_ (by simp; omega) ?_; rotate_left; intro v9 w9 hb9) | fail)
          · have HB9 := Lib.hid hb9
            clear hb9
            go_wp2
            go_roundw
            case rel => exact ⟨k + 1, by omega, by go_num, by rw [HN.out]; exact HB9.out⟩
            case measure => simp [intOf]; omega
          · rw [← HC.out]
            exact bytes_new [c] w2
      · obtain rfl : k = s.size := by omega
        have ht : s.data.toList.take s.size = s.data.toList := List.take_of_length_le (by omega)
        rw [ht, ← HW.out] at HB
        have hcv := conv_buf HB.out (by rw [V.word_len]; have := HP.out; unfold V.sizeW; omega)
        have hll : ((s.data.toList.take s.size).flatMap V.encB).length = (V.word s.data.toList).length := by rw [ht, HW.out]
        rw [hll] at *
        have HBL := Lib.hid HB.out.2.1
        go_wp2
        go_ret
        exact ⟨rfl, HBL.out⟩
end Go.Proofs.YtnhfaincdabdkaaGreatDoor
