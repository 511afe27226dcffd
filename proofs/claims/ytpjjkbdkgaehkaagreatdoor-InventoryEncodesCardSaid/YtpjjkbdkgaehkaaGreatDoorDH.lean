/-
  Walks: a strings.Builder's WriteByte, in this program.
-/
import Derived.Test.YtpjjkbdkgaehkaaGreatDoorV6
import Derived.Lib.Builder
import Derived.Laws.Externs
import Derived.OwnWalk
namespace Go.Proofs.YtpjjkbdkgaehkaaGreatDoor
open Go.RowKit

theorem buildSz : ∃ j, Tryz.prog.info? 123 = some j ∧ j.size = 2 := by
  have h : (Tryz.prog.info? 123).map (·.size) = some 2 := by kernel_rfl
  exact Option.map_eq_some_iff.1 h
theorem buildLies : liesAt Tryz.prog Tryz.prog.depth 123 (2 / Tryz.prog.cellsOf 123) 0 123 1 = true := by kernel_rfl

set_option maxHeartbeats 1000000 in
set_option maxRecDepth 100000 in
theorem copyUsed_any (b : Nat) (w : World) (h0 : w.cell? ⟨b, 0, none⟩ = some (.pointer (some ⟨b, 0, none⟩))) :
    Calls Tryz.prog 116 #[.pointer (some ⟨b, 0, none⟩)] w fun e w' => e = .returned (.tuple #[]) ∧ w' = w := by
  obtain ⟨j, hj, _⟩ := buildSz
  go_enter Tryz.func116, Tryz.ntmps116
  go_wp2
  rw [Lib.run_neq_ptr_same w _ Tryz.underlying121 hj]
  go_wp2
  go_end0
  exact ⟨rfl, rfl⟩

set_option maxHeartbeats 1000000 in
set_option maxRecDepth 100000 in
theorem copyFresh_any (b : Nat) (w : World) (h0 : w.cell? ⟨b, 0, none⟩ = some (.pointer none)) (hsh : w.shape? b = some (123, 2)) (hfz : w.frozen? ⟨b, 0, none⟩ = false) :
    Calls Tryz.prog 116 #[.pointer (some ⟨b, 0, none⟩)] w fun e w' => e = .returned (.tuple #[]) ∧ w' = w.setCell ⟨b, 0, none⟩ (.pointer (some ⟨b, 0, none⟩)) := by
  obtain ⟨j, hj, hjs⟩ := buildSz
  go_enter Tryz.func116, Tryz.ntmps116
  go_wp2
  rw [Lib.run_to_unsafe w ⟨b, 0, none⟩ Tryz.underlying121 Tryz.underlying180 hj (by rw [hjs]; decide) hsh (Nat.zero_lt_succ 1)]
  simp only [Result.andThen]
  rw [Oper.upon_value]
  go_wp2
  rw [run_callFunc_extern Tryz.func148 (by kernel_rfl) (by kernel_rfl) (by kernel_rfl) (e := Extern.AbiNoEscape.same) (by kernel_rfl)]
  rw [Lib.run_noEscape]
  simp only [Result.andThen]
  rw [Oper.upon_value]
  go_wp2
  rw [Lib.run_from_unsafe w ⟨b, 0, none⟩ Tryz.underlying180 Tryz.underlying121 hj hsh buildLies]
  simp only [Result.andThen]
  rw [Oper.upon_value]
  go_wp2
  go_end0
  exact ⟨rfl, rfl⟩
theorem builderCopy_any (B b : Nat) (bs : List Value) (w : World) (h : Lib.IsBuilder 123 5 B b bs w) :
    Calls Tryz.prog 116 #[.pointer (some ⟨b, 0, none⟩)] w fun e w' => e = .returned (.tuple #[]) ∧ Lib.BuilderAt 123 5 B b (.pointer (some ⟨b, 0, none⟩)) bs w' ∧ Below B w w' := by
  rcases h with h | h
  · refine (copyFresh_any b w h.cell0 h.shape h.frozen0).mono ?_
    rintro e w' ⟨rfl, rfl⟩
    exact ⟨rfl, h.used _, (Below.refl B w).setCell (p := ⟨b, 0, none⟩) h.1 _⟩
  · refine (copyUsed_any b w h.cell0).mono ?_
    rintro e w' ⟨rfl, rfl⟩
    exact ⟨rfl, h, Below.refl B _⟩
theorem byteIE : ∃ i, Tryz.prog.info? 5 = some i ∧ i.zero = some (.int .u8 0) ∧ i.size = 1 ∧ i.bytes = 1 := by
  have h : (Tryz.prog.info? 5).map (fun i => (i.zero, i.size, i.bytes)) = some (some (.int .u8 0), 1, 1) := by kernel_rfl
  obtain ⟨i, hi, hzz⟩ := Option.map_eq_some_iff.1 h
  simp only [Prod.mk.injEq] at hzz
  exact ⟨i, hi, hzz.1, hzz.2.1, hzz.2.2⟩

theorem builder_cell1 {w : World} {b : Nat} {p v : Value} {T : TypeId} (h : w.heap[b]? = some (.cells #[p, v] T (0, 0))) : w.cell? ⟨b, 1, none⟩ = some v := by rw [Lib.cell_of_heap h]; rfl
theorem own_some {w : World} {B n : Nat} {e : TypeId} {v : Value} {xs : List Value} (h : w.ownsRow B e 1 v (n + 1) xs) : ∃ g cap, v = .slice (some ⟨g, 0, none⟩) (n + 1) cap := by
  rcases h.2 with ⟨_, h0⟩ | ⟨g, cap, cur, hv, _⟩
  · omega
  · exact ⟨g, cap, hv⟩
set_option maxHeartbeats 2000000 in
set_option maxRecDepth 100000 in
theorem writeByte_any (B b : Nat) (bs : List Value) (c : Int) (w : World) (h : Lib.IsBuilder 123 5 B b bs w) (hlen : bs.length ≤ 10000000) (hBw : B ≤ w.heap.size) :
    Calls Tryz.prog 84 #[.pointer (some ⟨b, 0, none⟩), .int .u8 c] w fun e w' => e = .returned .nilIface ∧ Lib.IsBuilder 123 5 B b (bs ++ [.int .u8 c]) w' ∧ Below B w w' := by
  have H := Lib.hid h
  clear h
  go_enter Tryz.func84, Tryz.ntmps84
  go_wp2_with fail
  refine (builderCopy_any B b bs w H.out).mono ?_
  rintro e w1 ⟨rfl, h1, hb1⟩
  obtain ⟨hB, v, hbk, hown, hne⟩ := h1
  have c1 : w1.cell? ⟨b, 1, none⟩ = some v := by rw [Lib.cell_of_heap hbk]; rfl
  obtain ⟨oa, oc, rfl⟩ : ∃ oa oc, v = .slice oa bs.length oc := by
    rcases hown.2 with ⟨hv, h0⟩ | ⟨g, cap, cur, hv, _⟩
    · exact ⟨none, 0, by rw [hv, h0]⟩
    · exact ⟨_, _, hv⟩
  have hlt : b < w1.heap.size := (Array.getElem?_eq_some_iff.1 hbk).1
  have HBK := Lib.hid hbk
  have HOWN := Lib.hid hown
  have HNE := Lib.hid hne
  have HB1 := Lib.hid hb1
  clear hbk hown hne hb1 H
  have hb2 : Below w1.heap.size w1 (w1.alloc (.cells #[.int .u8 c] 5)) := (Below.refl _ w1).alloc (Nat.le_refl _) _
  have HBK2 := Lib.hid ((hb2.block b hlt).trans HBK.out)
  have HOWN2 : Hid ((w1.alloc (.cells #[.int .u8 c] 5)).ownsRow B 5 1 (.slice oa bs.length oc) bs.length bs) := Lib.hid (HOWN.out.alloc _)
  have HB2 := Lib.hid (HB1.out.alloc (by have := HB1.out.size; omega) (.cells #[.int .u8 c] 5))
  have hz2 : b < (w1.alloc (.cells #[.int .u8 c] 5)).heap.size := Nat.lt_of_lt_of_le hlt hb2.size
  have HCC : Hid (∀ j u, ([Value.int .u8 c] : List Value)[j]? = some u → (w1.alloc (.cells #[.int .u8 c] 5)).cell? ((⟨w1.heap.size, 0, none⟩ : Addr).add j) = some u) := Lib.hid (by
    intro j u hj
    have hj0 : j = 0 := by have := (List.getElem?_eq_some_iff.1 hj).1; simpa using this
    subst hj0
    cases hj
    show (w1.alloc _).cell? ⟨w1.heap.size, 0, none⟩ = _
    rw [World.cell?_alloc_new]
    rfl)
  clear hb2
  obtain ⟨i, hi, hz, hs1, hs2⟩ := byteIE
  have HIE := Lib.hid (And.intro hi (And.intro hz (And.intro hs1 hs2)))
  clear hi hz hs1 hs2
  go_wp2_with (first | (at_builtin; refine wpList_append_own (w1.alloc (.cells #[.int .u8 c] 5)) rfl _ _ 30 rfl B 5 i (.int .u8 0) 1 1 Tryz.underlying30 HIE.out.1 HIE.out.2.1 HIE.out.2.2.1 HIE.out.2.2.2 rfl (by decide) (.slice oa bs.length oc) bs.length bs rfl HOWN2.out ⟨w1.heap.size, 0, none⟩ 1 1 [.int .u8 c] rfl rfl HCC.out (by intro u hu; rw [List.mem_singleton.1 hu]; rfl) (by unfold maxLen; omega) (by omega) (by have := HB2.out.size; omega) ?_; intro v9 w9 hown9 hg9 _; obtain ⟨g9, cap9, hv9⟩ := own_some hown9; subst hv9; have d1 := builder_cell1 ((hg9.block b hz2 (fun e => HNE.out e.symm)).trans HBK2.out); have f1 := Lib.frozen_of_heap ((hg9.block b hz2 (fun e => HNE.out e.symm)).trans HBK2.out) 1) | fail)
  have HBK9 := Lib.hid ((hg9.block b hz2 (fun e => HNE.out e.symm)).trans HBK2.out)
  have HOWN9 := Lib.hid hown9
  have HB9 : Hid (Below B w w9) := Lib.hid (HB2.out.grown hg9 (by have := HB2.out.size; omega) (fun k hk => (HOWN.out.lt k hk).1))
  clear hown9 hg9 HCC HOWN2 HB2 HBK2
  go_ret
  refine ⟨rfl, .inr ?_, HB9.out.setCell (p := ⟨b, 1, none⟩) hB _⟩
  exact Lib.BuilderAt.put (T := 123) (e := 5) hB HBK9.out (bs' := bs ++ [.int .u8 c]) (by simpa using HOWN9.out) (by decide)
end Go.Proofs.YtpjjkbdkgaehkaaGreatDoor
