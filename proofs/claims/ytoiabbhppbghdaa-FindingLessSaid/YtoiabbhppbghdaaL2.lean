/-
  strings.SplitSeq at a separator of one byte: the iterator's contract.
-/
import Derived.Test.YtoiabbhppbghdaaL1
import Derived.Test.YtoiabbhppbghdaaK
import Derived.OwnWalkIn
import Derived.TacticsInMore
import Derived.LoopNIn
import Derived.LoopIn
namespace Go.Proofs.Ytoiabbhppbghdaa
open Go.RowKit Go.Shelf
attribute [local go_sem] Oper.semAt_some

/-- s cut at every c, as strings -/
def pcs (c : UInt8) (s : ByteArray) : List ByteArray := (V.splitOn c s.data.toList).map fun x => ⟨x.toArray⟩

theorem pcs_none {c : UInt8} {s : ByteArray} (h : c ∉ s.data.toList) : pcs c s = [s] := by
  unfold pcs; rw [V.splitOn_none h]; simp

theorem pcs_some {c : UInt8} {s : ByteArray} {i : Nat} (h : Lib.indexByte s.data.toList c = i) : pcs c s = s.extract 0 i :: pcs c (s.extract (i + 1) s.size) ∧ i < s.size := by
  have hm : c ∈ s.data.toList := by
    have := V.indexByte_mem s.data.toList c
    rw [h] at this
    simpa using this.symm
  have hi : ((s.data.toList.takeWhile (· != c)).length) = i := by
    have h1 : Lib.index s.data.toList [c] = Lib.indexByte s.data.toList c := Lib.index_one s.data.toList c
    rw [V.index_one, if_pos hm, h] at h1
    omega
  have hlt := V.tw_lt hm
  rw [bs_size] at hlt
  refine ⟨?_, by omega⟩
  unfold pcs
  rw [V.splitOn_some hm, List.map_cons, hi, Lib.extract_to_end]
  congr 1
  apply bs_ext
  rw [Lib.extract_data]
  have := V.take_tw s.data.toList (· != c)
  rw [hi] at this
  simp [this]

def strLen : Option Value → Nat
  | some (.string s) => s.size
  | _ => 0

set_option maxRecDepth 100000 in
set_option maxHeartbeats 1000000 in
theorem splitSeq1_in (n : Nat) (hn : 1 ≤ n) (l bS : Nat) (c : UInt8) (s : ByteArray) (hs : s.size ≤ maxLen) (J Jx : List ByteArray → World → Prop)
    (hJ : ∀ s A v, J s A → J s (A.setCell ⟨bS, 0, none⟩ v))
    (hY : ∀ pre x W, J pre W → x.size ≤ maxLen → YieldAt Fence.wide (n - 1) Try.prog l #[.string x] W fun e W' =>
      (e = .returned (.bool true) ∧ J (pre ++ [x]) W' ∧ Below (bS + 3) W W') ∨ (e = .returned (.bool false) ∧ Jx (pre ++ [x]) W'))
    (W : World) (hS : W.cell? ⟨bS, 0, none⟩ = some (.string s)) (hF : W.frozen? ⟨bS, 0, none⟩ = false) (hP : W.cell? ⟨bS + 1, 0, none⟩ = some (.string ⟨#[c]⟩)) (hV : W.cell? ⟨bS + 2, 0, none⟩ = some (.int .i64 0)) (h0 : J [] W) :
    CallsIn Fence.wide n Try.prog 120 #[.func (.yield l) #[] #[], .pointer (some ⟨bS + 1, 0, none⟩), .pointer (some ⟨bS, 0, none⟩), .pointer (some ⟨bS + 2, 0, none⟩)] W fun e W' => (∃ v, e = .returned v) ∧
      ((∃ ys, ys = pcs c s ∧ J ys W') ∨ (∃ pre, pre <+: pcs c s ∧ Jx pre W')) := by
  unfold maxLen at hs
  have HJ := Lib.hid hJ
  have HY := Lib.hid hY
  clear hJ hY
  refine callsIn_of_wp Try.func120 rfl trivial ?_ rfl
  simp only [Try.ntmps120, List.size_toArray, List.length_cons, List.length_nil, Nat.reduceAdd, Nat.reduceSub, Array.replicate_succ, Array.replicate_zero, List.push_toArray, List.append_toArray, List.nil_append, List.cons_append]
  gi_wp2
  gi_loopw [7] (fun _ wr => ∃ (pre : List ByteArray) (r : ByteArray), wr.cell? ⟨bS, 0, none⟩ = some (.string r) ∧ wr.frozen? ⟨bS, 0, none⟩ = false ∧ wr.cell? ⟨bS + 1, 0, none⟩ = some (.string ⟨#[c]⟩) ∧ wr.cell? ⟨bS + 2, 0, none⟩ = some (.int .i64 0) ∧ r.size ≤ 9223372036854775807 ∧ pcs c s = pre ++ pcs c r ∧ J pre wr)
    (fun _ wr => strLen (wr.cell? ⟨bS, 0, none⟩))
  case atStart => exact ⟨[], s, hS, hF, hP, hV, by omega, rfl, h0⟩
  case round =>
    obtain ⟨pre, r, hS, hF, hP, hV, hr, hpc, hj⟩ := hrel
    have HPC := Lib.hid hpc
    have HJS := Lib.hid hj
    clear hpc hj
    have hcase : (Lib.indexByte r.data.toList c = -1 ∧ pcs c r = [r]) ∨ ∃ i : Nat, Lib.indexByte r.data.toList c = i ∧ i < r.size ∧ pcs c r = r.extract 0 i :: pcs c (r.extract (i + 1) r.size) := by
      have hge := Lib.indexByte_ge r.data.toList c
      by_cases hm : Lib.indexByte r.data.toList c = -1
      · refine .inl ⟨hm, pcs_none fun e => ?_⟩
        have := V.indexByte_mem r.data.toList c
        rw [hm] at this
        simp [e] at this
      · obtain ⟨i, hi⟩ := Int.eq_ofNat_of_zero_le (show 0 ≤ Lib.indexByte r.data.toList c by omega)
        exact .inr ⟨i, hi, (pcs_some hi).2, (pcs_some hi).1⟩
    rcases hcase with ⟨hi, hp⟩ | ⟨i, hi, hlt, hp⟩
    · have HI := Lib.hid hi
      have HP := Lib.hid hp
      clear hi hp
      obtain ⟨fn, tmps, assign, body, hy, hR⟩ := HY.out pre r wr HJS.out (by unfold maxLen; omega)
      gi_wp2_with fail
      refine ⟨trivial, (callsIn_wide.2 (Try.strings_Index_one r c _)).mono ?_⟩
      rintro e w' ⟨rfl, rfl⟩
      simp only [HI.out]
      gi_wp2
      refine hR.mono ?_
      rintro e W3 (⟨rfl, hJ3, hk3⟩ | ⟨rfl, hJx3⟩)
      · gi_wp2
        go_end0
        exact ⟨⟨_, rfl⟩, .inl ⟨_, rfl, by rw [HPC.out, HP.out]; exact hJ3⟩⟩
      · gi_wp2
        go_end0
        exact ⟨⟨_, rfl⟩, .inr ⟨_, by rw [HPC.out, HP.out]; exact List.prefix_refl _, hJx3⟩⟩
    · have HI := Lib.hid hi
      have HP := Lib.hid hp
      clear hi hp
      obtain ⟨fn, tmps, assign, body, hy, hR⟩ := HY.out pre (r.extract 0 i) wr HJS.out (by unfold maxLen; simp [ByteArray.size_extract]; omega)
      gi_wp2_with fail
      refine ⟨trivial, (callsIn_wide.2 (Try.strings_Index_one r c _)).mono ?_⟩
      rintro e w' ⟨rfl, rfl⟩
      simp only [HI.out]
      gi_wp2
      refine hR.mono ?_
      rintro e W3 (⟨rfl, hJ3, hk3⟩ | ⟨rfl, hJx3⟩)
      · have hS3 := (hk3.cell (p := ⟨bS, 0, none⟩) (by show bS < bS + 3; omega)).trans hS
        have hF3 := (hk3.frozen (p := ⟨bS, 0, none⟩) (by show bS < bS + 3; omega)).trans hF
        have hP3 := (hk3.cell (p := ⟨bS + 1, 0, none⟩) (by show bS + 1 < bS + 3; omega)).trans hP
        have hV3 := (hk3.cell (p := ⟨bS + 2, 0, none⟩) (by show bS + 2 < bS + 3; omega)).trans hV
        gi_wp2
        go_roundw
        case rel =>
          refine ⟨pre ++ [r.extract 0 i], r.extract (i + 1) r.size, World.cell?_setCell_same _ _ _ hS3, ?_, ?_, ?_, by simp [ByteArray.size_extract]; omega, by rw [HPC.out, HP.out]; simp, HJ.out _ _ _ hJ3⟩
          · rw [World.frozen?_setCell]; exact hF3
          · rw [World.cell?_setCell_other _ _ _ _ (by simp)]; exact hP3
          · rw [World.cell?_setCell_other _ _ _ _ (by simp)]; exact hV3
        case measure =>
          rw [World.cell?_setCell_same _ _ _ hS3, hS]
          simp [strLen, ByteArray.size_extract]; omega
      · gi_wp2
        refine bodyPost_ret (results_none rfl _ _ _) rfl ?_
        exact ⟨⟨_, rfl⟩, .inr ⟨_, by rw [HPC.out, HP.out]; exact ⟨pcs c (r.extract (i + 1) r.size), by simp⟩, hJx3⟩⟩

theorem splitSeq1_seq (n : Nat) (hn : 1 ≤ n) (bS : Nat) (c : UInt8) (s : ByteArray) (hs : s.size ≤ maxLen) (w : World) (hb : bS + 2 < w.heap.size)
    (hS : w.cell? ⟨bS, 0, none⟩ = some (.string s)) (hF : w.frozen? ⟨bS, 0, none⟩ = false) (hP : w.cell? ⟨bS + 1, 0, none⟩ = some (.string ⟨#[c]⟩)) (hV : w.cell? ⟨bS + 2, 0, none⟩ = some (.int .i64 0)) :
    Hands Fence.wide n Try.prog 120 #[.pointer (some ⟨bS + 1, 0, none⟩), .pointer (some ⟨bS, 0, none⟩), .pointer (some ⟨bS + 2, 0, none⟩)] (fun x : ByteArray => #[.string x]) (Below (bS + 3)) (fun ys => ys = pcs c s) (fun pre => pre <+: pcs c s) (fun x => x.size ≤ maxLen) w bS := by
  intro l J Jx W hW hJ hY h0
  have hc := fun o => hW.cell (p := ⟨bS, o, none⟩) (show bS < w.heap.size by omega)
  have hc1 := fun o => hW.cell (p := ⟨bS + 1, o, none⟩) (show bS + 1 < w.heap.size by omega)
  have hc2 := fun o => hW.cell (p := ⟨bS + 2, o, none⟩) (show bS + 2 < w.heap.size by omega)
  refine (splitSeq1_in n hn l bS c s hs J Jx hJ hY W ((hc 0).trans hS) ((hW.frozen (p := ⟨bS, 0, none⟩) (show bS < w.heap.size by omega)).trans hF) ((hc1 0).trans hP) ((hc2 0).trans hV) h0)

set_option maxRecDepth 100000 in
set_option maxHeartbeats 400000 in
theorem splitSeq_any (s sep : ByteArray) (w : World) :
    Calls Try.prog 108 #[.string s, .string sep] w fun e w' =>
      e = .returned (.func (.func 120) #[] #[.pointer (some ⟨w.heap.size + 1, 0, none⟩), .pointer (some ⟨w.heap.size, 0, none⟩), .pointer (some ⟨w.heap.size + 2, 0, none⟩)]) ∧
      w' = ((w.alloc (.cells #[.string s] 9)).alloc (.cells #[.string sep] 9)).alloc (.cells #[.int .i64 0] 3) := by
  go_enter Try.func108, Try.ntmps108
  go_wp2
  go_ret
  exact ⟨rfl, rfl⟩
end Go.Proofs.Ytoiabbhppbghdaa
