/-
  The library's cuts at one byte; slices of strings.
  Walk: pattern.Path.
  strings.SplitSeq at a separator of one byte: the iterator's contract.
-/
import Derived.Test.YtnhfaincdabdkaaGreatDoorV7
import Derived.Test.YtnhfaincdabdkaaGreatDoorP3
import Derived.Test.YtnhfaincdabdkaaGreatDoorJP
import Derived.Test.YtnhfaincdabdkaaGreatDoorDB
import Derived.OwnWalkIn
import Derived.TacticsInMore
import Derived.LoopNIn
import Derived.LoopIn
namespace Go.Proofs.YtnhfaincdabdkaaGreatDoor
open Go.RowKit

/-- the library's variable reads as a number -/
def MaxOk (w : World) : Prop := ∃ m, w.cell? ⟨0, 0, none⟩ = some (.int .i64 m)

theorem MaxOk.below {w w' : World} (h : MaxOk w) (hb : Below w.heap.size w w') : MaxOk w' := by
  obtain ⟨m, hm⟩ := h
  exact ⟨m, (hb.cell (World.block_lt_of_cell? _ _ hm)).trans hm⟩

/-- v is a slice of the strings l -/
def Strs (w : World) (v : Value) (l : List V.Bs) : Prop :=
  ∃ a cap, v = .slice a l.length cap ∧ ∀ j (h : j < l.length), ∃ b off, a = some ⟨b, off, none⟩ ∧ b < w.heap.size ∧ w.cell? ⟨b, off + j, none⟩ = some (.string ⟨l[j].toArray⟩)

theorem Strs.nil (w : World) : Strs w (.slice none 0 0) [] := ⟨none, 0, rfl, fun j h => by simp at h⟩

theorem Strs.below {w w' : World} {v : Value} {l : List V.Bs} (h : Strs w v l) (hb : Below w.heap.size w w') : Strs w' v l := by
  obtain ⟨a, cap, e, hc⟩ := h
  refine ⟨a, cap, e, fun j hj => ?_⟩
  obtain ⟨b, off, ea, hlt, hcell⟩ := hc j hj
  exact ⟨b, off, ea, Nat.lt_of_lt_of_le hlt hb.size, (hb.cell (p := ⟨b, off + j, none⟩) hlt).trans hcell⟩

theorem Strs.setCell {w : World} {b o n c : Nat} {l : List V.Bs} (h : Strs w (.slice (some ⟨b, o, none⟩) n c) l) {a : Addr} (ha : a.block ≠ b) (u : Value) : Strs (w.setCell a u) (.slice (some ⟨b, o, none⟩) n c) l := by
  obtain ⟨a', cap, e, hc⟩ := h
  refine ⟨a', cap, e, fun j hj => ?_⟩
  obtain ⟨b', off, ea, hlt, hcell⟩ := hc j hj
  cases e; cases ea
  refine ⟨b, o, rfl, by simpa [World.setCell] using hlt, ?_⟩
  rw [World.cell?_setCell_other _ _ _ _ (by intro e; rw [e] at ha; exact ha rfl)]
  exact hcell

theorem cut1_len (c : UInt8) (l : V.Bs) : (V.cut1 c l).1.length ≤ l.length ∧ (V.cut1 c l).2.1.length ≤ l.length := by
  unfold V.cut1
  split
  · exact ⟨(List.takeWhile_sublist _).length_le, by simp⟩
  · simp

theorem cut_any (s : ByteArray) (c : UInt8) (w : World) (hm : MaxOk w) (hs : s.size < 4294967281) :
    Calls Tryz.prog 149 #[.string s, .string ⟨#[c]⟩] w fun e w' =>
      e = .returned (.tuple #[.string ⟨(V.cut1 c s.data.toList).1.toArray⟩, .string ⟨(V.cut1 c s.data.toList).2.1.toArray⟩, .bool (V.cut1 c s.data.toList).2.2]) ∧ Below w.heap.size w w' := by
  obtain ⟨m, hm⟩ := hm
  refine (Tryz.strings_Cut s ⟨#[c]⟩ m w hs hm).mono ?_
  rintro e w' ⟨rfl, n, rfl⟩
  have h := V.cut_one s.data.toList c
  rw [show (ByteArray.mk #[c]).data.toList = [c] from rfl, h]
  exact ⟨rfl, below_drewN (Below.refl _ _) n⟩

/-- the cells of a slice of strings -/
def strCells (l : List V.Bs) : Array Value := (l.map fun x => Value.string ⟨x.toArray⟩).toArray

theorem strCells_at (l : List V.Bs) (j : Nat) (h : j < l.length) : (strCells l)[j]? = some (.string ⟨l[j].toArray⟩) := by
  unfold strCells
  simp [List.getElem?_eq_getElem h]

theorem split_any (s : ByteArray) (c : UInt8) (w : World) (hm : MaxOk w) (hs : s.size < 4294967281) :
    Calls Tryz.prog 97 #[.string s, .string ⟨#[c]⟩] w fun e w' =>
      e = .returned (.slice (some ⟨w.heap.size, 0, none⟩) (V.splitOn c s.data.toList).length (V.splitOn c s.data.toList).length) ∧ w' = w.alloc (.cells (strCells (V.splitOn c s.data.toList)) 9) := by
  obtain ⟨m, hm⟩ := hm
  have hsp : (Lib.splitB ⟨#[c]⟩ 0 (Lib.countB s ⟨#[c]⟩) s).map (·.data.toList) = V.splitOn c s.data.toList := by
    rw [Lib.splitB_data, ← V.split_one c _ _ (Nat.le_refl _)]; rfl
  have hlen := Lib.splitB_all ⟨#[c]⟩ (Nat.le_refl 1) 0 _ s rfl
  have hl : (V.splitOn c s.data.toList).length = Lib.countB s ⟨#[c]⟩ + 1 := by rw [← hsp, List.length_map, hlen]
  have hcs : strCells (V.splitOn c s.data.toList) = ((Lib.splitB ⟨#[c]⟩ 0 (Lib.countB s ⟨#[c]⟩) s).map Value.string).toArray := by
    unfold strCells
    rw [← hsp, List.map_map]
    congr 1
  refine (Tryz.strings_Split s ⟨#[c]⟩ m w hs hm (Nat.le_refl 1)).mono ?_
  rintro e w' ⟨rfl, rfl⟩
  rw [hl, hcs]
  exact ⟨rfl, rfl⟩

theorem Strs.split (w : World) (l : List V.Bs) (t : Nat) : Strs (w.alloc (.cells (strCells l) t)) (.slice (some ⟨w.heap.size, 0, none⟩) l.length l.length) l := by
  refine ⟨_, _, rfl, fun j h => ⟨_, _, rfl, by simp, ?_⟩⟩
  rw [World.cell?_alloc_new, Nat.zero_add, strCells_at l j h]

theorem splitOn_le (c : UInt8) : ∀ l : V.Bs, (V.splitOn c l).length ≤ l.length + 1
  | [] => by simp [V.splitOn]
  | b :: l => by
    have ih := splitOn_le c l
    unfold V.splitOn
    split
    · simpa using ih
    · split
      · simp
      · rename_i x r h; rw [h] at ih; simp at ih ⊢; omega

theorem splitOn_mem (c : UInt8) : ∀ (l x : V.Bs), x ∈ V.splitOn c l → x.length ≤ l.length
  | [], x, h => by simp [V.splitOn] at h; simp [h]
  | b :: l, x, h => by
    have ih := splitOn_mem c l
    unfold V.splitOn at h
    split at h
    · rcases List.mem_cons.1 h with h | h
      · simp [h]
      · have := ih x h; simp; omega
    · split at h
      · simp at h; simp [h]
      · rename_i y r he
        rw [he] at ih
        rcases List.mem_cons.1 h with h | h
        · subst h; have := ih y (by simp); simp; omega
        · have := ih x (by simp [h]); simp; omega
end Go.Proofs.YtnhfaincdabdkaaGreatDoor
namespace Go.Proofs.YtnhfaincdabdkaaGreatDoor
open Go.RowKit

theorem indexByte_lt (l : V.Bs) (c : UInt8) : (0 ≤ Lib.indexByte l c) ↔ c ∈ l := decide_eq_decide.1 (V.indexByte_mem l c)

theorem path_short {s : V.Bs} (h : s.length < 1 ∨ 200 < s.length) : V.pathOk s = false := by
  unfold V.pathOk
  rcases h with h | h
  · have : decide (1 ≤ s.length) = false := decide_eq_false (by omega)
    rw [this]; rfl
  · have : decide (s.length ≤ 200) = false := decide_eq_false (by omega)
    rw [this]; simp
theorem path_zero {s : V.Bs} (h : (0 : UInt8) ∈ s) : V.pathOk s = false := by
  unfold V.pathOk; simp [h]
theorem path_rest {s : V.Bs} (h1 : 1 ≤ s.length) (h2 : s.length ≤ 200) (h3 : (0 : UInt8) ∉ s) : V.pathOk s = V.partsOk s := by
  unfold V.pathOk; simp [h1, h2, h3]

set_option maxRecDepth 100000 in
set_option maxHeartbeats 1600000 in
theorem path_any (s : ByteArray) (w : World) (hm : MaxOk w) (hs : s.size ≤ maxLen) :
    Calls Tryz.prog 115 #[.string s] w fun e w' => e = .returned (.bool (V.pathOk s.data.toList)) ∧ Below w.heap.size w w' := by
  have HM := Lib.hid hm
  unfold maxLen at hs
  clear hm
  by_cases h1 : s.size < 1
  · have HR := Lib.hid (path_short (s := s.data.toList) (.inl (by rw [bs_size]; exact h1)))
    go_enter Tryz.func115, Tryz.ntmps115
    go_wp2
    go_ret
    exact ⟨ret_bool HR.out.symm, Below.refl _ _⟩
  · by_cases h2 : 200 < s.size
    · have HR := Lib.hid (path_short (s := s.data.toList) (.inr (by rw [bs_size]; exact h2)))
      go_enter Tryz.func115, Tryz.ntmps115
      go_wp2
      go_ret
      exact ⟨ret_bool HR.out.symm, Below.refl _ _⟩
    · have h1' : 1 ≤ s.size := by omega
      have h2' : s.size ≤ 200 := by omega
      clear h1 h2
      by_cases hz : (0 : UInt8) ∈ s.data.toList
      · have HR := Lib.hid (path_zero hz)
        have HI : 0 ≤ Lib.indexByte s.data.toList 0 := (indexByte_lt s.data.toList 0).2 hz
        clear hz
        go_enter Tryz.func115, Tryz.ntmps115
        go_wp2_with fail
        refine (Tryz.strings_IndexByte s 0 _).mono ?_
        rintro e w' ⟨rfl, rfl⟩
        rw [show ((0 : Int).toNat.toUInt8) = (0 : UInt8) from rfl]
        generalize Lib.indexByte s.data.toList 0 = ib at *
        go_wp2
        go_ret
        exact ⟨ret_bool HR.out.symm, Below.refl _ _⟩
      · have HR := Lib.hid (path_rest (s := s.data.toList) (by rw [bs_size]; exact h1') (by rw [bs_size]; exact h2') hz)
        have HI : ¬ 0 ≤ Lib.indexByte s.data.toList 0 := fun g => hz ((indexByte_lt s.data.toList 0).1 g)
        clear hz
        go_enter Tryz.func115, Tryz.ntmps115
        go_wp2_with fail
        refine (Tryz.strings_IndexByte s 0 _).mono ?_
        rintro e w' ⟨rfl, rfl⟩
        rw [show ((0 : Int).toNat.toUInt8) = (0 : UInt8) from rfl]
        generalize Lib.indexByte s.data.toList 0 = ib at *
        go_wp2
        go_loopw [0, 3] (fun sv mo wr => ∃ (x : ByteArray) (more : Bool), sv = .string x ∧ mo = .bool more ∧ x.size ≤ s.size ∧ V.pathOk s.data.toList = (if more then V.partsOk x.data.toList else true) ∧ Below w'.heap.size w' wr) (fun sv mo _ => (match sv with | .string x => x.size | _ => 0) + (match mo with | .bool true => 1 | _ => 0))
        case atStart => exact ⟨s, true, rfl, rfl, Nat.le_refl _, HR.out, Below.refl _ _⟩
        case round =>
          obtain ⟨x, more, rfl, rfl, hx, hp, hb⟩ := hrel
          have HB := Lib.hid hb
          have HP := Lib.hid hp
          clear hb hp
          rcases more with _ | _
          · go_wp2
            go_ret
            exact ⟨ret_bool HP.out.symm, HB.out⟩
          · have hcl := cut1_len 47 x.data.toList
            have HC := Lib.hid (V.parts_cut x.data.toList)
            have HD := Lib.hid (V.partOk_cases (V.cut1 47 x.data.toList).1)
            have HS : Hid ((V.cut1 47 x.data.toList).2.2 = true → (V.cut1 47 x.data.toList).2.1.length < x.size) := Lib.hid (fun h => by
              have := congrArg List.length (V.cut_whole 47 x.data.toList h)
              rw [bs_size] at this
              simp at this; omega)
            rw [bs_size] at hcl
            go_wp2_with fail
            refine (cut_any x 47 _ (HM.out.below HB.out) (by omega)).mono ?_
            rintro e w1 ⟨rfl, hb1⟩
            have HB1 := Lib.hid (HB.out.trans (hb1.mono HB.out.size))
            clear hb1
            generalize (V.cut1 47 x.data.toList).1 = p at *
            generalize (V.cut1 47 x.data.toList).2.1 = q at *
            generalize (V.cut1 47 x.data.toList).2.2 = more at *
            rcases HD.out with ⟨rfl, e⟩ | ⟨rfl, e⟩ | ⟨rfl, e⟩ | ⟨e1, e2, e3, e⟩
            · have HE := Lib.hid e
              clear HD e
              go_wp2
              go_ret
              refine ⟨ret_bool ?_, HB1.out⟩
              rw [HP.out, if_pos (by trivial), HC.out, HE.out]
              cases more <;> rfl
            · have HE := Lib.hid e
              clear HD e
              go_wp2
              go_ret
              refine ⟨ret_bool ?_, HB1.out⟩
              rw [HP.out, if_pos (by trivial), HC.out, HE.out]
              cases more <;> rfl
            · have HE := Lib.hid e
              clear HD e
              go_wp2
              go_ret
              refine ⟨ret_bool ?_, HB1.out⟩
              rw [HP.out, if_pos (by trivial), HC.out, HE.out]
              cases more <;> rfl
            · have HE := Lib.hid e
              clear HD e
              have HT : Hid (V.pathOk s.data.toList = if more then V.partsOk q else true) := Lib.hid (by
                rw [HP.out, if_pos (by trivial), HC.out, HE.out]; cases more <;> rfl)
              clear HC HP
              go_wp2
              go_roundw
              case rel => exact ⟨⟨q.toArray⟩, more, rfl, rfl, by show q.toArray.size ≤ _; simp; omega, by rw [bs_mk]; exact HT.out, HB1.out⟩
              case measure =>
                have hq : (⟨q.toArray⟩ : ByteArray).size = q.length := by show q.toArray.size = _; simp
                have := HS.out
                rcases more with _ | _
                · simp [hq]; omega
                · have := this rfl
                  simp [hq]; omega
end Go.Proofs.YtnhfaincdabdkaaGreatDoor
namespace Go.Proofs.YtnhfaincdabdkaaGreatDoor
open Go.RowKit Go.Shelf
attribute [local go_sem] Oper.semAt_some

/-- s cut at every c, as strings -/
def pcs (c : UInt8) (s : ByteArray) : List ByteArray := (V.splitOn c s.data.toList).map fun x => ⟨x.toArray⟩

theorem pcs_none {c : UInt8} {s : ByteArray} (h : c ∉ s.data.toList) : pcs c s = [s] := by
  unfold pcs; rw [V.splitOn_none h]; simp

theorem pcs_some {c : UInt8} {s : ByteArray} {i : Nat} (h : Lib.indexByte s.data.toList c = i) : pcs c s = s.extract 0 i :: pcs c (s.extract (i + 1) s.size) ∧ i < s.size := by
  have hm : c ∈ s.data.toList := by
    have := V.indexByte_mem s.data.toList c
    rw [h] at this
    simpa using this.symm
  have hi : ((s.data.toList.takeWhile (· != c)).length) = i := by
    have h1 : Lib.index s.data.toList [c] = Lib.indexByte s.data.toList c := Lib.index_one s.data.toList c
    rw [V.index_one, if_pos hm, h] at h1
    omega
  have hlt := V.tw_lt hm
  rw [bs_size] at hlt
  refine ⟨?_, by omega⟩
  unfold pcs
  rw [V.splitOn_some hm, List.map_cons, hi, Lib.extract_to_end]
  congr 1
  apply bs_ext
  rw [Lib.extract_data]
  have := V.take_tw s.data.toList (· != c)
  rw [hi] at this
  simp [this]

def strLen : Option Value → Nat
  | some (.string s) => s.size
  | _ => 0

set_option maxRecDepth 100000 in
set_option maxHeartbeats 1000000 in
theorem splitSeq1_in (n : Nat) (hn : 1 ≤ n) (l bS : Nat) (c : UInt8) (s : ByteArray) (hs : s.size ≤ maxLen) (J Jx : List ByteArray → World → Prop)
    (hJ : ∀ s A v, J s A → J s (A.setCell ⟨bS, 0, none⟩ v))
    (hY : ∀ pre x W, J pre W → x.size ≤ maxLen → YieldAt Fence.wide (n - 1) Tryz.prog l #[.string x] W fun e W' =>
      (e = .returned (.bool true) ∧ J (pre ++ [x]) W' ∧ Below (bS + 3) W W') ∨ (e = .returned (.bool false) ∧ Jx (pre ++ [x]) W'))
    (W : World) (hS : W.cell? ⟨bS, 0, none⟩ = some (.string s)) (hF : W.frozen? ⟨bS, 0, none⟩ = false) (hP : W.cell? ⟨bS + 1, 0, none⟩ = some (.string ⟨#[c]⟩)) (hV : W.cell? ⟨bS + 2, 0, none⟩ = some (.int .i64 0)) (h0 : J [] W) :
    CallsIn Fence.wide n Tryz.prog 276 #[.func (.yield l) #[] #[], .pointer (some ⟨bS + 1, 0, none⟩), .pointer (some ⟨bS, 0, none⟩), .pointer (some ⟨bS + 2, 0, none⟩)] W fun e W' => (∃ v, e = .returned v) ∧
      ((∃ ys, ys = pcs c s ∧ J ys W') ∨ (∃ pre, pre <+: pcs c s ∧ Jx pre W')) := by
  unfold maxLen at hs
  have HJ := Lib.hid hJ
  have HY := Lib.hid hY
  clear hJ hY
  refine callsIn_of_wp Tryz.func276 rfl trivial ?_ rfl
  simp only [Tryz.ntmps276, List.size_toArray, List.length_cons, List.length_nil, Nat.reduceAdd, Nat.reduceSub, Array.replicate_succ, Array.replicate_zero, List.push_toArray, List.append_toArray, List.nil_append, List.cons_append]
  gi_wp2
  gi_loopw [7] (fun _ wr => ∃ (pre : List ByteArray) (r : ByteArray), wr.cell? ⟨bS, 0, none⟩ = some (.string r) ∧ wr.frozen? ⟨bS, 0, none⟩ = false ∧ wr.cell? ⟨bS + 1, 0, none⟩ = some (.string ⟨#[c]⟩) ∧ wr.cell? ⟨bS + 2, 0, none⟩ = some (.int .i64 0) ∧ r.size ≤ 9223372036854775807 ∧ pcs c s = pre ++ pcs c r ∧ J pre wr)
    (fun _ wr => strLen (wr.cell? ⟨bS, 0, none⟩))
  case atStart => exact ⟨[], s, hS, hF, hP, hV, by omega, rfl, h0⟩
  case round =>
    obtain ⟨pre, r, hS, hF, hP, hV, hr, hpc, hj⟩ := hrel
    have HPC := Lib.hid hpc
    have HJS := Lib.hid hj
    clear hpc hj
    have hcase : (Lib.indexByte r.data.toList c = -1 ∧ pcs c r = [r]) ∨ ∃ i : Nat, Lib.indexByte r.data.toList c = i ∧ i < r.size ∧ pcs c r = r.extract 0 i :: pcs c (r.extract (i + 1) r.size) := by
      have hge := Lib.indexByte_ge r.data.toList c
      by_cases hm : Lib.indexByte r.data.toList c = -1
      · refine .inl ⟨hm, pcs_none fun e => ?_⟩
        have := V.indexByte_mem r.data.toList c
        rw [hm] at this
        simp [e] at this
      · obtain ⟨i, hi⟩ := Int.eq_ofNat_of_zero_le (show 0 ≤ Lib.indexByte r.data.toList c by omega)
        exact .inr ⟨i, hi, (pcs_some hi).2, (pcs_some hi).1⟩
    rcases hcase with ⟨hi, hp⟩ | ⟨i, hi, hlt, hp⟩
    · have HI := Lib.hid hi
      have HP := Lib.hid hp
      clear hi hp
      obtain ⟨fn, tmps, assign, body, hy, hR⟩ := HY.out pre r wr HJS.out (by unfold maxLen; omega)
      gi_wp2_with fail
      refine ⟨trivial, (callsIn_wide.2 (Tryz.strings_Index_one r c _)).mono ?_⟩
      rintro e w' ⟨rfl, rfl⟩
      simp only [HI.out]
      gi_wp2
      refine hR.mono ?_
      rintro e W3 (⟨rfl, hJ3, hk3⟩ | ⟨rfl, hJx3⟩)
      · gi_wp2
        go_end0
        exact ⟨⟨_, rfl⟩, .inl ⟨_, rfl, by rw [HPC.out, HP.out]; exact hJ3⟩⟩
      · gi_wp2
        go_end0
        exact ⟨⟨_, rfl⟩, .inr ⟨_, by rw [HPC.out, HP.out]; exact List.prefix_refl _, hJx3⟩⟩
    · have HI := Lib.hid hi
      have HP := Lib.hid hp
      clear hi hp
      obtain ⟨fn, tmps, assign, body, hy, hR⟩ := HY.out pre (r.extract 0 i) wr HJS.out (by unfold maxLen; simp [ByteArray.size_extract]; omega)
      gi_wp2_with fail
      refine ⟨trivial, (callsIn_wide.2 (Tryz.strings_Index_one r c _)).mono ?_⟩
      rintro e w' ⟨rfl, rfl⟩
      simp only [HI.out]
      gi_wp2
      refine hR.mono ?_
      rintro e W3 (⟨rfl, hJ3, hk3⟩ | ⟨rfl, hJx3⟩)
      · have hS3 := (hk3.cell (p := ⟨bS, 0, none⟩) (by show bS < bS + 3; omega)).trans hS
        have hF3 := (hk3.frozen (p := ⟨bS, 0, none⟩) (by show bS < bS + 3; omega)).trans hF
        have hP3 := (hk3.cell (p := ⟨bS + 1, 0, none⟩) (by show bS + 1 < bS + 3; omega)).trans hP
        have hV3 := (hk3.cell (p := ⟨bS + 2, 0, none⟩) (by show bS + 2 < bS + 3; omega)).trans hV
        gi_wp2
        go_roundw
        case rel =>
          refine ⟨pre ++ [r.extract 0 i], r.extract (i + 1) r.size, World.cell?_setCell_same _ _ _ hS3, ?_, ?_, ?_, by simp [ByteArray.size_extract]; omega, by rw [HPC.out, HP.out]; simp, HJ.out _ _ _ hJ3⟩
          · rw [World.frozen?_setCell]; exact hF3
          · rw [World.cell?_setCell_other _ _ _ _ (by simp)]; exact hP3
          · rw [World.cell?_setCell_other _ _ _ _ (by simp)]; exact hV3
        case measure =>
          rw [World.cell?_setCell_same _ _ _ hS3, hS]
          simp [strLen, ByteArray.size_extract]; omega
      · gi_wp2
        refine bodyPost_ret (results_none rfl _ _ _) rfl ?_
        exact ⟨⟨_, rfl⟩, .inr ⟨_, by rw [HPC.out, HP.out]; exact ⟨pcs c (r.extract (i + 1) r.size), by simp⟩, hJx3⟩⟩

theorem splitSeq1_seq (n : Nat) (hn : 1 ≤ n) (bS : Nat) (c : UInt8) (s : ByteArray) (hs : s.size ≤ maxLen) (w : World) (hb : bS + 2 < w.heap.size)
    (hS : w.cell? ⟨bS, 0, none⟩ = some (.string s)) (hF : w.frozen? ⟨bS, 0, none⟩ = false) (hP : w.cell? ⟨bS + 1, 0, none⟩ = some (.string ⟨#[c]⟩)) (hV : w.cell? ⟨bS + 2, 0, none⟩ = some (.int .i64 0)) :
    Hands Fence.wide n Tryz.prog 276 #[.pointer (some ⟨bS + 1, 0, none⟩), .pointer (some ⟨bS, 0, none⟩), .pointer (some ⟨bS + 2, 0, none⟩)] (fun x : ByteArray => #[.string x]) (Below (bS + 3)) (fun ys => ys = pcs c s) (fun pre => pre <+: pcs c s) (fun x => x.size ≤ maxLen) w bS := by
  intro l J Jx W hW hJ hY h0
  have hc := fun o => hW.cell (p := ⟨bS, o, none⟩) (show bS < w.heap.size by omega)
  have hc1 := fun o => hW.cell (p := ⟨bS + 1, o, none⟩) (show bS + 1 < w.heap.size by omega)
  have hc2 := fun o => hW.cell (p := ⟨bS + 2, o, none⟩) (show bS + 2 < w.heap.size by omega)
  refine (splitSeq1_in n hn l bS c s hs J Jx hJ hY W ((hc 0).trans hS) ((hW.frozen (p := ⟨bS, 0, none⟩) (show bS < w.heap.size by omega)).trans hF) ((hc1 0).trans hP) ((hc2 0).trans hV) h0)

set_option maxRecDepth 100000 in
set_option maxHeartbeats 400000 in
theorem splitSeq_any (s sep : ByteArray) (w : World) :
    Calls Tryz.prog 267 #[.string s, .string sep] w fun e w' =>
      e = .returned (.func (.func 276) #[] #[.pointer (some ⟨w.heap.size + 1, 0, none⟩), .pointer (some ⟨w.heap.size, 0, none⟩), .pointer (some ⟨w.heap.size + 2, 0, none⟩)]) ∧
      w' = ((w.alloc (.cells #[.string s] 9)).alloc (.cells #[.string sep] 9)).alloc (.cells #[.int .i64 0] 3) := by
  go_enter Tryz.func267, Tryz.ntmps267
  go_wp2
  go_ret
  exact ⟨rfl, rfl⟩
end Go.Proofs.YtnhfaincdabdkaaGreatDoor
