/-
  The library's cuts at one byte; slices of strings.
  Slices of strings: their elements as an index reads them.
-/
import Derived.Test.YtpjjkbdkgaehkaaGreatDoorV6
import Derived.Test.YtpjjkbdkgaehkaaGreatDoorP6
namespace Go.Proofs.YtpjjkbdkgaehkaaGreatDoor
open Go.RowKit

/-- the library's variable reads as a number -/
def MaxOk (w : World) : Prop := ∃ m, w.cell? ⟨0, 0, none⟩ = some (.int .i64 m)

theorem MaxOk.below {w w' : World} (h : MaxOk w) (hb : Below w.heap.size w w') : MaxOk w' := by
  obtain ⟨m, hm⟩ := h
  exact ⟨m, (hb.cell (World.block_lt_of_cell? _ _ hm)).trans hm⟩

/-- v is a slice of the strings l -/
def Strs (w : World) (v : Value) (l : List V.Bs) : Prop :=
  ∃ a cap, v = .slice a l.length cap ∧ ∀ j (h : j < l.length), ∃ b off, a = some ⟨b, off, none⟩ ∧ b < w.heap.size ∧ w.cell? ⟨b, off + j, none⟩ = some (.string ⟨l[j].toArray⟩)

theorem Strs.nil (w : World) : Strs w (.slice none 0 0) [] := ⟨none, 0, rfl, fun j h => by simp at h⟩

theorem Strs.below {w w' : World} {v : Value} {l : List V.Bs} (h : Strs w v l) (hb : Below w.heap.size w w') : Strs w' v l := by
  obtain ⟨a, cap, e, hc⟩ := h
  refine ⟨a, cap, e, fun j hj => ?_⟩
  obtain ⟨b, off, ea, hlt, hcell⟩ := hc j hj
  exact ⟨b, off, ea, Nat.lt_of_lt_of_le hlt hb.size, (hb.cell (p := ⟨b, off + j, none⟩) hlt).trans hcell⟩

theorem Strs.setCell {w : World} {b o n c : Nat} {l : List V.Bs} (h : Strs w (.slice (some ⟨b, o, none⟩) n c) l) {a : Addr} (ha : a.block ≠ b) (u : Value) : Strs (w.setCell a u) (.slice (some ⟨b, o, none⟩) n c) l := by
  obtain ⟨a', cap, e, hc⟩ := h
  refine ⟨a', cap, e, fun j hj => ?_⟩
  obtain ⟨b', off, ea, hlt, hcell⟩ := hc j hj
  cases e; cases ea
  refine ⟨b, o, rfl, by simpa [World.setCell] using hlt, ?_⟩
  rw [World.cell?_setCell_other _ _ _ _ (by intro e; rw [e] at ha; exact ha rfl)]
  exact hcell

theorem cut1_len (c : UInt8) (l : V.Bs) : (V.cut1 c l).1.length ≤ l.length ∧ (V.cut1 c l).2.1.length ≤ l.length := by
  unfold V.cut1
  split
  · exact ⟨(List.takeWhile_sublist _).length_le, by simp⟩
  · simp

theorem cut_any (s : ByteArray) (c : UInt8) (w : World) (hm : MaxOk w) (hs : s.size < 4294967281) :
    Calls Tryz.prog 90 #[.string s, .string ⟨#[c]⟩] w fun e w' =>
      e = .returned (.tuple #[.string ⟨(V.cut1 c s.data.toList).1.toArray⟩, .string ⟨(V.cut1 c s.data.toList).2.1.toArray⟩, .bool (V.cut1 c s.data.toList).2.2]) ∧ Below w.heap.size w w' := by
  obtain ⟨m, hm⟩ := hm
  refine (Tryz.strings_Cut s ⟨#[c]⟩ m w hs hm).mono ?_
  rintro e w' ⟨rfl, n, rfl⟩
  have h := V.cut_one s.data.toList c
  rw [show (ByteArray.mk #[c]).data.toList = [c] from rfl, h]
  exact ⟨rfl, below_drewN (Below.refl _ _) n⟩

/-- the cells of a slice of strings -/
def strCells (l : List V.Bs) : Array Value := (l.map fun x => Value.string ⟨x.toArray⟩).toArray

theorem strCells_at (l : List V.Bs) (j : Nat) (h : j < l.length) : (strCells l)[j]? = some (.string ⟨l[j].toArray⟩) := by
  unfold strCells
  simp [List.getElem?_eq_getElem h]

theorem split_any (s : ByteArray) (c : UInt8) (w : World) (hm : MaxOk w) (hs : s.size < 4294967281) :
    Calls Tryz.prog 39 #[.string s, .string ⟨#[c]⟩] w fun e w' =>
      e = .returned (.slice (some ⟨w.heap.size, 0, none⟩) (V.splitOn c s.data.toList).length (V.splitOn c s.data.toList).length) ∧ w' = w.alloc (.cells (strCells (V.splitOn c s.data.toList)) 9) := by
  obtain ⟨m, hm⟩ := hm
  have hsp : (Lib.splitB ⟨#[c]⟩ 0 (Lib.countB s ⟨#[c]⟩) s).map (·.data.toList) = V.splitOn c s.data.toList := by
    rw [Lib.splitB_data, ← V.split_one c _ _ (Nat.le_refl _)]; rfl
  have hlen := Lib.splitB_all ⟨#[c]⟩ (Nat.le_refl 1) 0 _ s rfl
  have hl : (V.splitOn c s.data.toList).length = Lib.countB s ⟨#[c]⟩ + 1 := by rw [← hsp, List.length_map, hlen]
  have hcs : strCells (V.splitOn c s.data.toList) = ((Lib.splitB ⟨#[c]⟩ 0 (Lib.countB s ⟨#[c]⟩) s).map Value.string).toArray := by
    unfold strCells
    rw [← hsp, List.map_map]
    congr 1
  refine (Tryz.strings_Split s ⟨#[c]⟩ m w hs hm (Nat.le_refl 1)).mono ?_
  rintro e w' ⟨rfl, rfl⟩
  rw [hl, hcs]
  exact ⟨rfl, rfl⟩

theorem Strs.split (w : World) (l : List V.Bs) (t : Nat) : Strs (w.alloc (.cells (strCells l) t)) (.slice (some ⟨w.heap.size, 0, none⟩) l.length l.length) l := by
  refine ⟨_, _, rfl, fun j h => ⟨_, _, rfl, by simp, ?_⟩⟩
  rw [World.cell?_alloc_new, Nat.zero_add, strCells_at l j h]

theorem splitOn_le (c : UInt8) : ∀ l : V.Bs, (V.splitOn c l).length ≤ l.length + 1
  | [] => by simp [V.splitOn]
  | b :: l => by
    have ih := splitOn_le c l
    unfold V.splitOn
    split
    · simpa using ih
    · split
      · simp
      · rename_i x r h; rw [h] at ih; simp at ih ⊢; omega

theorem splitOn_mem (c : UInt8) : ∀ (l x : V.Bs), x ∈ V.splitOn c l → x.length ≤ l.length
  | [], x, h => by simp [V.splitOn] at h; simp [h]
  | b :: l, x, h => by
    have ih := splitOn_mem c l
    unfold V.splitOn at h
    split at h
    · rcases List.mem_cons.1 h with h | h
      · simp [h]
      · have := ih x h; simp; omega
    · split at h
      · simp at h; simp [h]
      · rename_i y r he
        rw [he] at ih
        rcases List.mem_cons.1 h with h | h
        · subst h; have := ih y (by simp); simp; omega
        · have := ih x (by simp [h]); simp; omega
end Go.Proofs.YtpjjkbdkgaehkaaGreatDoor
namespace Go.Proofs.YtpjjkbdkgaehkaaGreatDoor
open Go.RowKit

/-- an element of a slice of strings, as an index reads it -/
theorem Strs.at {w : World} {a : Option Addr} {n cap : Nat} {l : List V.Bs} (h : Strs w (.slice a n cap) l) (j : Nat) (hj : j < l.length) :
    ∃ b off, a = some ⟨b, off, none⟩ ∧ b < w.heap.size ∧ w.cell? ⟨b, off + j, none⟩ = some (.string ⟨(l.getD j []).toArray⟩) := by
  obtain ⟨a', c, e, hc⟩ := h
  obtain ⟨b, off, ea, hb, hcell⟩ := hc j hj
  cases e
  refine ⟨b, off, ea, hb, ?_⟩
  rw [List.getD_eq_getElem?_getD, List.getElem?_eq_getElem hj]
  exact hcell

theorem Strs.slice {w : World} {v : Value} {l : List V.Bs} (h : Strs w v l) : ∃ a cap, v = .slice a l.length cap := by
  obtain ⟨a, c, e, _⟩ := h
  exact ⟨a, c, e⟩

/-- a slice of some strings: its address and its cells -/
theorem Strs.head {w : World} {v : Value} {l : List V.Bs} (h : Strs w v l) (h0 : 0 < l.length) :
    ∃ b off cap, v = .slice (some ⟨b, off, none⟩) l.length cap ∧ b < w.heap.size ∧ ∀ j, j < l.length → w.cell? ⟨b, off + j, none⟩ = some (.string ⟨(l.getD j []).toArray⟩) := by
  obtain ⟨a, c, e, hc⟩ := h
  obtain ⟨b, off, rfl, hb, _⟩ := hc 0 h0
  refine ⟨b, off, c, e, hb, fun j hj => ?_⟩
  obtain ⟨b', off', ea, _, hcell⟩ := hc j hj
  cases ea
  rw [List.getD_eq_getElem?_getD, List.getElem?_eq_getElem hj]
  exact hcell

end Go.Proofs.YtpjjkbdkgaehkaaGreatDoor
