/-
  Arguments read: range sets.
  Walks: strings.Join of a row of one's own; the text of an interval, in package ranges and in the reference. (Printed by gen_MX.py.)
-/
import Derived.Test.YtpjjkbdkgaehkaaGreatDoorMC
import Derived.Test.YtpjjkbdkgaehkaaGreatDoorMK
import Derived.Test.YtpjjkbdkgaehkaaGreatDoorSL
import Derived.Test.YtpjjkbdkgaehkaaGreatDoorU9
import Derived.ProofKit
import Derived.DeepKeys5
import Derived.Deep.Strs
namespace Go.Proofs.YtpjjkbdkgaehkaaGreatDoor
open Go.ChangeShapes Go.WideShapes Go.ChangeAt Go.RowKit

theorem mapM_all2 {α β : Type} {f : α → Option β} : ∀ {l : List α} {r : List β}, l.mapM f = some r → ∀ x ∈ l, ∃ y, f x = some y
  | [], _, _, x, hx => by simp at hx
  | a :: l, r, h, x, hx => by
    rw [List.mapM_cons] at h
    cases ha : f a with
    | none => rw [ha] at h; cases h
    | some b =>
      rw [ha] at h
      cases hl : l.mapM f with
      | none => rw [hl] at h; cases h
      | some bs =>
        rcases List.mem_cons.1 hx with rfl | hx
        · exact ⟨b, ha⟩
        · exact mapM_all2 hl x hx
theorem add_plain2 (b o i : Nat) : (⟨b, o, none⟩ : Addr).add i = ⟨b, o + i, none⟩ := Addr.add_mid b o i
theorem cells_int2 : Tryz.prog.cellsOf 3 = 1 := by kernel_rfl
theorem cells_str2 : Tryz.prog.cellsOf 9 = 1 := by kernel_rfl
theorem cells_itv : Tryz.prog.cellsOf 80 = 4 := by kernel_rfl
theorem cells_itvs : Tryz.prog.cellsOf 37 = 1 := by kernel_rfl
theorem cells_set : Tryz.prog.cellsOf 39 = 2 := by kernel_rfl
theorem itvKey : Tryz.prog.keyTypeAt 2 80 = true := by kernel_rfl
def itvCells (x : V.Itv) : List Value := [.string ⟨x.lo.toArray⟩, .int .i64 x.lk, .string ⟨x.hi.toArray⟩, .int .i64 x.hk]
theorem int_of_lits2 {d : Nat} {cs : List Value} {l : List Lit} (h : Tryz.prog.keyLits d 3 cs = some l) : ∃ n, cs = [.int .i64 n] ∧ (Lit.int .i64 n).wf = true := by
  obtain ⟨n, hc, hl⟩ := keyLits_int' Tryz.underlying3 h
  exact ⟨n, hc, keyLits_wf h (.int .i64 n) (by rw [hl]; simp)⟩
theorem str_of_lits2 {d : Nat} {cs : List Value} {l : List Lit} (h : Tryz.prog.keyLits d 9 cs = some l) : ∃ s : V.Bs, cs = [.string ⟨s.toArray⟩] ∧ s.length ≤ maxLen := by
  obtain ⟨s, hc, hl⟩ := keyLits_string' Tryz.underlying9 h
  exact ⟨s.data.toList, by rw [hc], keyLits_wf h (.string s.data.toList) (by rw [hl]; simp)⟩
theorem keyLits_struct2 {P : Program} {d : Nat} {t : TypeId} {cs : List Value} {fs : Array Field} (hu : P.underlying t = some (.struct fs)) : P.keyLits (d + 1) t cs =
    (if cs.length = P.cellsOf t ∧ fs.all (·.name != "_") = true then (fs.toList.mapM fun f => P.keyLits d f.type ((cs.drop f.offset).take (P.cellsOf f.type))).map List.flatten else none) := by
  conv => lhs; unfold Program.keyLits
  rw [hu]
/-- an interval that came in -/
def ItvWf (x : V.Itv) : Prop := x.lo.length ≤ maxLen ∧ x.hi.length ≤ maxLen ∧ (Lit.int .i64 x.lk).wf = true ∧ (Lit.int .i64 x.hk).wf = true
theorem itv_of_lits {d : Nat} {cs : List Value} {l : List Lit} (h : Tryz.prog.keyLits (d + 1) 80 cs = some l) : ∃ x : V.Itv, ItvWf x ∧ cs = itvCells x := by
  rw [keyLits_struct2 Tryz.underlying80] at h
  split at h
  · rename_i hc
    have hl := hc.1
    rw [cells_itv] at hl
    simp only [Option.map_eq_some_iff] at h
    obtain ⟨r, hr, _⟩ := h
    have hall := mapM_all2 hr
    simp only [List.mem_cons, List.not_mem_nil, or_false, forall_eq_or_imp, forall_eq] at hall
    obtain ⟨⟨_, g0⟩, ⟨_, g1⟩, ⟨_, g2⟩, ⟨_, g3⟩⟩ := hall
    obtain ⟨lo, e0, w0⟩ := str_of_lits2 g0
    obtain ⟨lk, e1, w1⟩ := int_of_lits2 g1
    obtain ⟨hi, e2, w2⟩ := str_of_lits2 g2
    obtain ⟨hk, e3, w3⟩ := int_of_lits2 g3
    simp only [cells_int2, cells_str2] at e0 e1 e2 e3
    refine ⟨⟨lo, lk, hi, hk⟩, ⟨w0, w2, w1, w3⟩, ?_⟩
    rcases cs with _ | ⟨a, _ | ⟨b, _ | ⟨c, _ | ⟨e, rest⟩⟩⟩⟩
    · simp at hl
    · simp at hl
    · simp at hl
    · simp at hl
    · have hrl : rest = [] := by simpa using hl
      subst hrl
      simp at e0 e1 e2 e3
      rw [e0, e1, e2, e3]
      rfl
  · cases h
theorem itv_of_trod {H : Type} {enc : TypeId × Value → H} {W : World} {base : Nat} {sp : Nat → Bool} {hd : Bool} {n : Nat} {cs : List Value} {x : DataW H × List MemPlace} (h : DataW.trod enc Tryz.prog W base sp hd n 80 cs = some x) : ∃ c : V.Itv, ItvWf c ∧ cs = itvCells c :=
  itv_of_lits (keyLits_of_trod (P := Tryz.prog) 2 80 itvKey n cs x h).1
theorem itvs_of_trod {H : Type} {enc : TypeId × Value → H} {W : World} {base : Nat} {sp : Nat → Bool} {hd : Bool} {n : Nat} {cs : List Value} {x : DataW H × List MemPlace} (h : DataW.trod enc Tryz.prog W base sp hd n 37 cs = some x) : ∃ (v : Value) (l : List V.Itv), cs = [v] ∧ Itvs W v l ∧ (∀ c ∈ l, ItvWf c) ∧ l.length ≤ maxLen := by
  rcases Go.Deep.open_slice Tryz.underlying37 h with ⟨rfl, _⟩ | ⟨a, len, cap, m, n', D, Pl, rfl, hb, hl, hm, hmm, _, hx⟩
  · exact ⟨_, [], rfl, Itvs.nil W, (fun c hc => by cases hc), Nat.zero_le _⟩
  · have hlm : len ≤ m := by rw [hmm]; split <;> omega
    rw [cells_itv] at hx
    have each : ∀ i, i < len → ∃ c : V.Itv, ItvWf c ∧ ∀ j, j < 4 → W.cell? ((a.add (i * 4)).add j) = (itvCells c)[j]? := fun i hi => by
      obtain ⟨cs', h1, h2⟩ := hx i (by omega)
      obtain ⟨c, hc, rfl⟩ := itv_of_trod h2
      exact ⟨c, hc, (World.cells?_some h1).2.2⟩
    have : Inhabited V.Itv := ⟨V.noI⟩
    obtain ⟨f, hf⟩ := Go.Deep.choose_lt each
    refine ⟨_, (List.range len).map f, rfl, ⟨some a, cap, by simp, fun j hj => ?_⟩, fun c hc => ?_, ?_⟩
    · have hj' : j < len := by simpa using hj
      have he : ((List.range len).map f)[j] = f j := by simp
      rw [he]
      obtain ⟨hw, hc⟩ := hf j hj'
      obtain ⟨b, off, spot⟩ := a
      have hspot : spot = none := by
        have h1 := (hf 0 (by omega)).2 0 (by omega)
        have h2 : (itvCells (f 0))[0]? = some (.string ⟨(f 0).lo.toArray⟩) := rfl
        rw [h2] at h1
        simpa [Addr.add] using World.cell?_spot h1
      subst hspot
      have g : ∀ i, i < 4 → W.cell? ⟨b, off + j * 4 + i, none⟩ = (itvCells (f j))[i]? := fun i hi => by
        have := hc i hi
        rwa [add_plain2, add_plain2] at this
      have g0 := g 0 (by omega)
      rw [Nat.add_zero] at g0
      exact ⟨b, off, rfl, World.block_lt_of_cell? _ _ (g0.trans rfl), g0, g 1 (by omega), g 2 (by omega), g 3 (by omega)⟩
    · obtain ⟨j, hj, rfl⟩ := List.mem_map.1 hc
      exact (hf j (by simpa using hj)).1
    · simp only [List.length_map, List.length_range]
      omega

end Go.Proofs.YtpjjkbdkgaehkaaGreatDoor
namespace Go.Proofs.YtpjjkbdkgaehkaaGreatDoor
open Go.RowKit

/-! rows of strings -/
def baE (s : ByteArray) : List Value := [.string s]
/-- a row of strings of one's own -/
def SRow (w : World) (N : Nat) (v : Value) (l : List ByteArray) : Prop := GRow 9 1 baE w N v l
theorem baE_flat (l : List ByteArray) : l.flatMap baE = l.map Value.string := by
  induction l with
  | nil => rfl
  | cons s l ih => rw [List.flatMap_cons, ih]; rfl
theorem SRow.head {w : World} {N : Nat} {v : Value} {l : List ByteArray} (h : SRow w N v l) (h0 : l ≠ []) : ∃ g cap, v = .slice (some ⟨g, 0, none⟩) l.length cap ∧ l.length ≤ cap ∧ g < w.heap.size ∧ ∀ (j : Nat) (x : ByteArray), l[j]? = some x → w.cell? ⟨g, 0 + j, none⟩ = some (.string x) := by
  obtain ⟨g0, cap0, rfl⟩ : ∃ a c, v = .slice a l.length c := GRow.slice h
  rcases h.2 with ⟨e, hn⟩ | ⟨g, cap, cur, e, hb, hg, hnc, hm, hsz, htk⟩
  · exact absurd (List.length_eq_zero_iff.1 hn) h0
  · cases e
    refine ⟨g, _, rfl, hnc, (Array.getElem?_eq_some_iff.1 hg).1, fun j x hx => ?_⟩
    have hj := (List.getElem?_eq_some_iff.1 hx).1
    rw [Nat.zero_add, gcell_row hg]
    have h2 : (cur.toList.take (l.length * 1))[j]? = some (.string x) := by
      rw [htk, baE_flat, List.getElem?_map, hx]
      rfl
    rw [List.getElem?_take] at h2
    split at h2
    · simpa using h2
    · cases h2
/-! the text of an interval -/
theorem bound_cases {n : Int} {v : V.Bs} {k : Int} (h : V.boundB n v k = true) : (k = 0 ∨ k = 1 ∨ k = 2) ∧ v.length ≤ 64 := by
  by_cases hk : k = 0
  · exact ⟨.inl hk, by rw [V.boundB_no h hk]; simp⟩
  · exact ⟨.inr (V.boundB_yes h hk).1, (V.valid_len (V.boundB_yes h hk).2).2⟩
end Go.Proofs.YtpjjkbdkgaehkaaGreatDoor
