/-
  Arguments read: components.
  Arguments read: inventories.
  A world for the witnesses: the tables of the library hold what their initialisers lay.
  A world for the witnesses of rows that list the tables of numbers' texts too.
  Closed facts of the program, each by itself (together they take more memory than the kernel has).
  Closed facts of the row of the law InventoryDecodes, each by itself.
-/
import Derived.Test.YtnhfaincdabdkaaGreatDoorJM
import Derived.Test.YtnhfaincdabdkaaGreatDoorIQ
import Derived.Test.YtnhfaincdabdkaaGreatDoorDB
import Derived.Test.YtnhfaincdabdkaaGreatDoorCards
import Derived.Test.YtnhfaincdabdkaaGreatDoorTie
import Derived.Test.YtnhfaincdabdkaaGreatDoorRows
import Derived.ProofKit
import Derived.Deep.Strs
import Derived.Deep.DeepHandedRow
import Derived.Lib.LaidTab
import Derived.JoinedOf
namespace Go.Proofs.YtnhfaincdabdkaaGreatDoor
open Go.ChangeShapes Go.WideShapes Go.ChangeAt Go.RowKit

theorem mapM_all {α β : Type} {f : α → Option β} : ∀ {l : List α} {r : List β}, l.mapM f = some r → ∀ x ∈ l, ∃ y, f x = some y
  | [], _, _, x, hx => by simp at hx
  | a :: l, r, h, x, hx => by
    rw [List.mapM_cons] at h
    cases ha : f a with
    | none => rw [ha] at h; cases h
    | some b =>
      rw [ha] at h
      cases hl : l.mapM f with
      | none => rw [hl] at h; cases h
      | some bs =>
        rcases List.mem_cons.1 hx with rfl | hx
        · exact ⟨b, ha⟩
        · exact mapM_all hl x hx

theorem int_of_lits {d : Nat} {cs : List Value} {l : List Lit} (h : Tryz.prog.keyLits d 3 cs = some l) : ∃ n, cs = [.int .i64 n] ∧ (Lit.int .i64 n).wf = true := by
  obtain ⟨n, hc, hl⟩ := keyLits_int' Tryz.underlying3 h
  exact ⟨n, hc, keyLits_wf h (.int .i64 n) (by rw [hl]; simp)⟩
theorem u8_of_lits {d : Nat} {cs : List Value} {l : List Lit} (h : Tryz.prog.keyLits d 5 cs = some l) : ∃ n, cs = [.int .u8 n] ∧ (Lit.int .u8 n).wf = true := by
  obtain ⟨n, hc, hl⟩ := keyLits_int' Tryz.underlying5 h
  exact ⟨n, hc, keyLits_wf h (.int .u8 n) (by rw [hl]; simp)⟩
theorem str_of_lits {d : Nat} {cs : List Value} {l : List Lit} (h : Tryz.prog.keyLits d 9 cs = some l) : ∃ s : V.Bs, cs = [.string ⟨s.toArray⟩] ∧ s.length ≤ maxLen := by
  obtain ⟨s, hc, hl⟩ := keyLits_string' Tryz.underlying9 h
  exact ⟨s.data.toList, by rw [hc], keyLits_wf h (.string s.data.toList) (by rw [hl]; simp)⟩
theorem dig_of_lits {d : Nat} {cs : List Value} {l : List Lit} (h : Tryz.prog.keyLits (d + 1) 24 cs = some l) : ∃ ds : List Int, ds.length = 32 ∧ (∀ n ∈ ds, (Lit.int .u8 n).wf = true) ∧ cs = dcellsL ds := by
  rw [Program.keyLits] at h
  case heq => exact Tryz.underlying24
  have h' : (if cs.length = Tryz.prog.cellsOf 24 then ((List.range 32).mapM fun i => Tryz.prog.keyLits d 5 ((cs.drop (i * Tryz.prog.cellsOf 5)).take (Tryz.prog.cellsOf 5))).map List.flatten else none) = some l := h
  clear h
  split at h'
  · rename_i hl
    rw [cells_dig] at hl
    simp only [Option.map_eq_some_iff] at h'
    obtain ⟨r, hr, _⟩ := h'
    have hall := mapM_all hr
    have hat : ∀ i (hi : i < cs.length), ∃ n, cs[i] = .int .u8 n ∧ (Lit.int .u8 n).wf = true := fun i hi => by
      obtain ⟨y, hy⟩ := hall i (by simp; omega)
      obtain ⟨n, hn, hw⟩ := u8_of_lits hy
      rw [cells_u8, Nat.mul_one, List.drop_eq_getElem_cons hi] at hn
      exact ⟨n, (List.cons.inj hn).1, hw⟩
    refine ⟨cs.map fun v => match v with | .int _ n => n | _ => 0, by simpa using hl, fun n hn => ?_, ?_⟩
    · obtain ⟨v, hv, rfl⟩ := List.mem_map.1 hn
      obtain ⟨i, hi, rfl⟩ := List.mem_iff_getElem.1 hv
      obtain ⟨n, hn, hw⟩ := hat i hi
      rw [hn]; exact hw
    · unfold dcellsL
      rw [List.map_map]
      apply List.ext_getElem
      · simp
      · intro i h1 h2
        obtain ⟨n, hn, _⟩ := hat i h1
        simp [hn]
  · cases h'
theorem keyLits_struct {P : Program} {d : Nat} {t : TypeId} {cs : List Value} {fs : Array Field} (hu : P.underlying t = some (.struct fs)) : P.keyLits (d + 1) t cs =
    (if cs.length = P.cellsOf t ∧ fs.all (·.name != "_") = true then (fs.toList.mapM fun f => P.keyLits d f.type ((cs.drop f.offset).take (P.cellsOf f.type))).map List.flatten else none) := by
  conv => lhs; unfold Program.keyLits
  rw [hu]
theorem comp_of_lits {d : Nat} {cs : List Value} {l : List Lit} (h : Tryz.prog.keyLits (d + 2) 88 cs = some l) : ∃ c : V.Comp, CompWf c ∧ cs = cellsL c := by
  rw [keyLits_struct Tryz.underlying88] at h
  split at h
  · rename_i hc
    have hl := hc.1
    rw [cells_comp] at hl
    simp only [Option.map_eq_some_iff] at h
    obtain ⟨r, hr, _⟩ := h
    have hall := mapM_all hr
    simp only [List.mem_cons, List.not_mem_nil, or_false, forall_eq_or_imp, forall_eq] at hall
    obtain ⟨⟨_, g0⟩, ⟨_, g1⟩, ⟨_, g2⟩, ⟨_, g3⟩, ⟨_, g4⟩⟩ := hall
    obtain ⟨par, e0, w0⟩ := int_of_lits g0
    obtain ⟨sch, e1, w1⟩ := int_of_lits g1
    obtain ⟨nm, e2, w2⟩ := str_of_lits g2
    obtain ⟨vr, e3, w3⟩ := str_of_lits g3
    obtain ⟨ds, dl, dw, e4⟩ := dig_of_lits g4
    simp only [cells_int, cells_str, cells_dig] at e0 e1 e2 e3 e4
    refine ⟨⟨par, sch, nm, vr, ds⟩, ⟨w0, w1, w2, w3, dl, dw⟩, ?_⟩
    rcases cs with _ | ⟨a, _ | ⟨b, _ | ⟨c, _ | ⟨e, rest⟩⟩⟩⟩
    · simp at hl
    · simp at hl
    · simp at hl
    · simp at hl
    · have hrl : rest.length = 32 := by simpa using hl
      simp at e0 e1 e2 e3
      have e4' : rest = dcellsL ds := by
        rw [← e4]
        exact (List.take_of_length_le (by show rest.length ≤ 32; omega)).symm
      rw [e0, e1, e2, e3, e4']
      rfl
  · cases h

theorem compKey : ∃ m, Tryz.prog.types.size = m + 1 ∧ Tryz.prog.keyTypeAt (m + 2) 88 = true := by
  obtain ⟨m, hm⟩ := size_ge
  refine ⟨m + 1, by rw [hm], ?_⟩
  have h : Tryz.prog.keyTypeAt (Tryz.prog.types.size + 1) 88 = true := by kernel_rfl
  rw [hm] at h
  exact h

set_option maxRecDepth 100000 in
theorem read_comp {H : Type} {enc : TypeId × Value → H} {W : World} {base : Nat} {v : Value} {d : DataW H} {p : List MemPlace} (hv : Value.okWide Tryz.prog W .any base 88 v)
    (h : DataW.Trod enc Tryz.prog W 0 (fun _ => true) true 88 v d p) : ∃ c : V.Comp, v = cval c ∧ CompWf c := by
  obtain ⟨cs, rfl, hsz⟩ := okWide_struct Tryz.underlying88 hv
  obtain ⟨m, hm, hk⟩ := compKey
  obtain ⟨fuel0, hf⟩ := h
  obtain ⟨hkl, _⟩ := keyLits_of_trod (P := Tryz.prog) (m + 2) 88 hk fuel0 _ _ hf
  obtain ⟨c, hc, hcs⟩ := comp_of_lits hkl
  refine ⟨c, ?_, hc⟩
  have e : cs.toList = cellsL c := hcs
  unfold cval ccells
  rw [← e]
end Go.Proofs.YtnhfaincdabdkaaGreatDoor
namespace Go.Proofs.YtnhfaincdabdkaaGreatDoor
open Go.ChangeShapes Go.WideShapes Go.ChangeAt Go.RowKit

theorem digKey2 : Tryz.prog.keyTypeAt 2 24 = true := by kernel_rfl
theorem compKey3 : Tryz.prog.keyTypeAt 3 88 = true := by kernel_rfl
theorem cells_comps : Tryz.prog.cellsOf 25 = 1 := by kernel_rfl
theorem cells_i64 : Tryz.prog.cellsOf 2 = 1 := by kernel_rfl
theorem cells_inv : Tryz.prog.cellsOf 27 = 34 := by kernel_rfl
theorem comp_of_trod {H : Type} {enc : TypeId × Value → H} {W : World} {base : Nat} {sp : Nat → Bool} {hd : Bool} {n : Nat} {cs : List Value} {x : DataW H × List MemPlace} (h : DataW.trod enc Tryz.prog W base sp hd n 88 cs = some x) : ∃ c : V.Comp, CompWf c ∧ cs = cellsL c :=
  comp_of_lits (keyLits_of_trod (P := Tryz.prog) 3 88 compKey3 n cs x h).1
theorem comps_of_trod {H : Type} {enc : TypeId × Value → H} {W : World} {base : Nat} {sp : Nat → Bool} {hd : Bool} {n : Nat} {cs : List Value} {x : DataW H × List MemPlace} (h : DataW.trod enc Tryz.prog W base sp hd n 25 cs = some x) : ∃ (v : Value) (l : List V.Comp), cs = [v] ∧ Comps W v l := by
  rcases Go.Deep.open_slice Tryz.underlying25 h with ⟨rfl, _⟩ | ⟨a, len, cap, m, n', D, Pl, rfl, hb, hl, hm, hmm, _, hx⟩
  · exact ⟨_, [], rfl, Comps.nil W⟩
  · have hlm : len ≤ m := by rw [hmm]; split <;> omega
    rw [cells_comp] at hx
    have each : ∀ i, i < len → ∃ c : V.Comp, CompWf c ∧ ∀ j, j < 36 → W.cell? ((a.add (i * 36)).add j) = (cellsL c)[j]? := fun i hi => by
      obtain ⟨cs', h1, h2⟩ := hx i (by omega)
      obtain ⟨c, hc, rfl⟩ := comp_of_trod h2
      exact ⟨c, hc, (World.cells?_some h1).2.2⟩
    have : Inhabited V.Comp := ⟨zeroC⟩
    obtain ⟨f, hf⟩ := Go.Deep.choose_lt each
    refine ⟨_, (List.range len).map f, rfl, some a, cap, by simp, fun j hj => ?_⟩
    have hj' : j < len := by simpa using hj
    have he : ((List.range len).map f)[j] = f j := by simp
    rw [he]
    obtain ⟨hw, hc⟩ := hf j hj'
    obtain ⟨b, off, spot⟩ := a
    have hspot : spot = none := by
      have h1 := (hf 0 (by omega)).2 0 (by omega)
      have h2 : (cellsL (f 0))[0]? = some (.int .i64 (f 0).par) := rfl
      rw [h2] at h1
      simpa [Addr.add] using World.cell?_spot h1
    subst hspot
    have h0 : W.cell? (((⟨b, off, none⟩ : Addr).add (j * 36)).add 0) = some (.int .i64 (f j).par) := hc 0 (by omega)
    rw [add_plain, add_plain, Nat.add_zero] at h0
    refine ⟨hw, b, off, rfl, World.block_lt_of_cell? _ _ h0, fun i u hu => ?_⟩
    have hi : i < 36 := by
      have := (List.getElem?_eq_some_iff.1 hu).1
      rwa [cellsL_len hw] at this
    have := hc i hi
    rw [add_plain, add_plain] at this
    rw [this]
    exact hu

set_option maxRecDepth 100000 in
theorem read_inv {H : Type} {enc : TypeId × Value → H} {W : World} {base : Nat} {v : Value} {d : DataW H} {p : List MemPlace} (hv : Value.okWide Tryz.prog W .any base 27 v)
    (h : DataW.Trod enc Tryz.prog W 0 (fun _ => true) true 27 v d p) : ∃ x : IV, v = .agg (icells x.d x.t x.v) ∧ (x.d.length = 32 ∧ (∀ n ∈ x.d, (Lit.int .u8 n).wf = true) ∧ Comps W x.v x.l) := by
  obtain ⟨cs, rfl, hsz⟩ := okWide_struct Tryz.underlying27 hv
  obtain ⟨fuel0, hf⟩ := h
  obtain ⟨y0, y1, y2, n, _, hl, h0, h1, h2⟩ := Go.Deep.trod_struct3 Tryz.underlying27 hf
  have hl' : cs.toList.length = 34 := by rw [← cells_inv]; exact hl
  obtain ⟨ds, dl, dw, e0⟩ := dig_of_lits (keyLits_of_trod (P := Tryz.prog) 2 24 digKey2 n _ _ h0).1
  obtain ⟨tm, e1, _, _⟩ := DataW.trod_int Tryz.underlying2 h1
  obtain ⟨v', l, e2, hc⟩ := comps_of_trod h2
  rw [cells_dig] at e0
  rw [cells_i64] at e1
  rw [cells_comps] at e2
  refine ⟨⟨ds, tm, v', l⟩, ?_, dl, dw, hc⟩
  have a0 : cs.toList.take 32 = dcellsL ds := e0
  have a1 : (cs.toList.drop 32).take 1 = [.int .i64 tm] := e1
  have a2 : (cs.toList.drop 33).take 1 = [v'] := e2
  have ec : cs.toList = dcellsL ds ++ [.int .i64 tm, v'] := by
    rw [← List.take_append_drop 32 cs.toList, a0]
    congr 1
    rw [← List.take_append_drop 1 (cs.toList.drop 32), a1, List.drop_drop]
    have a3 : (cs.toList.drop 33).take 1 = cs.toList.drop 33 := List.take_of_length_le (by rw [List.length_drop]; omega)
    rw [show 32 + 1 = 33 from rfl, ← a3, a2]
    rfl
  unfold icells
  rw [← ec]
end Go.Proofs.YtnhfaincdabdkaaGreatDoor
namespace Go.Proofs.YtnhfaincdabdkaaGreatDoor.laying
open Go.RowKit

theorem own : ownKnob Tryz.prog.godebug = none := by kernel_rfl
theorem laidOut : laidOutB Tryz.prog = true := by kernel_rfl

mutual
/-- the cells of a datum of numbers -/
def flat : DataW Unit → List Value
  | .lit (.int k n) => [.int k n]
  | .agg ps => flatAll ps
  | _ => []
def flatAll : List (DataW Unit) → List Value
  | [] => []
  | d :: r => flat d ++ flatAll r
end

def layCells (l : List Value) : Obj → Obj
  | .cells _ t frozen => .cells l.toArray t frozen
  | o => o

/-- the settled world, the two tables holding what their initialisers lay -/
noncomputable def laidWorld (os : Os) : World :=
  { World.holding Tryz.prog os ⟨#[], #[], []⟩ with
    heap := ((World.holding Tryz.prog os ⟨#[], #[], []⟩).heap.modify 3 (layCells (flat Rows.laid_unicode_utf8_acceptRanges))).modify 2 (layCells (flat Rows.laid_unicode_utf8_first)) }
end Go.Proofs.YtnhfaincdabdkaaGreatDoor.laying
namespace Go.Proofs.YtnhfaincdabdkaaGreatDoor.laying
open Go.RowKit

/-- the settled world, the five tables holding what their initialisers lay -/
noncomputable def laidWorldP (os : Os) : World :=
  { World.holding Tryz.prog os ⟨#[], #[], []⟩ with
    heap := (((((World.holding Tryz.prog os ⟨#[], #[], []⟩).heap.modify 3 (layCells (flat Rows.laid_unicode_utf8_acceptRanges))).modify 2 (layCells (flat Rows.laid_unicode_utf8_first))).modify 1 (layCells (flat Rows.laid_internal_strconv_uint64pow10))).modify 4 (layCells (flat Rows.laid_math_bits_deBruijn32tab))).modify 5 (layCells (flat Rows.laid_math_bits_deBruijn64tab)) }
end Go.Proofs.YtnhfaincdabdkaaGreatDoor.laying
namespace Go.Proofs.YtnhfaincdabdkaaGreatDoor
open Go.RowKit

set_option maxRecDepth 100000 in
theorem fact_laid : laidOutB Tryz.prog = true := by kernel_rfl
set_option maxRecDepth 100000 in
theorem fact_maps : mapsRowed Tryz.prog = true := by kernel_rfl
end Go.Proofs.YtnhfaincdabdkaaGreatDoor
namespace Go.Proofs.YtnhfaincdabdkaaGreatDoor.inventoryDecodes
open Go.RowKit

set_option maxRecDepth 100000 in
theorem fact_inPlace : (Rows.inventoryDecodesRow.inPlace == Tryz.prog.inPlace 3) = true := by kernel_rfl
set_option maxRecDepth 100000 in
theorem fact_unfollowed : (Rows.inventoryDecodesRow.unfollowed == Tryz.prog.unfollowed 3) = true := by kernel_rfl
set_option maxRecDepth 100000 in
theorem fact_recurses : (Rows.inventoryDecodesRow.recurses == Tryz.prog.recurses 3) = true := by kernel_rfl
set_option maxRecDepth 100000 in
theorem fact_named : (Rows.inventoryDecodesRow.named == Tryz.prog.varsNamed 3) = true := by kernel_rfl
set_option maxRecDepth 100000 in
theorem closed : joinedFacts Tryz.prog 3 Tryz.f3 (OpenSpec.ofChange Rows.inventoryDecodesSpec).bare Rows.inventoryDecodesRow = true := by
  unfold joinedFacts
  simp only [fact_laid, fact_maps, fact_inPlace, fact_unfollowed, fact_recurses, fact_named, Bool.and_true]
  kernel_rfl
end Go.Proofs.YtnhfaincdabdkaaGreatDoor.inventoryDecodes
