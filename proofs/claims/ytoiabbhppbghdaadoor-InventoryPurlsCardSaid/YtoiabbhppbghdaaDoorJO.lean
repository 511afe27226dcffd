/-
  Arguments read: components.
-/
import Derived.Test.YtoiabbhppbghdaaDoorJK
import Derived.ProofKit
namespace Go.Proofs.YtoiabbhppbghdaaDoor
open Go.ChangeShapes Go.WideShapes Go.ChangeAt Go.RowKit

theorem mapM_all {α β : Type} {f : α → Option β} : ∀ {l : List α} {r : List β}, l.mapM f = some r → ∀ x ∈ l, ∃ y, f x = some y
  | [], _, _, x, hx => by simp at hx
  | a :: l, r, h, x, hx => by
    rw [List.mapM_cons] at h
    cases ha : f a with
    | none => rw [ha] at h; cases h
    | some b =>
      rw [ha] at h
      cases hl : l.mapM f with
      | none => rw [hl] at h; cases h
      | some bs =>
        rcases List.mem_cons.1 hx with rfl | hx
        · exact ⟨b, ha⟩
        · exact mapM_all hl x hx

theorem int_of_lits {d : Nat} {cs : List Value} {l : List Lit} (h : Tryd.prog.keyLits d 3 cs = some l) : ∃ n, cs = [.int .i64 n] ∧ (Lit.int .i64 n).wf = true := by
  obtain ⟨n, hc, hl⟩ := keyLits_int' Tryd.underlying3 h
  exact ⟨n, hc, keyLits_wf h (.int .i64 n) (by rw [hl]; simp)⟩
theorem u8_of_lits {d : Nat} {cs : List Value} {l : List Lit} (h : Tryd.prog.keyLits d 5 cs = some l) : ∃ n, cs = [.int .u8 n] ∧ (Lit.int .u8 n).wf = true := by
  obtain ⟨n, hc, hl⟩ := keyLits_int' Tryd.underlying5 h
  exact ⟨n, hc, keyLits_wf h (.int .u8 n) (by rw [hl]; simp)⟩
theorem str_of_lits {d : Nat} {cs : List Value} {l : List Lit} (h : Tryd.prog.keyLits d 9 cs = some l) : ∃ s : V.Bs, cs = [.string ⟨s.toArray⟩] ∧ s.length ≤ maxLen := by
  obtain ⟨s, hc, hl⟩ := keyLits_string' Tryd.underlying9 h
  exact ⟨s.data.toList, by rw [hc], keyLits_wf h (.string s.data.toList) (by rw [hl]; simp)⟩
theorem dig_of_lits {d : Nat} {cs : List Value} {l : List Lit} (h : Tryd.prog.keyLits (d + 1) 23 cs = some l) : ∃ ds : List Int, ds.length = 32 ∧ (∀ n ∈ ds, (Lit.int .u8 n).wf = true) ∧ cs = dcellsL ds := by
  rw [Program.keyLits] at h
  case heq => exact Tryd.underlying23
  have h' : (if cs.length = Tryd.prog.cellsOf 23 then ((List.range 32).mapM fun i => Tryd.prog.keyLits d 5 ((cs.drop (i * Tryd.prog.cellsOf 5)).take (Tryd.prog.cellsOf 5))).map List.flatten else none) = some l := h
  clear h
  split at h'
  · rename_i hl
    rw [cells_dig] at hl
    simp only [Option.map_eq_some_iff] at h'
    obtain ⟨r, hr, _⟩ := h'
    have hall := mapM_all hr
    have hat : ∀ i (hi : i < cs.length), ∃ n, cs[i] = .int .u8 n ∧ (Lit.int .u8 n).wf = true := fun i hi => by
      obtain ⟨y, hy⟩ := hall i (by simp; omega)
      obtain ⟨n, hn, hw⟩ := u8_of_lits hy
      rw [cells_u8, Nat.mul_one, List.drop_eq_getElem_cons hi] at hn
      exact ⟨n, (List.cons.inj hn).1, hw⟩
    refine ⟨cs.map fun v => match v with | .int _ n => n | _ => 0, by simpa using hl, fun n hn => ?_, ?_⟩
    · obtain ⟨v, hv, rfl⟩ := List.mem_map.1 hn
      obtain ⟨i, hi, rfl⟩ := List.mem_iff_getElem.1 hv
      obtain ⟨n, hn, hw⟩ := hat i hi
      rw [hn]; exact hw
    · unfold dcellsL
      rw [List.map_map]
      apply List.ext_getElem
      · simp
      · intro i h1 h2
        obtain ⟨n, hn, _⟩ := hat i h1
        simp [hn]
  · cases h'
theorem keyLits_struct {P : Program} {d : Nat} {t : TypeId} {cs : List Value} {fs : Array Field} (hu : P.underlying t = some (.struct fs)) : P.keyLits (d + 1) t cs =
    (if cs.length = P.cellsOf t ∧ fs.all (·.name != "_") = true then (fs.toList.mapM fun f => P.keyLits d f.type ((cs.drop f.offset).take (P.cellsOf f.type))).map List.flatten else none) := by
  conv => lhs; unfold Program.keyLits
  rw [hu]
theorem comp_of_lits {d : Nat} {cs : List Value} {l : List Lit} (h : Tryd.prog.keyLits (d + 2) 35 cs = some l) : ∃ c : V.Comp, CompWf c ∧ cs = cellsL c := by
  rw [keyLits_struct Tryd.underlying35] at h
  split at h
  · rename_i hc
    have hl := hc.1
    rw [cells_comp] at hl
    simp only [Option.map_eq_some_iff] at h
    obtain ⟨r, hr, _⟩ := h
    have hall := mapM_all hr
    simp only [List.mem_cons, List.not_mem_nil, or_false, forall_eq_or_imp, forall_eq] at hall
    obtain ⟨⟨_, g0⟩, ⟨_, g1⟩, ⟨_, g2⟩, ⟨_, g3⟩, ⟨_, g4⟩⟩ := hall
    obtain ⟨par, e0, w0⟩ := int_of_lits g0
    obtain ⟨sch, e1, w1⟩ := int_of_lits g1
    obtain ⟨nm, e2, w2⟩ := str_of_lits g2
    obtain ⟨vr, e3, w3⟩ := str_of_lits g3
    obtain ⟨ds, dl, dw, e4⟩ := dig_of_lits g4
    simp only [cells_int, cells_str, cells_dig] at e0 e1 e2 e3 e4
    refine ⟨⟨par, sch, nm, vr, ds⟩, ⟨w0, w1, w2, w3, dl, dw⟩, ?_⟩
    rcases cs with _ | ⟨a, _ | ⟨b, _ | ⟨c, _ | ⟨e, rest⟩⟩⟩⟩
    · simp at hl
    · simp at hl
    · simp at hl
    · simp at hl
    · have hrl : rest.length = 32 := by simpa using hl
      simp at e0 e1 e2 e3
      have e4' : rest = dcellsL ds := by
        rw [← e4]
        exact (List.take_of_length_le (by show rest.length ≤ 32; omega)).symm
      rw [e0, e1, e2, e3, e4']
      rfl
  · cases h

theorem compKey : ∃ m, Tryd.prog.types.size = m + 1 ∧ Tryd.prog.keyTypeAt (m + 2) 35 = true := by
  obtain ⟨m, hm⟩ := size_ge
  refine ⟨m + 1, by rw [hm], ?_⟩
  have h : Tryd.prog.keyTypeAt (Tryd.prog.types.size + 1) 35 = true := by kernel_rfl
  rw [hm] at h
  exact h

set_option maxRecDepth 100000 in
theorem read_comp {H : Type} {enc : TypeId × Value → H} {W : World} {base : Nat} {v : Value} {d : DataW H} {p : List MemPlace} (hv : Value.okWide Tryd.prog W .any base 35 v)
    (h : DataW.Trod enc Tryd.prog W 0 (fun _ => true) true 35 v d p) : ∃ c : V.Comp, v = cval c ∧ CompWf c := by
  obtain ⟨cs, rfl, hsz⟩ := okWide_struct Tryd.underlying35 hv
  obtain ⟨m, hm, hk⟩ := compKey
  obtain ⟨fuel0, hf⟩ := h
  obtain ⟨hkl, _⟩ := keyLits_of_trod (P := Tryd.prog) (m + 2) 35 hk fuel0 _ _ hf
  obtain ⟨c, hc, hcs⟩ := comp_of_lits hkl
  refine ⟨c, ?_, hc⟩
  have e : cs.toList = cellsL c := hcs
  unfold cval ccells
  rw [← e]
end Go.Proofs.YtoiabbhppbghdaaDoor
