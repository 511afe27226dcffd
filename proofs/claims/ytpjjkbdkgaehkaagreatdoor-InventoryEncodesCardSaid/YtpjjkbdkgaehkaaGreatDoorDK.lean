/-
  Rows of lines of one's own: how they are made, grow and are read.
-/
import Derived.Test.YtpjjkbdkgaehkaaGreatDoorDE
import Derived.Test.YtpjjkbdkgaehkaaGreatDoorMK
namespace Go.Proofs.YtpjjkbdkgaehkaaGreatDoor
open Go.RowKit

/-- one element appended that lies in a block of its own, as a step; it tells whose block the new slice is -/
theorem step_appendA {α : Type} {enc : α → List Value} {k : Nat} {T : TypeId} {ops : Array Oper} {o : Oper} {a : Act} {w : World} {K : Act → World → Prop} {Q : Exit → Act → World → Prop} {E : Prop} (hk : ∀ x, (enc x).length = k) (hk0 : 0 < k) (h1c : ∀ x, ∀ u ∈ enc x, u.oneCell' = true) {bytes : Nat} (hi : GInfo T k bytes) (hby : bytes ≤ 1000) (hgd : o.guard = none) (s x : Operand) (S : TypeId)
    (ho : o.op = .call { callee := .builtin .append, args := #[s, x], argTypes := #[S, S] }) (hu : Tryz.prog.underlying S = some (.slice T))
    (N : Nat) (v : Value) (l : List α) (hs : a.eval s = v) (hown : GRow T k enc w N v l) (b : Nat) (c : α) (hx : a.eval x = .slice (some ⟨b, 0, none⟩) 1 1) (hr : ∀ j u, (enc c)[j]? = some u → w.cell? ⟨b, j, none⟩ = some u) (hl : l.length ≤ 900000) (hN : N ≤ w.heap.size)
    (h : ∀ v' w', GRow T k enc w' N v' (l ++ [c]) → w.grownBy w' v.ownBlock → (v'.ownBlock = v.ownBlock ∨ v'.ownBlock = some w.heap.size) → K (a.put o.dst v') w') : if Region.wanted o (yielded ops a.tmps) = true then Oper.wp Tryz.prog o a w K Q else E := by
  rw [if_pos (by simp [Region.wanted, hgd])]
  obtain ⟨ie, z, hie, hz, h1, h2, h3⟩ := hi
  obtain ⟨v', w', hr', ho', hg, _, hob⟩ := run_append_own_at (P := Tryz.prog) w N S o.type T ie z k bytes hu hie hz h1 h2 h3 hk0 v l.length (l.flatMap enc) hown ⟨b, 0, none⟩ 1 1 (enc c) (by rw [hk]; omega) (fun j u hj => by
    rw [Addr.add_mid, Nat.zero_add]
    exact hr j u hj) (h1c c) (by unfold maxLen; omega) (by
      have : (l.length + 1) * bytes ≤ 1000000 * 1000 := Nat.mul_le_mul (by omega) hby
      omega) hN
  unfold Oper.wp execOp
  simp only [ho, resolve, invoke, builtin, Sem.run_bind, Sem.run_pure, Result.andThen_ok, List.map_toArray, List.map_cons, List.map_nil, hs, hx, hr']
  refine h v' w' ?_ hg hob
  unfold GRow
  rw [List.length_append, List.flatMap_append]
  simpa using ho'

/-- a slice value -/
structure Lsl where
  a : Option Addr
  n : Nat
  c : Nat
def Lsl.v (s : Lsl) : Value := .slice s.a s.n s.c
def lslE (s : Lsl) : List Value := [s.v]
theorem lslE_len (s : Lsl) : (lslE s).length = 1 := rfl
theorem lslE_one (s : Lsl) : ∀ u ∈ lslE s, u.oneCell' = true := by
  intro u hu
  simp [lslE] at hu
  subst hu
  rfl
theorem lineInfo : GInfo 49 1 24 := by
  have h : (match Tryz.prog.info? 49 with | some i => i.size == 1 && (i.bytes == 24 && (match i.zero with | some z => z.cells.size == 1 | none => false)) | none => false) = true := by kernel_rfl
  unfold GInfo
  cases hq : Tryz.prog.info? 49 with
  | none => rw [hq] at h; cases h
  | some i =>
    rw [hq] at h
    simp only [Bool.and_eq_true, beq_iff_eq] at h
    obtain ⟨h1, h2, h3⟩ := h
    cases hz : i.zero with
    | none => rw [hz] at h3; cases h3
    | some z =>
      rw [hz] at h3
      exact ⟨i, z, rfl, hz, h1, h2, by simpa using h3⟩
theorem Strs.grown {w w' : World} {v : Value} {l : List V.Bs} {row : Option Nat} (h : Strs w v l) (hg : w.grownBy w' row) (hs : l ≠ [] → ∀ c, v.ownBlock = some c → row ≠ some c) : Strs w' v l := by
  obtain ⟨a, cap, rfl, hx⟩ := h
  refine ⟨a, cap, rfl, fun j hj => ?_⟩
  obtain ⟨b, off, rfl, hlt, h0⟩ := hx j hj
  have hne : l ≠ [] := fun e => by rw [e] at hj; simp at hj
  have hb : row ≠ some b := hs hne b rfl
  exact ⟨b, off, rfl, Nat.lt_of_lt_of_le hlt hg.size, hg.cell h0 (fun e => hb e.symm)⟩
theorem Strs.lt {w : World} {v : Value} {l : List V.Bs} (h : Strs w v l) (hl : l ≠ []) {c : Nat} (hc : v.ownBlock = some c) : c < w.heap.size := by
  obtain ⟨a, cap, rfl, hx⟩ := h
  obtain ⟨b, off, rfl, hlt, _⟩ := hx 0 (List.length_pos_iff.2 hl)
  simp [Value.ownBlock] at hc
  omega
/-- a row of lines: the slices us, the words ls -/
structure LRow (N : Nat) (w : World) (v : Value) (us : List Lsl) (ls : List (List V.Bs)) : Prop where
  row : GRow 49 1 lslE w N v us
  len : us.length = ls.length
  each : ∀ j (h : j < us.length) (h' : j < ls.length), Strs w us[j].v ls[j] ∧ (ls[j] ≠ [] → ∀ c, us[j].v.ownBlock = some c → v.ownBlock ≠ some c)
theorem LRow.nil (N : Nat) (w : World) : LRow N w (.slice none 0 0) [] [] := ⟨GRow.nil _ _, rfl, fun j h => by simp at h⟩
theorem LRow.later {N : Nat} {w w' : World} {v : Value} {us : List Lsl} {ls : List (List V.Bs)} (h : LRow N w v us ls) (hb : Below w.heap.size w w') : LRow N w' v us ls :=
  ⟨GRow.below h.row hb, h.len, fun j hj hj' => ⟨strs_below (h.each j hj hj').1 hb, (h.each j hj hj').2⟩⟩
theorem LRow.add {N : Nat} {w w' : World} {v v' : Value} {us : List Lsl} {ls : List (List V.Bs)} {u : Lsl} {x : List V.Bs} (h : LRow N w v us ls) (hr : GRow 49 1 lslE w' N v' (us ++ [u])) (hg : w.grownBy w' v.ownBlock) (ho : v'.ownBlock = v.ownBlock ∨ v'.ownBlock = some w.heap.size)
    (hu : Strs w u.v x) (hs : x ≠ [] → ∀ c, u.v.ownBlock = some c → v.ownBlock ≠ some c) : LRow N w' v' (us ++ [u]) (ls ++ [x]) := by
  have one : ∀ (q : Value) (y : List V.Bs), Strs w q y → (y ≠ [] → ∀ c, q.ownBlock = some c → v.ownBlock ≠ some c) → Strs w' q y ∧ (y ≠ [] → ∀ c, q.ownBlock = some c → v'.ownBlock ≠ some c) := fun q y hq hn => by
    refine ⟨hq.grown hg hn, fun hy c hc => ?_⟩
    rcases ho with e | e
    · rw [e]; exact hn hy c hc
    · rw [e]
      intro g
      have := hq.lt hy hc
      cases g
      omega
  refine ⟨hr, by rw [List.length_append, List.length_append, h.len]; rfl, fun j hj hj' => ?_⟩
  by_cases e : j < us.length
  · have e2 : j < ls.length := by rw [← h.len]; exact e
    rw [List.getElem_append_left e, List.getElem_append_left e2]
    exact one _ _ (h.each j e e2).1 (h.each j e e2).2
  · have ej : j = us.length := by rw [List.length_append, List.length_singleton] at hj; omega
    subst ej
    have e1 : (us ++ [u])[us.length] = u := by simp
    have e2 : (ls ++ [x])[us.length]'hj' = x := by simp [h.len]
    rw [e1, e2]
    exact one _ _ hu hs
/-- a row laid whole -/
theorem LRow.one {N : Nat} {w : World} {u : Lsl} {x : List V.Bs} (hN : N ≤ w.heap.size) (hu : Strs w u.v x) (h0 : x ≠ []) : LRow N (w.alloc (.cells #[u.v] 49)) (.slice (some ⟨w.heap.size, 0, none⟩) 1 1) [u] [x] := by
  have hb : Below w.heap.size w (w.alloc (.cells #[u.v] 49)) := (Below.refl _ w).alloc (Nat.le_refl _) _
  refine ⟨⟨rfl, .inr ⟨w.heap.size, 1, #[u.v], rfl, hN, ?_, Nat.le_refl _, by unfold maxLen; omega, rfl, rfl⟩⟩, rfl, fun j hj hj' => ?_⟩
  · rw [heap_alloc, if_pos rfl]
  · obtain rfl : j = 0 := by simpa using hj
    refine ⟨strs_below hu hb, fun _ c hc => ?_⟩
    have := hu.lt h0 hc
    intro e
    simp [Value.ownBlock] at e
    omega
theorem LRow.lines {N : Nat} {w : World} {v : Value} {us : List Lsl} {ls : List (List V.Bs)} (h : LRow N w v us ls) : Lines w v ls := by
  obtain ⟨a, cap, rfl⟩ := GRow.slice h.row
  refine ⟨a, cap, by rw [h.len], fun j hj => ?_⟩
  have hj' : j < us.length := by rw [h.len]; exact hj
  obtain ⟨g, cap2, e, hN, hg, hc⟩ := GRow.at lslE_len h.row j hj'
  cases e
  exact ⟨g, 0, us[j].v, rfl, hg, by simpa using hc 0 us[j].v rfl, (h.each j hj' hj).1⟩
theorem LRow.slice {N : Nat} {w : World} {v : Value} {us : List Lsl} {ls : List (List V.Bs)} (h : LRow N w v us ls) : ∃ a cap, v = .slice a ls.length cap := by
  rw [← h.len]; exact GRow.slice h.row
/-- a line laid in a block of its own -/
theorem strs_new (w : World) (l : List V.Bs) : Strs (w.alloc (.cells (l.map fun x => Value.string ⟨x.toArray⟩).toArray 9)) (.slice (some ⟨w.heap.size, 0, none⟩) l.length l.length) l :=
  ⟨_, _, rfl, fun j hj => ⟨w.heap.size, 0, rfl, by simp, by rw [Nat.zero_add, World.cell?_alloc_new]; simp [hj]⟩⟩
end Go.Proofs.YtpjjkbdkgaehkaaGreatDoor
