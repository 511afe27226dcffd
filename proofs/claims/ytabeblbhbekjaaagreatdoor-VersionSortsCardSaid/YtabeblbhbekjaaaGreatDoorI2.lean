/-
  Walks: membership; the check ahead of a comparison, for any scheme; the latest version.
-/
import Derived.Test.YtabeblbhbekjaaaGreatDoorI1
import Derived.Test.YtabeblbhbekjaaaGreatDoorSL
namespace Go.Proofs.YtabeblbhbekjaaaGreatDoor
open Go.RowKit

/-- a method value that compares versions of a scheme -/
def Cmp (n : Int) (T : TypeId) : Prop := ∃ K : FuncId, (∀ k w, (method (k + 1) T (.agg #[]) "admission/version.compare").run Tryz.prog w = .ok (K, .agg #[]) w) ∧ (∀ args w, (callFunc K args).run Tryz.prog w = .ok (.enter K args) w) ∧
  ∀ (x y : V.Bs) W, V.valid n x = true → V.valid n y = true → MaxOk W → Calls Tryz.prog K #[.agg #[], .string ⟨x.toArray⟩, .string ⟨y.toArray⟩] W fun e w' => e = .returned (.int .i64 (V.cmpV n x y)) ∧ Below W.heap.size W w'

theorem cmp1 : Cmp 1 63 := ⟨_, meth_cmp1, enters_of Tryz.func91 (by kernel_rfl) rfl, fun x y W hx hy hm => by
  obtain ⟨⟨la, pa⟩, e1⟩ := Option.isSome_iff_exists.1 (valid_sem hx)
  obtain ⟨⟨lb, pb⟩, e2⟩ := Option.isSome_iff_exists.1 (valid_sem hy)
  have l1 := valid_len hx
  have l2 := valid_len hy
  have h := semCompare_any ⟨x.toArray⟩ ⟨y.toArray⟩ la pa lb pb W hm (by show x.length ≤ _; omega) (by show y.length ≤ _; omega) (by simp only [arr_list]; exact e1) (by simp only [arr_list]; exact e2)
  have e : V.cmpV 1 x y = V.semCmp (la, pa) (lb, pb) := by unfold V.cmpV; rw [if_pos rfl, e1, e2]
  rw [e]; exact h⟩
theorem cmp2 : Cmp 2 64 := ⟨_, meth_cmp2, enters_of Tryz.func122 (by kernel_rfl) rfl, fun x y W hx hy hm => by
  obtain ⟨⟨x0, x1, x2⟩, e1⟩ := Option.isSome_iff_exists.1 (valid_deb hx)
  obtain ⟨⟨y0, y1, y2⟩, e2⟩ := Option.isSome_iff_exists.1 (valid_deb hy)
  have l1 := valid_len hx
  have l2 := valid_len hy
  have h := debCompare_any ⟨x.toArray⟩ ⟨y.toArray⟩ x0 x1 x2 y0 y1 y2 W hm (by show x.length ≤ _; omega) (by show y.length ≤ _; omega) (by simp only [arr_list]; exact e1) (by simp only [arr_list]; exact e2)
  have e : V.cmpV 2 x y = V.debCmp (x0, x1, x2) (y0, y1, y2) := by unfold V.cmpV; rw [if_neg (by decide), if_pos rfl, e1, e2]
  rw [e]; exact h⟩
theorem cmp3 : Cmp 3 65 := ⟨_, meth_cmp3, enters_of Tryz.func135 (by kernel_rfl) rfl, fun x y W hx hy hm => by
  have l1 := valid_len hx
  have l2 := valid_len hy
  have h := dotCompare_any ⟨x.toArray⟩ ⟨y.toArray⟩ W hm (by show x.length ≤ _; omega) (by show y.length ≤ _; omega)
  simp only [arr_list] at h
  have e : V.cmpV 3 x y = V.dotCmp x y := by unfold V.cmpV; rw [if_neg (by decide), if_neg (by decide)]
  rw [e]; exact h⟩

/-- what check hands out -/
def CheckPost (n : Int) (l : List V.Bs) (w : World) (e : Ending) (w' : World) : Prop :=
  Below w.heap.size w w' ∧
  if V.scheme n = false then e = .returned (.tuple #[.nilFunc, .int .i64 14])
  else if l.all (V.valid n) = false then e = .returned (.tuple #[.nilFunc, .int .i64 1])
  else ∃ T, Cmp n T ∧ e = .returned (.tuple #[cmpVal T, .int .i64 0])

theorem check_any (n : Int) (v : Value) (l : List V.Bs) (w : World) (hm : MaxOk w) (hv : Strs w v l) (hl : l.length ≤ maxLen) (hx : ∀ x ∈ l, x.length ≤ maxLen) :
    Calls Tryz.prog 20 #[.int .i64 n, v] w (CheckPost n l w) := by
  by_cases h1 : n = 1
  · subst h1
    refine (check1_any v l w hm hv hl hx).mono fun e w' ⟨he, hb⟩ => ⟨hb, ?_⟩
    rw [if_neg (by decide)]
    unfold CkPost at he
    rcases ha : l.all (V.valid 1) with _ | _
    · rw [ha] at he; rw [if_pos rfl]; exact he
    · rw [ha] at he; rw [if_neg (by decide)]; exact ⟨_, cmp1, he⟩
  · by_cases h2 : n = 2
    · subst h2
      refine (check2_any v l w hm hv hl hx).mono fun e w' ⟨he, hb⟩ => ⟨hb, ?_⟩
      rw [if_neg (by decide)]
      unfold CkPost at he
      rcases ha : l.all (V.valid 2) with _ | _
      · rw [ha] at he; rw [if_pos rfl]; exact he
      · rw [ha] at he; rw [if_neg (by decide)]; exact ⟨_, cmp2, he⟩
    · by_cases h3 : n = 3
      · subst h3
        refine (check3_any v l w hm hv hl hx).mono fun e w' ⟨he, hb⟩ => ⟨hb, ?_⟩
        rw [if_neg (by decide)]
        unfold CkPost at he
        rcases ha : l.all (V.valid 3) with _ | _
        · rw [ha] at he; rw [if_pos rfl]; exact he
        · rw [ha] at he; rw [if_neg (by decide)]; exact ⟨_, cmp3, he⟩
      · refine (check0_any n h1 h2 h3 v w).mono fun e w' ⟨he, hw⟩ => ⟨by rw [← hw]; exact Below.refl _ _, ?_⟩
        rw [if_pos (by unfold V.scheme; simp [h1, h2, h3])]
        exact he

end Go.Proofs.YtabeblbhbekjaaaGreatDoor
