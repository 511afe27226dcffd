/-
  Walks: membership; the check ahead of a comparison, for any scheme; the latest version.
-/
import Derived.Test.YtabeblbhbekjaaaI1
import Derived.Test.YtabeblbhbekjaaaSL
namespace Go.Proofs.Ytabeblbhbekjaaa
open Go.RowKit

/-- a method value that compares versions of a scheme -/
def Cmp (n : Int) (T : TypeId) : Prop := ∃ K : FuncId, (∀ k w, (method (k + 1) T (.agg #[]) "admission/version.compare").run Try.prog w = .ok (K, .agg #[]) w) ∧ (∀ args w, (callFunc K args).run Try.prog w = .ok (.enter K args) w) ∧
  ∀ (x y : V.Bs) W, V.valid n x = true → V.valid n y = true → MaxOk W → Calls Try.prog K #[.agg #[], .string ⟨x.toArray⟩, .string ⟨y.toArray⟩] W fun e w' => e = .returned (.int .i64 (V.cmpV n x y)) ∧ Below W.heap.size W w'

theorem cmp1 : Cmp 1 53 := ⟨_, meth_cmp1, enters_of Try.func40 (by kernel_rfl) rfl, fun x y W hx hy hm => by
  obtain ⟨⟨la, pa⟩, e1⟩ := Option.isSome_iff_exists.1 (valid_sem hx)
  obtain ⟨⟨lb, pb⟩, e2⟩ := Option.isSome_iff_exists.1 (valid_sem hy)
  have l1 := valid_len hx
  have l2 := valid_len hy
  have h := semCompare_any ⟨x.toArray⟩ ⟨y.toArray⟩ la pa lb pb W hm (by show x.length ≤ _; omega) (by show y.length ≤ _; omega) (by simp only [arr_list]; exact e1) (by simp only [arr_list]; exact e2)
  have e : V.cmpV 1 x y = V.semCmp (la, pa) (lb, pb) := by unfold V.cmpV; rw [if_pos rfl, e1, e2]
  rw [e]; exact h⟩
theorem cmp2 : Cmp 2 54 := ⟨_, meth_cmp2, enters_of Try.func91 (by kernel_rfl) rfl, fun x y W hx hy hm => by
  obtain ⟨⟨x0, x1, x2⟩, e1⟩ := Option.isSome_iff_exists.1 (valid_deb hx)
  obtain ⟨⟨y0, y1, y2⟩, e2⟩ := Option.isSome_iff_exists.1 (valid_deb hy)
  have l1 := valid_len hx
  have l2 := valid_len hy
  have h := debCompare_any ⟨x.toArray⟩ ⟨y.toArray⟩ x0 x1 x2 y0 y1 y2 W hm (by show x.length ≤ _; omega) (by show y.length ≤ _; omega) (by simp only [arr_list]; exact e1) (by simp only [arr_list]; exact e2)
  have e : V.cmpV 2 x y = V.debCmp (x0, x1, x2) (y0, y1, y2) := by unfold V.cmpV; rw [if_neg (by decide), if_pos rfl, e1, e2]
  rw [e]; exact h⟩
theorem cmp3 : Cmp 3 55 := ⟨_, meth_cmp3, enters_of Try.func104 (by kernel_rfl) rfl, fun x y W hx hy hm => by
  have l1 := valid_len hx
  have l2 := valid_len hy
  have h := dotCompare_any ⟨x.toArray⟩ ⟨y.toArray⟩ W hm (by show x.length ≤ _; omega) (by show y.length ≤ _; omega)
  simp only [arr_list] at h
  have e : V.cmpV 3 x y = V.dotCmp x y := by unfold V.cmpV; rw [if_neg (by decide), if_neg (by decide)]
  rw [e]; exact h⟩

/-- what check hands out -/
def CheckPost (n : Int) (l : List V.Bs) (w : World) (e : Ending) (w' : World) : Prop :=
  Below w.heap.size w w' ∧
  if V.scheme n = false then e = .returned (.tuple #[.nilFunc, .int .i64 14])
  else if l.all (V.valid n) = false then e = .returned (.tuple #[.nilFunc, .int .i64 1])
  else ∃ T, Cmp n T ∧ e = .returned (.tuple #[cmpVal T, .int .i64 0])

theorem check_any (n : Int) (v : Value) (l : List V.Bs) (w : World) (hm : MaxOk w) (hv : Strs w v l) (hl : l.length ≤ maxLen) (hx : ∀ x ∈ l, x.length ≤ maxLen) :
    Calls Try.prog 13 #[.int .i64 n, v] w (CheckPost n l w) := by
  by_cases h1 : n = 1
  · subst h1
    refine (check1_any v l w hm hv hl hx).mono fun e w' ⟨he, hb⟩ => ⟨hb, ?_⟩
    rw [if_neg (by decide)]
    unfold CkPost at he
    rcases ha : l.all (V.valid 1) with _ | _
    · rw [ha] at he; rw [if_pos rfl]; exact he
    · rw [ha] at he; rw [if_neg (by decide)]; exact ⟨_, cmp1, he⟩
  · by_cases h2 : n = 2
    · subst h2
      refine (check2_any v l w hm hv hl hx).mono fun e w' ⟨he, hb⟩ => ⟨hb, ?_⟩
      rw [if_neg (by decide)]
      unfold CkPost at he
      rcases ha : l.all (V.valid 2) with _ | _
      · rw [ha] at he; rw [if_pos rfl]; exact he
      · rw [ha] at he; rw [if_neg (by decide)]; exact ⟨_, cmp2, he⟩
    · by_cases h3 : n = 3
      · subst h3
        refine (check3_any v l w hm hv hl hx).mono fun e w' ⟨he, hb⟩ => ⟨hb, ?_⟩
        rw [if_neg (by decide)]
        unfold CkPost at he
        rcases ha : l.all (V.valid 3) with _ | _
        · rw [ha] at he; rw [if_pos rfl]; exact he
        · rw [ha] at he; rw [if_neg (by decide)]; exact ⟨_, cmp3, he⟩
      · refine (check0_any n h1 h2 h3 v w).mono fun e w' ⟨he, hw⟩ => ⟨by rw [← hw]; exact Below.refl _ _, ?_⟩
        rw [if_pos (by unfold V.scheme; simp [h1, h2, h3])]
        exact he

set_option maxRecDepth 100000 in
set_option maxHeartbeats 800000 in
theorem has_any (v : Value) (L : List V.Bs) (x : V.Bs) (w : World) (hv : Strs w v L) (hl : L.length ≤ maxLen) :
    Calls Try.prog 12 #[v, .string ⟨x.toArray⟩] w fun e w' => e = .returned (.bool (decide (x ∈ L))) ∧ w = w' := by
  have HV := Lib.hid hv
  obtain ⟨a, cap, rfl⟩ := hv.slice
  unfold maxLen at hl
  clear hv
  go_enter Try.func12, Try.ntmps12
  go_wp2
  go_loop [5] (fun i => ∃ k : Nat, k ≤ L.length ∧ i = .int .i64 k ∧ x ∉ L.take k) (fun i => L.length - (intOf i).toNat)
  case atStart => exact ⟨0, Nat.zero_le _, rfl, by simp⟩
  case round =>
    obtain ⟨k, hk, rfl, hz⟩ := hrel
    have HZ := Lib.hid hz
    clear hz
    by_cases hlt : k < L.length
    · obtain ⟨b, off, rfl, hb, hc⟩ := HV.out.at k hlt
      rcases he : (L.getD k [] == x) with _ | _
      · have HN : Hid (x ∉ L.take (k + 1)) := Lib.hid (by
          rw [List.take_succ_eq_append_getElem hlt, List.mem_append]
          rintro (h | h)
          · exact HZ.out h
          · rw [List.mem_singleton] at h
            rw [getD_of hlt, ← h] at he
            simp at he)
        have hne : ¬ L.getD k [] = x := by simpa using he
        generalize L.getD k [] = y at *
        go_wp2
        go_round
        case rel => exact ⟨k + 1, by omega, by go_num, HN.out⟩
        case measure => simp [intOf]; omega
      · have HR : Hid (decide (x ∈ L) = true) := Lib.hid (by
          rw [decide_eq_true_eq]
          have h := eq_of_beq he
          rw [getD_of hlt] at h
          rw [← h]; exact List.getElem_mem hlt)
        have hxe : L.getD k [] = x := eq_of_beq he
        generalize L.getD k [] = y at *
        obtain rfl := hxe
        go_wp2
        go_ret
        exact ⟨ret_bool HR.out.symm, rfl⟩
    · have HR : Hid (decide (x ∈ L) = false) := Lib.hid (by
        rw [decide_eq_false_iff_not]
        have h := HZ.out
        rwa [List.take_of_length_le (by omega)] at h)
      go_wp2
      go_ret
      exact ⟨ret_bool HR.out.symm, rfl⟩
end Go.Proofs.Ytabeblbhbekjaaa
