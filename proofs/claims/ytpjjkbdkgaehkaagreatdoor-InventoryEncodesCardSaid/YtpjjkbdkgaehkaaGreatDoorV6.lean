/-
  The head of all walks: imports, small closers.
  Walks: package version, bytes and numbers.
  Walks: package version, numbers.
  Small facts of strings and lists.
  Walks: package version, values; cmp.Or.
-/
import Derived.Test.YtpjjkbdkgaehkaaGreatDoorRows
import Derived.Test.YtpjjkbdkgaehkaaGreatDoorP6
import Derived.Test.YtpjjkbdkgaehkaaGreatDoorShelf
import Derived.WalkKit
import Derived.WalkSpells
import Derived.WalkLawsBesides
import Derived.Deep.QuietTactic
import Derived.BigQuiet
import Derived.Lib.Hide
namespace Go.Proofs.YtpjjkbdkgaehkaaGreatDoor
open Go.RowKit

theorem ret_bool {a b : Bool} (h : a = b) : Ending.returned (.bool a) = .returned (.bool b) := by rw [h]
theorem ret_int {k : IntKind} {a b : Int} (h : a = b) : Ending.returned (.int k a) = .returned (.int k b) := by rw [h]
theorem ret_str {a b : ByteArray} (h : a = b) : Ending.returned (.string a) = .returned (.string b) := by rw [h]

/-- all old cells and marks read as before -/
theorem bcell {W w1 : World} (hb : Below W.heap.size W w1) : (∀ b o, b < W.heap.size → w1.cell? ⟨b, o, none⟩ = W.cell? ⟨b, o, none⟩) ∧ (∀ b o, b < W.heap.size → w1.frozen? ⟨b, o, none⟩ = W.frozen? ⟨b, o, none⟩) :=
  ⟨fun b o h => hb.cell (p := ⟨b, o, none⟩) h, fun b o h => hb.frozen (p := ⟨b, o, none⟩) h⟩

theorem heap_alloc (w : World) (o : Obj) (k : Nat) : (w.alloc o).heap[k]? = if k = w.heap.size then some o else w.heap[k]? := by
  show (w.heap.push o)[k]? = _
  rw [Array.getElem?_push]
theorem cell_alloc (w : World) (c : Array Value) (t : TypeId) (b i : Nat) : (w.alloc (.cells c t)).cell? ⟨b, i, none⟩ = if b = w.heap.size then c[i]? else w.cell? ⟨b, i, none⟩ := by
  unfold World.cell?
  rw [heap_alloc]
  by_cases h : b = w.heap.size <;> simp [h]
theorem frozen_alloc (w : World) (c : Array Value) (t : TypeId) (b i : Nat) : (w.alloc (.cells c t)).frozen? ⟨b, i, none⟩ = if b = w.heap.size then false else w.frozen? ⟨b, i, none⟩ := by
  unfold World.frozen?
  rw [heap_alloc]
  by_cases h : b = w.heap.size <;> simp [h]

/-- two new blocks -/
theorem two_alloc (w : World) (c d : Array Value) (t u : TypeId) :
    Below w.heap.size w ((w.alloc (.cells c t)).alloc (.cells d u)) ∧ (∀ i, ((w.alloc (.cells c t)).alloc (.cells d u)).cell? ⟨w.heap.size + 1, i, none⟩ = d[i]?) ∧
    (∀ i, ((w.alloc (.cells c t)).alloc (.cells d u)).frozen? ⟨w.heap.size + 1, i, none⟩ = false) ∧ ((w.alloc (.cells c t)).alloc (.cells d u)).heap.size = w.heap.size + 2 := by
  refine ⟨((Below.refl _ _).alloc (Nat.le_refl _) _).alloc (by simp) _, fun i => ?_, fun i => ?_, by simp⟩
  · rw [cell_alloc, if_pos (by simp)]
  · rw [frozen_alloc, if_pos (by simp)]

theorem bs_ext {a b : ByteArray} (h : a.data.toList = b.data.toList) : a = b := by
  cases a; cases b
  simp at h
  rw [h]
theorem bs_mk (l : List UInt8) : (ByteArray.mk l.toArray).data.toList = l := by simp
theorem bs_of (a : ByteArray) : (⟨a.data.toList.toArray⟩ : ByteArray) = a := bs_ext (by simp)
theorem bs_size (a : ByteArray) : a.data.toList.length = a.size := by rw [Array.length_toList]; rfl
end Go.Proofs.YtpjjkbdkgaehkaaGreatDoor
namespace Go.Proofs.YtpjjkbdkgaehkaaGreatDoor
open Go.RowKit

set_option maxHeartbeats 400000 in
theorem digit_any (n : Int) (w : World) :
    Calls Tryz.prog 205 #[.int .u8 n] w fun e w' => e = .returned (.bool (V.digB n)) ∧ w = w' := by
  go_enter Tryz.func205, Tryz.ntmps205
  go_wp2
  all_goals go_ret
  all_goals exact ⟨ret_bool (by unfold V.digB; simp_all; try omega), rfl⟩

set_option maxHeartbeats 400000 in
theorem letter_any (n : Int) (w : World) :
    Calls Tryz.prog 208 #[.int .u8 n] w fun e w' => e = .returned (.bool (V.letB n)) ∧ w = w' := by
  go_enter Tryz.func208, Tryz.ntmps208
  go_wp2
  all_goals go_ret
  all_goals exact ⟨ret_bool (by unfold V.letB; simp_all; try omega), rfl⟩

set_option maxRecDepth 100000 in
set_option maxHeartbeats 400000 in
theorem only_any (s : ByteArray) (K : Nat) (cap : Array Value) (p : UInt8 → Bool) (w : World) (hs : s.size ≤ maxLen)
    (eg : ∀ args w, (callFunc K args).run Tryz.prog w = .ok (.enter K args) w)
    (hK : ∀ (c : UInt8), Calls Tryz.prog K (#[.int .u8 c.toNat] ++ cap) w fun e w' => e = .returned (.bool (p c)) ∧ w = w') :
    Calls Tryz.prog 204 #[.string s, .func (.func K) #[] cap] w fun e w' => e = .returned (.bool (V.only p s.data.toList)) ∧ w = w' := by
  unfold maxLen at hs
  have HK := Lib.hid hK
  clear hK
  go_enter Tryz.func204, Tryz.ntmps204
  go_wp2
  go_loop [5] (fun i => ∃ k : Nat, k ≤ s.size ∧ i = .int .i64 k ∧ (s.data.toList.take k).all p = true) (fun i => s.size - (intOf i).toNat)
  case atStart => exact ⟨0, Nat.zero_le _, rfl, rfl⟩
  case round =>
    obtain ⟨k, hk, rfl, hp⟩ := hrel
    have HP := Lib.hid hp
    clear hp
    by_cases hlt : k < s.size
    · have hl : k < s.data.toList.length := by rw [bs_size]; exact hlt
      have HT := Lib.hid (V.all_take (p := p) hl)
      have he : s.data.toList[k] = s[k] := by simp; rfl
      have HE := Lib.hid he
      clear he
      rcases hpc : p s[k] with _ | _
      all_goals
        have HPC := Lib.hid hpc
        clear hpc
        go_wp2_with fail
        refine (HK.out _).mono ?_
        rintro e w' ⟨rfl, rfl⟩
        simp only [HPC.out]
        go_wp2
      · go_ret
        exact ⟨ret_bool (V.only_no (k := k) (by rw [bs_size]; exact hlt) (by rw [HE.out]; exact HPC.out)).symm, rfl⟩
      · go_round
        case rel => exact ⟨k + 1, by omega, by go_num, by rw [HT.out, HP.out, HE.out, HPC.out]; rfl⟩
        case measure => simp [intOf]; omega
    · have ht : (s.data.toList.take k) = s.data.toList := List.take_of_length_le (by rw [bs_size]; omega)
      rw [ht] at HP
      have HQ : Hid (V.only p s.data.toList = !s.data.toList.isEmpty) := by unfold V.only; rw [HP.out]; rfl
      clear ht
      go_wp2
      go_ret
      exact ⟨ret_bool (by rw [HQ.out, Lib.toList_data]), rfl⟩
end Go.Proofs.YtpjjkbdkgaehkaaGreatDoor
namespace Go.Proofs.YtpjjkbdkgaehkaaGreatDoor
open Go.RowKit

theorem only_digit (s : ByteArray) (w : World) (hs : s.size ≤ maxLen) :
    Calls Tryz.prog 204 #[.string s, .func (.func 205) #[] #[]] w fun e w' => e = .returned (.bool (V.digits s.data.toList)) ∧ w = w' :=
  only_any s _ #[] V.dig w hs (enters_of Tryz.func205 (by kernel_rfl) rfl) (fun c => digit_any c.toNat w)

theorem at0 {s : ByteArray} (h : 0 < s.size) : s.data.toList.getD 0 0 = s[0] := by
  have : 0 < s.data.toList.length := by rw [bs_size]; exact h
  simp [List.getD, List.getElem?_eq_getElem this]; rfl

theorem digits_pos {l : V.Bs} (h : V.digits l = true) : 0 < l.length := by
  unfold V.digits V.only at h
  cases l with
  | nil => simp at h
  | cons => simp

set_option maxRecDepth 100000 in
set_option maxHeartbeats 400000 in
theorem number_any (s : ByteArray) (ex : Bool) (w : World) (hs : s.size ≤ maxLen) :
    Calls Tryz.prog 201 #[.string s, .bool ex] w fun e w' => e = .returned (.bool (V.numb s.data.toList ex)) ∧ w = w' := by
  have hs' := hs
  unfold maxLen at hs
  by_cases hd : V.digits s.data.toList = true
  · have HD := Lib.hid hd
    have hp := digits_pos hd
    rw [bs_size] at hp
    have h0 := Lib.hid (at0 hp)
    clear hd
    cases ex with
    | false =>
      have HN : Hid (V.numb s.data.toList false = true) := by refine Lib.hid ?_; unfold V.numb; rw [HD.out]; rfl
      go_enter Tryz.func201, Tryz.ntmps201
      go_wp2_with fail
      refine (only_digit s _ hs').mono ?_
      rintro e w' ⟨rfl, rfl⟩
      simp only [HD.out]
      go_wp2
      go_ret
      exact ⟨ret_bool HN.out.symm, rfl⟩
    | true =>
      by_cases h1 : 1 < s.size
      · have HN : Hid (V.numb s.data.toList true = !((s[0].toNat : Int) == 48)) := by
          refine Lib.hid ?_
          unfold V.numb
          have : (s[0] == (48 : UInt8)) = ((s[0].toNat : Int) == 48) := by
            rw [Bool.eq_iff_iff]; simp [← UInt8.toNat_inj]; omega
          rw [HD.out, h0.out, bs_size, this]; simp [h1]
        go_enter Tryz.func201, Tryz.ntmps201
        go_wp2_with fail
        refine (only_digit s _ hs').mono ?_
        rintro e w' ⟨rfl, rfl⟩
        simp only [HD.out]
        go_wp2
        go_ret
        exact ⟨ret_bool HN.out.symm, rfl⟩
      · have HN : Hid (V.numb s.data.toList true = true) := by refine Lib.hid ?_; unfold V.numb; rw [HD.out, bs_size]; simp [h1]
        go_enter Tryz.func201, Tryz.ntmps201
        go_wp2_with fail
        refine (only_digit s _ hs').mono ?_
        rintro e w' ⟨rfl, rfl⟩
        simp only [HD.out]
        go_wp2
        go_ret
        exact ⟨ret_bool HN.out.symm, rfl⟩
  · have hd' : V.digits s.data.toList = false := by simpa using hd
    have HD := Lib.hid hd'
    have HN : Hid (V.numb s.data.toList ex = false) := by refine Lib.hid ?_; unfold V.numb; rw [HD.out]; rfl
    clear hd hd'
    go_enter Tryz.func201, Tryz.ntmps201
    go_wp2_with fail
    refine (only_digit s _ hs').mono ?_
    rintro e w' ⟨rfl, rfl⟩
    simp only [HD.out]
    go_wp2
    go_ret
    exact ⟨ret_bool HN.out.symm, rfl⟩
end Go.Proofs.YtpjjkbdkgaehkaaGreatDoor
namespace Go.Proofs.YtpjjkbdkgaehkaaGreatDoor
open Go.RowKit

def szOf : Value → Nat
  | .string s => s.size
  | _ => 0

theorem arr_list (l : V.Bs) : l.toArray.toList = l := by simp
end Go.Proofs.YtpjjkbdkgaehkaaGreatDoor
namespace Go.Proofs.YtpjjkbdkgaehkaaGreatDoor
open Go.RowKit

set_option maxRecDepth 100000 in
set_option maxHeartbeats 400000 in
theorem value_any (s : ByteArray) (w : World) :
    Calls Tryz.prog 202 #[.string s] w fun e w' => e = .returned (.string ⟨(V.value s.data.toList).toArray⟩) ∧ w = w' := by
  go_enter Tryz.func202, Tryz.ntmps202
  go_wp2_with fail
  refine (Tryz.strings_TrimLeft_one s 48 (by decide) _).mono ?_
  rintro e w' ⟨rfl, rfl⟩
  go_wp2
  go_ret
  exact ⟨rfl, rfl⟩

set_option maxRecDepth 100000 in
set_option maxHeartbeats 400000 in
theorem or_any (b : Nat) (xs : List Int) (w : World) (hx : xs.length ≤ 100)
    (hc : ∀ j, j < xs.length → w.cell? ⟨b, j, none⟩ = some (.int .i64 (xs.getD j 0))) :
    Calls Tryz.prog 195 #[.slice (some ⟨b, 0, none⟩) xs.length xs.length] w fun e w' => e = .returned (.int .i64 (V.orI xs)) ∧ w = w' := by
  have HC := Lib.hid hc
  clear hc
  go_enter Tryz.func195, Tryz.ntmps195
  go_wp2
  go_loop [8] (fun i => ∃ k : Nat, k ≤ xs.length ∧ i = .int .i64 k ∧ ∀ j, j < k → xs.getD j 0 = 0) (fun i => xs.length - (intOf i).toNat)
  case atStart => exact ⟨0, Nat.zero_le _, rfl, fun j hj => by omega⟩
  case round =>
    obtain ⟨k, hk, rfl, hz⟩ := hrel
    have HZ := Lib.hid hz
    clear hz
    by_cases hlt : k < xs.length
    · have hcell := HC.out k hlt
      by_cases h0 : xs.getD k 0 = 0
      · have HR : Hid (∀ j, j < k + 1 → xs.getD j 0 = 0) := fun j hj => by
          by_cases e : j = k
          · subst e; exact h0
          · exact HZ.out j (by omega)
        rw [h0] at hcell
        clear h0
        go_wp2
        go_round
        case rel => exact ⟨k + 1, by omega, by go_num, HR.out⟩
        case measure => simp [intOf]; omega
      · have HR : Hid (V.orI xs = xs.getD k 0) := by
          refine Lib.hid ?_
          rw [V.orI_skip xs k HZ.out]
          have e : xs.drop k = xs.getD k 0 :: xs.drop (k + 1) := by
            rw [List.drop_eq_getElem_cons hlt]; simp [List.getD, List.getElem?_eq_getElem hlt]
          rw [e]; unfold V.orI V.cor; rw [if_neg h0]
        have hb : (xs.getD k 0 != 0) = true := by simpa using h0
        generalize xs.getD k 0 = x at *
        clear h0
        go_wp2
        go_ret
        exact ⟨ret_int HR.out.symm, rfl⟩
    · have HR : Hid (V.orI xs = 0) := by
          refine Lib.hid ?_
          rw [V.orI_skip xs k HZ.out, List.drop_of_length_le (by omega)]; rfl
      go_wp2
      go_ret
      exact ⟨ret_int HR.out.symm, rfl⟩
end Go.Proofs.YtpjjkbdkgaehkaaGreatDoor
