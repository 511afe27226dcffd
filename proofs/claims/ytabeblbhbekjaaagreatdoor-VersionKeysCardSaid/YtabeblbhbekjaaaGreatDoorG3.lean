/-
  Walks: the key of a Debian version; the key of a version of any scheme.
-/
import Derived.Test.YtabeblbhbekjaaaGreatDoorG2
import Derived.Test.YtabeblbhbekjaaaGreatDoorE3
namespace Go.Proofs.YtabeblbhbekjaaaGreatDoor
open Go.RowKit

theorem textKey_at (x : V.Bs) (w : World) (hx : x.length ≤ 64) :
    Calls Tryz.prog 127 #[.string ⟨x.toArray⟩] w fun e w' => e = .returned (.string ⟨(V.textKey x).toArray⟩) ∧ Below w.heap.size w w' := by
  have h := textKey_any ⟨x.toArray⟩ w (by show x.length ≤ _; exact hx)
  simp only [arr_list] at h
  exact h

theorem headK_len (a : V.Bs) : (V.headK a).length + (V.restD a).length ≤ a.length + 2 := by
  have l1 := V.takeD_len a false
  have l2 := V.takeD_len (V.takeD a false).2 true
  have h := nk_len (V.takeD (V.takeD a false).2 true).1
  unfold V.headK V.restD V.wts
  simp only [List.length_append, List.length_map, List.length_singleton]
  omega

theorem textR_len : ∀ (f : Nat) (a : V.Bs), (V.textR f a).length ≤ 3 * a.length + 1
  | 0, a => by simp [V.textR]
  | f + 1, a => by
    unfold V.textR
    by_cases ha : a = []
    · subst ha; simp
    · have h1 := V.restD_lt ha
      have h2 := headK_len a
      have h3 := textR_len f (V.restD a)
      rw [if_neg (by simpa using ha), List.length_append]
      omega
theorem textKey_len (a : V.Bs) : (V.textKey a).length ≤ 3 * a.length + 3 := by
  have h1 := V.restD_len a
  have h2 := headK_len a
  have h3 := textR_len a.length (V.restD a)
  unfold V.textKey
  rw [List.length_append]
  omega

set_option maxRecDepth 100000 in
set_option maxHeartbeats 3200000 in
theorem debKey_any (s : ByteArray) (x0 x1 x2 : V.Bs) (w : World) (hm : MaxOk w) (hs : s.size ≤ 64) (hp : V.debParse s.data.toList = some (x0, x1, x2)) :
    Calls Tryz.prog 123 #[.agg #[], .string s] w fun e w' => e = .returned (.string ⟨(V.debKey (x0, x1, x2)).toArray⟩) ∧ Below w.heap.size w w' := by
  have hlx := debParse_len hp
  rw [bs_size] at hlx
  obtain ⟨lx0, lx1, lx2⟩ := hlx
  have l0 : x0.length ≤ 64 := by omega
  have l1 : x1.length ≤ 64 := by omega
  have l2 : x2.length ≤ 64 := by omega
  have HF : Hid (V.debKey (x0, x1, x2) = V.nk x0 ++ (V.textKey x1 ++ V.textKey x2)) := rfl
  have hb0 : Below w.heap.size w (w.alloc (.cells #[] 64)) := (Below.refl _ w).alloc (Nat.le_refl _) _
  have hm0 := hm.below hb0
  have HP := Lib.hid hp
  have HB0 := Lib.hid hb0
  clear hp hb0 lx0 lx1 lx2
  go_enter Tryz.func123, Tryz.ntmps123
  go_wp2_with fail
  refine (debParse_any s _ hm0 (by omega)).mono ?_
  rintro e w1 h
  obtain ⟨rfl, hb1⟩ := debPost_some h HP.out
  have HB1 := Lib.hid (HB0.out.trans (hb1.mono HB0.out.size))
  clear h hb1 hm0
  go_wp2
  obtain ⟨W3, hW3⟩ : ∃ W3, W3 = w1.alloc (.cells #[.string ⟨x0.toArray⟩, .string ⟨x1.toArray⟩, .string ⟨x2.toArray⟩] 133) := ⟨_, rfl⟩
  rw [← hW3]
  have hb3 : Below w1.heap.size w1 W3 := by rw [hW3]; exact (Below.refl _ _).alloc (Nat.le_refl _) _
  have e : ∀ i, W3.cell? ⟨w1.heap.size, i, none⟩ = #[Value.string ⟨x0.toArray⟩, .string ⟨x1.toArray⟩, .string ⟨x2.toArray⟩][i]? := fun i => by rw [hW3, cell_alloc, if_pos rfl]
  have e0 := e 0
  have e1 := e 1
  have e2 := e 2
  simp at e0 e1 e2
  have HB3 := Lib.hid (HB1.out.trans (hb3.mono HB1.out.size))
  have hz3 : w1.heap.size < W3.heap.size := by rw [hW3]; simp
  have q0 := nk_len x0
  have q1 := textKey_len x1
  have q2 := textKey_len x2
  have s1 : ¬ (9223372036854775807 < (V.nk x0).length + (V.textKey x1).length) := by omega
  have s2 : ¬ (9223372036854775807 < (V.nk x0).length + (V.textKey x1).length + (V.textKey x2).length) := by omega
  clear hW3 hb3 e HB1 HB0 q0 q1 q2
  go_region_held3 (fun W' => (W'.cell? ⟨w1.heap.size, 0, none⟩ = some (.string ⟨x0.toArray⟩) ∧ W'.cell? ⟨w1.heap.size, 1, none⟩ = some (.string ⟨x1.toArray⟩) ∧ W'.cell? ⟨w1.heap.size, 2, none⟩ = some (.string ⟨x2.toArray⟩)))
    (first
      | go_keep
      | (go_split_ands
         refine ⟨?_, ?_, ?_⟩ <;> (refine keep_cell hbq ?_; first | assumption | (simp only [World.cell?_drew]; assumption))))
    (first
      | (go_at_call 100; refine (numberKey_at _ _ (by first | exact Nat.le_trans l0 (by decide) | exact Nat.le_trans l1 (by decide) | exact Nat.le_trans l2 (by decide))).mono ?_; rintro e wq ⟨rfl, hbq⟩)
      | (go_at_call 127; refine (textKey_at _ _ (by first | exact l1 | exact l2)).mono ?_; rintro e wq ⟨rfl, hbq⟩))
  rename_i wa hba wb hbb hS
  have hbx : Below W3.heap.size W3 wq := ((Below.refl W3.heap.size W3).drew).trans (Below.trans (show Below W3.heap.size W3.drew wa from hba) ((hbb.trans (hbq.mono hbb.size)).mono hba.size))
  have HB4 := Lib.hid (HB3.out.trans (hbx.mono HB3.out.size))
  clear hba hbb hbq hbx e0 e1 e2 HB3 s1 s2 hS
  go_wp2
  go_ret
  exact ⟨ret_str (bs_ext (by rw [HF.out]; simp)), HB4.out⟩

/-! the key of a version of any scheme -/

theorem meth_key1 (k : Nat) (w : World) : (method (k + 1) 63 (.agg #[]) "admission/version.key").run Tryz.prog w = .ok (92, .agg #[]) w := by kernel_rfl
theorem meth_key2 (k : Nat) (w : World) : (method (k + 1) 64 (.agg #[]) "admission/version.key").run Tryz.prog w = .ok (123, .agg #[]) w := by kernel_rfl
theorem meth_key3 (k : Nat) (w : World) : (method (k + 1) 65 (.agg #[]) "admission/version.key").run Tryz.prog w = .ok (136, .agg #[]) w := by kernel_rfl

theorem one_strs (s : ByteArray) (w : World) : Strs (w.alloc (.cells #[.string s] 9)) (.slice (some ⟨w.heap.size, 0, none⟩) 1 1) [s.data.toList] := by
  have h := Strs.split w [s.data.toList] 9
  have e : strCells [s.data.toList] = #[.string s] := by
    unfold strCells; simp [bs_of]
  rw [e] at h
  exact h

theorem one_le {s : ByteArray} (hs : s.size ≤ maxLen) : ∀ x ∈ [s.data.toList], x.length ≤ maxLen := by
  intro x hx
  simp at hx
  subst hx
  rw [Array.length_toList]; exact hs

/-- what Key returns -/
def keyR (n : Int) (v : V.Bs) : V.Bs × Int := if !V.scheme n then ([], 14) else if V.valid n v then (V.keyV n v, 0) else ([], 1)

set_option maxRecDepth 100000 in
set_option maxHeartbeats 3200000 in
theorem key_any (n : Int) (s : ByteArray) (w : World) (hm : MaxOk w) (hs : s.size ≤ maxLen) :
    Calls Tryz.prog 8 #[.int .i64 n, .string s] w fun e w' => e = .returned (.tuple #[.string ⟨(keyR n s.data.toList).1.toArray⟩, .int .i64 (keyR n s.data.toList).2]) ∧ Below w.heap.size w w' := by
  have hS := one_strs s w
  have hb0 : Below w.heap.size w (w.alloc (.cells #[.string s] 9)) := (Below.refl _ w).alloc (Nat.le_refl _) _
  have hm0 := hm.below hb0
  have HF : Hid (keyR n s.data.toList = if !V.scheme n then ([], 14) else if V.valid n s.data.toList then (V.keyV n s.data.toList, 0) else ([], 1)) := rfl
  have HS := Lib.hid hS
  have HB0 := Lib.hid hb0
  have HLE := Lib.hid (one_le hs)
  clear hS hb0 hs
  by_cases hn : V.scheme n = true
  · have hsn : n = 1 ∨ n = 2 ∨ n = 3 := by unfold V.scheme at hn; simpa [or_assoc] using hn
    rw [hn] at HF
    have hvall : [s.data.toList].all (V.valid n) = V.valid n s.data.toList := by simp
    rcases hv : V.valid n s.data.toList with _ | _
    · rw [hv] at HF hvall
      have HV := Lib.hid hvall
      have HR := Lib.hid (show keyR n s.data.toList = ([], 1) from HF.out)
      clear hv HF hvall hn
      rcases hsn with rfl | rfl | rfl
      all_goals
        go_enter Tryz.func8, Tryz.ntmps8
        go_wp2_with fail
      · refine (check1_any _ _ _ hm0 HS.out (by show 1 ≤ _; unfold maxLen; omega) HLE.out).mono ?_
        rintro e w1 ⟨he, hb1⟩
        rw [HV.out] at he
        obtain rfl := he
        have HB1 := Lib.hid (HB0.out.trans (hb1.mono HB0.out.size))
        clear hb1
        go_wp2
        go_ret2
        exact ⟨by rw [HR.out]; rfl, HB1.out⟩
      · refine (check2_any _ _ _ hm0 HS.out (by show 1 ≤ _; unfold maxLen; omega) HLE.out).mono ?_
        rintro e w1 ⟨he, hb1⟩
        rw [HV.out] at he
        obtain rfl := he
        have HB1 := Lib.hid (HB0.out.trans (hb1.mono HB0.out.size))
        clear hb1
        go_wp2
        go_ret2
        exact ⟨by rw [HR.out]; rfl, HB1.out⟩
      · refine (check3_any _ _ _ hm0 HS.out (by show 1 ≤ _; unfold maxLen; omega) HLE.out).mono ?_
        rintro e w1 ⟨he, hb1⟩
        rw [HV.out] at he
        obtain rfl := he
        have HB1 := Lib.hid (HB0.out.trans (hb1.mono HB0.out.size))
        clear hb1
        go_wp2
        go_ret2
        exact ⟨by rw [HR.out]; rfl, HB1.out⟩
    · have h64 := V.valid_short hv
      rw [bs_size] at h64
      rw [hv] at HF hvall
      have HV := Lib.hid hvall
      have HR := Lib.hid (show keyR n s.data.toList = (V.keyV n s.data.toList, 0) from HF.out)
      have HVV := Lib.hid hv
      clear hv HF hvall hn
      rcases hsn with rfl | rfl | rfl
      · obtain ⟨⟨la, pa⟩, e1⟩ := Option.isSome_iff_exists.1 (show (V.semParse s.data.toList).isSome = true by have := HVV.out; unfold V.valid V.schOk at this; simp at this; exact this.2)
        have HK : Hid (V.keyV 1 s.data.toList = V.semKey (la, pa)) := Lib.hid (by unfold V.keyV; rw [if_pos rfl, e1])
        have E1 := Lib.hid e1
        clear e1
        have hmeth := meth_key1
        go_enter Tryz.func8, Tryz.ntmps8
        go_wp2_with fail
        refine (check1_any _ _ _ hm0 HS.out (by show 1 ≤ _; unfold maxLen; omega) HLE.out).mono ?_
        rintro e w1 ⟨he, hb1⟩
        rw [HV.out] at he
        obtain rfl := he
        have HB1 := Lib.hid (HB0.out.trans (hb1.mono HB0.out.size))
        have hm1 := hm0.below hb1
        clear hb1
        go_wp2_with fail
        refine (of1_any _).mono ?_
        rintro e w' ⟨rfl, rfl⟩
        go_wp2_with fail
        refine (semKey_any s la pa _ hm1 h64 E1.out).mono ?_
        rintro e w2 ⟨rfl, hb2⟩
        have HB2 := Lib.hid (HB1.out.trans (hb2.mono HB1.out.size))
        clear hb2
        go_wp2
        go_ret2
        exact ⟨by rw [HR.out, HK.out]; rfl, HB2.out⟩
      · obtain ⟨⟨x0, x1, x2⟩, e1⟩ := Option.isSome_iff_exists.1 (show (V.debParse s.data.toList).isSome = true by have := HVV.out; unfold V.valid V.schOk at this; simp at this; exact this.2)
        have HK : Hid (V.keyV 2 s.data.toList = V.debKey (x0, x1, x2)) := Lib.hid (by unfold V.keyV; rw [if_neg (by decide), if_pos rfl, e1])
        have E1 := Lib.hid e1
        clear e1
        have hmeth := meth_key2
        go_enter Tryz.func8, Tryz.ntmps8
        go_wp2_with fail
        refine (check2_any _ _ _ hm0 HS.out (by show 1 ≤ _; unfold maxLen; omega) HLE.out).mono ?_
        rintro e w1 ⟨he, hb1⟩
        rw [HV.out] at he
        obtain rfl := he
        have HB1 := Lib.hid (HB0.out.trans (hb1.mono HB0.out.size))
        have hm1 := hm0.below hb1
        clear hb1
        go_wp2_with fail
        refine (of2_any _).mono ?_
        rintro e w' ⟨rfl, rfl⟩
        go_wp2_with fail
        refine (debKey_any s x0 x1 x2 _ hm1 h64 E1.out).mono ?_
        rintro e w2 ⟨rfl, hb2⟩
        have HB2 := Lib.hid (HB1.out.trans (hb2.mono HB1.out.size))
        clear hb2
        go_wp2
        go_ret2
        exact ⟨by rw [HR.out, HK.out]; rfl, HB2.out⟩
      · have HK : Hid (V.keyV 3 s.data.toList = V.dotKey (V.dotParse s.data.toList)) := Lib.hid (by unfold V.keyV; rw [if_neg (by decide), if_neg (by decide)])
        have hmeth := meth_key3
        go_enter Tryz.func8, Tryz.ntmps8
        go_wp2_with fail
        refine (check3_any _ _ _ hm0 HS.out (by show 1 ≤ _; unfold maxLen; omega) HLE.out).mono ?_
        rintro e w1 ⟨he, hb1⟩
        rw [HV.out] at he
        obtain rfl := he
        have HB1 := Lib.hid (HB0.out.trans (hb1.mono HB0.out.size))
        have hm1 := hm0.below hb1
        clear hb1
        go_wp2_with fail
        refine (of3_any _).mono ?_
        rintro e w' ⟨rfl, rfl⟩
        go_wp2_with fail
        refine (dotKey_any s _ hm1 h64).mono ?_
        rintro e w2 ⟨rfl, hb2⟩
        have HB2 := Lib.hid (HB1.out.trans (hb2.mono HB1.out.size))
        clear hb2
        go_wp2
        go_ret2
        exact ⟨by rw [HR.out, HK.out]; rfl, HB2.out⟩
  · have hn' : V.scheme n = false := by simpa using hn
    have h3 : n ≠ 1 ∧ n ≠ 2 ∧ n ≠ 3 := by unfold V.scheme at hn'; simpa [and_assoc] using hn'
    rw [hn'] at HF
    have HR := Lib.hid (show keyR n s.data.toList = ([], 14) from HF.out)
    obtain ⟨n1, n2, n3⟩ := h3
    clear hn hn' HF
    go_enter Tryz.func8, Tryz.ntmps8
    go_wp2_with fail
    refine (check0_any n n1 n2 n3 _ _).mono ?_
    rintro e w' ⟨rfl, rfl⟩
    go_wp2
    go_ret2
    exact ⟨by rw [HR.out]; rfl, HB0.out⟩
end Go.Proofs.YtabeblbhbekjaaaGreatDoor
