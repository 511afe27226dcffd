/-
  Walks: the key of a text of a Debian version.
-/
import Derived.Test.YtabeblbhbekjaaaGreatDoorV4
import Derived.Test.YtabeblbhbekjaaaGreatDoorG1
import Derived.Lib.BufSteps
import Derived.OwnWalk
namespace Go.Proofs.YtabeblbhbekjaaaGreatDoor
open Go.RowKit

/-! plain: the rest of a key does not hang on its fuel -/

theorem textR_fuel : ∀ (f g : Nat) (a : V.Bs), a.length ≤ f → a.length ≤ g → V.textR f a = V.textR g a
  | 0, 0, _, _, _ => rfl
  | 0, g + 1, a, h, _ => by
    have : a = [] := List.eq_nil_of_length_eq_zero (by omega)
    subst this; rfl
  | f + 1, 0, a, _, h => by
    have : a = [] := List.eq_nil_of_length_eq_zero (by omega)
    subst this; rfl
  | f + 1, g + 1, a, hf, hg => by
    unfold V.textR
    by_cases ha : a = []
    · subst ha; rfl
    · have := V.restD_lt ha
      rw [textR_fuel f g (V.restD a) (by omega) (by omega)]

theorem textR_nil : V.textR (([] : V.Bs).length) [] = [2] := rfl
theorem textR_step {a : V.Bs} (h : a ≠ []) : V.textR a.length a = V.headK a ++ V.textR (V.restD a).length (V.restD a) := by
  cases a with
  | nil => exact absurd rfl h
  | cons c r =>
    show (if (c :: r).isEmpty then [2] else V.headK (c :: r) ++ V.textR r.length (V.restD (c :: r))) = _
    rw [List.isEmpty_cons, if_neg (by decide), textR_fuel r.length (V.restD (c :: r)).length _ (by have := V.restD_lt (s := c :: r) (by simp); simp at this; omega) (Nat.le_refl _)]
theorem textKey_step (a : V.Bs) : V.textKey a = V.headK a ++ V.textR (V.restD a).length (V.restD a) := by
  unfold V.textKey
  rw [textR_fuel a.length (V.restD a).length _ (V.restD_len a) (Nat.le_refl _)]

/-! bytes that the call owns -/

def byteVals (l : V.Bs) : List Value := l.map fun b => Value.int .u8 b.toNat

theorem byteVals_snoc (l : V.Bs) (c : UInt8) : byteVals l ++ [.int .u8 c.toNat] = byteVals (l ++ [c]) := by simp [byteVals]
theorem byteVals_app (l m : V.Bs) : byteVals l ++ Lib.strCells ⟨m.toArray⟩ = byteVals (l ++ m) := by simp [byteVals, Lib.strCells]

theorem info_u8 : (Tryz.prog.info? 5).map (fun i => (i.zero, i.size, i.bytes)) = some (some (.int .u8 0), 1, 1) := by kernel_rfl

set_option maxRecDepth 100000 in
/-- 'string(out)' -/
theorem conv_own {B : Nat} {v : Value} {n : Nat} {l : V.Bs} {W0 w : World} (h : Lib.OwnBuf B 5 v n (byteVals l) W0 w) (hn : n = l.length) (h0 : 0 < n) :
    (convert 116 9 v).run Tryz.prog w = .ok (.string ⟨l.toArray⟩) w := by
  obtain ⟨ho, _, _⟩ := h
  have hcs := fun (g : Nat) hg => ho.cells (g := g) hg
  rcases ho.2 with ⟨_, e⟩ | ⟨g, cap, cur, fz, rfl, _⟩
  · omega
  · have hc := hcs g rfl
    have r := run_convert_bytes_arg (P := Tryz.prog) w 116 5 Tryz.underlying116 Tryz.underlying5 g 0 n cap (l.map fun b => (b.toNat : Int)) (by simp [hn]) (fun i hi => by
      have hu : (byteVals l)[i]? = some (.int .u8 ((l.map fun b => (b.toNat : Int)).getD i 0)) := by
        unfold byteVals
        rw [List.getElem?_map, List.getElem?_eq_getElem (by omega), List.getD_eq_getElem?_getD, List.getElem?_map, List.getElem?_eq_getElem (by omega)]
        rfl
      have := hc i _ hu
      rw [show (⟨g, 0, none⟩ : Addr).add i = ⟨g, 0 + i, none⟩ by unfold Addr.add; split <;> simp_all] at this
      exact this) 9 Tryz.underlying9
    rw [r]
    congr 2
    apply bs_ext
    rw [strOfNums_data, List.map_map]
    simp only [bs_mk]
    conv => rhs; rw [← List.map_id l]
    apply List.map_congr_left
    intro b _
    simp

theorem own_below {B : Nat} {v : Value} {n : Nat} {xs : List Value} {W0 w w' : World} (h : Lib.OwnBuf B 5 v n xs W0 w) (hb : Below w.heap.size w w') : Lib.OwnBuf B 5 v n xs W0 w' :=
  ⟨h.1.kept (row := none) ⟨hb.os, hb.tape, hb.output, hb.size, fun k hk _ => hb.block k hk⟩ (by cases hv : v.ownBlock <;> simp), h.2.1.trans (hb.mono h.2.2), Nat.le_trans h.2.2 hb.size⟩

theorem wts_at (x : V.Bs) (k : Nat) (hk : k ≤ x.length) : V.wt x k = (((V.wts x).getD k 0).toNat : Int) := by
  unfold V.wts
  rcases Nat.lt_or_ge k x.length with h | h
  · unfold V.wt
    rw [if_neg (by omega)]
    have e1 : x.getD k 0 = x[k] := by simp [List.getD, List.getElem?_eq_getElem h]
    have e2 : (x.map V.wb ++ [2]).getD k 0 = V.wb x[k] := by
      rw [List.getD_eq_getElem?_getD, List.getElem?_append_left (by simpa using h), List.getElem?_map, List.getElem?_eq_getElem h]; rfl
    rw [e1, e2]
    unfold V.wb
    split
    · rfl
    · split <;> rfl
  · obtain rfl : k = x.length := by omega
    unfold V.wt
    rw [if_pos (Nat.le_refl _), List.getD_eq_getElem?_getD, List.getElem?_append_right (by simp)]
    simp

theorem wts_take (x : V.Bs) (k : Nat) (hk : k ≤ x.length) : (V.wts x).take (k + 1) = (V.wts x).take k ++ [(V.wts x).getD k 0] := by
  have h : k < (V.wts x).length := by unfold V.wts; simp; omega
  rw [List.take_succ_eq_append_getElem h]
  simp [List.getD, List.getElem?_eq_getElem h]

/-- 1 for true -/
def bit : Value → Nat | .bool true => 1 | _ => 0

set_option maxRecDepth 100000 in
set_option maxHeartbeats 3200000 in
theorem textKey_any (s : ByteArray) (w : World) (hs : s.size ≤ 64) :
    Calls Tryz.prog 127 #[.string s] w fun e w' => e = .returned (.string ⟨(V.textKey s.data.toList).toArray⟩) ∧ Below w.heap.size w w' := by
  obtain ⟨i0, hi, hz0, hz1, hz2⟩ := info_parts info_u8
  have I0 := Lib.hid (And.intro hi (And.intro hz0 (And.intro hz1 hz2)))
  clear hi hz0 hz1 hz2
  go_enter Tryz.func127, Tryz.ntmps127
  go_wp2
  go_loopw [0, 3, 4] (fun sv ov fv wr => ∃ (a : ByteArray) (acc : V.Bs) (fst : Bool), sv = .string a ∧ fv = .bool fst ∧ a.size ≤ s.size ∧ acc.length + 3 * a.size ≤ 3 * s.size + 2 ∧ Lib.OwnBuf w.heap.size 5 ov acc.length (byteVals acc) w wr ∧
    (fst = true → a = s ∧ acc = []) ∧ (fst = false → V.textKey s.data.toList = acc ++ V.textR a.data.toList.length a.data.toList ∧ 0 < acc.length)) (fun sv _ fv _ => szOf sv + bit fv)
  case atStart => exact ⟨s, [], true, rfl, rfl, Nat.le_refl _, by simp, ⟨World.ownsRowF_nil _ _ _ _, Below.refl _ _, Nat.le_refl _⟩, fun _ => ⟨rfl, rfl⟩, fun h => by cases h⟩
  case round =>
    obtain ⟨a, acc, fst, rfl, rfl, has, hlen, hown, hf1, hf2⟩ := hrel
    have HF1 := Lib.hid hf1
    have HF2 := Lib.hid hf2
    have HOWN := Lib.hid hown
    clear hf1 hf2 hown
    by_cases hend : fst = false ∧ a.data.toList = []
    · obtain ⟨rfl, hae⟩ := hend
      obtain ⟨hk1, hk2⟩ := HF2.out rfl
      have HKEY : Hid (V.textKey s.data.toList = acc ++ [2]) := Lib.hid (by rw [hk1, hae]; rfl)
      have hea : a.toList.isEmpty = true := by rw [Lib.toList_data, hae]; rfl
      have hea' : a.toList = [] := by rw [Lib.toList_data, hae]
      clear hk1 hae hk2
      obtain ⟨hi, hz0, hz1, hz2⟩ := I0.out
      go_wp2_with (at_builtin; refine Lib.wpList_append_byte rfl (.tmp 38) (.tmp 39) 116 rfl w.heap.size 5 i0 Tryz.underlying116 hi hz0 hz1 hz2 _ acc.length (byteVals acc) rfl w _ 2 HOWN.out rfl (by omega) ?_; intro v' w' hown'; have hcv := conv_own (l := acc ++ [2]) (by rw [← byteVals_snoc]; exact hown') (by simp) (by omega); have HO2 := Lib.hid hown'; clear hown')
      go_ret
      exact ⟨ret_str (by rw [HKEY.out]), HO2.out.2.1⟩
    · obtain ⟨x, a1, hxa⟩ : ∃ x a1, V.takeD a.data.toList false = (x, a1) := ⟨_, _, rfl⟩
      obtain ⟨p, a2, hpa⟩ : ∃ p a2, V.takeD a1 true = (p, a2) := ⟨_, _, rfl⟩
      have l1 := V.takeD_len a.data.toList false
      have l2 := V.takeD_len a1 true
      rw [hxa, bs_size] at l1
      rw [hpa] at l2
      simp only at l1 l2
      have HHD : Hid (V.headK a.data.toList = V.wts x ++ V.nk p) := Lib.hid (by unfold V.headK; rw [hxa]; simp only; rw [hpa])
      have HRD : Hid (V.restD a.data.toList = a2) := Lib.hid (by unfold V.restD; rw [hxa]; simp only; rw [hpa])
      have hnk := nk_len p
      have hne : fst = false → a.data.toList ≠ [] := fun h e => hend ⟨h, e⟩
      have hlt : fst = false → a2.length < a.size := fun h => by
        have := V.restD_lt (hne h)
        rw [HRD.out, bs_size] at this; exact this
      have HKEY : Hid (V.textKey s.data.toList = (acc ++ V.wts x ++ V.nk p) ++ V.textR a2.length a2) := Lib.hid (by
        rcases fst with _ | _
        · rw [(HF2.out rfl).1, textR_step (hne rfl), HHD.out, HRD.out]; simp
        · obtain ⟨rfl, rfl⟩ := HF1.out rfl
          rw [textKey_step, HHD.out, HRD.out]; simp)
      have hbud : acc.length + (x.length + 1) + (V.nk p).length + 3 * a2.length ≤ 3 * s.size + 2 := by
        rcases fst with _ | _
        · have := hlt rfl; omega
        · obtain ⟨rfl, rfl⟩ := HF1.out rfl
          simp only [List.length_nil]; omega
      have hmeas : a2.length < a.size + bit (.bool fst) := by
        rcases fst with _ | _
        · have := hlt rfl; show _ < _ + 0; omega
        · show _ < _ + 1; omega
      have htest : (fst = true) ∨ (fst = false ∧ a.toList.isEmpty = false ∧ ¬ a.toList = []) := by
        rcases fst with _ | _
        · right
          have := hne rfl
          rw [Lib.toList_data]
          exact ⟨rfl, by simpa using this, this⟩
        · exact .inl rfl
      have HXA := Lib.hid hxa
      have HPA := Lib.hid hpa
      have HMEAS := Lib.hid hmeas
      have hx64 : x.length ≤ 64 := by omega
      have hp64 : p.length ≤ 64 := by omega
      have ha1 : a1.length ≤ 64 := by omega
      have ha2 : a2.length ≤ s.size := by omega
      clear hend hxa hpa hne hlt hmeas l1 l2 HF1 HF2
      have hwl : (V.wts x).length = x.length + 1 := by unfold V.wts; simp
      have HWL := Lib.hid hwl
      clear hwl
      rcases htest with rfl | ⟨rfl, hea, hea'⟩
      all_goals
        go_wp2_with fail
        refine (take_any a false _ (by unfold maxLen; omega)).mono ?_
        rintro e w1 ⟨rfl, hb1⟩
        simp only [HXA.out]
        have HOWN1 : Hid (Lib.OwnBuf w.heap.size 5 u3 acc.length (byteVals acc) w w1) := Lib.hid (own_below HOWN.out hb1)
        clear hb1
        obtain ⟨wo, rfl⟩ : ∃ wo : World, wo = wr := ⟨_, rfl⟩
        go_wp2
        go_loopw [3, 6] (fun ov i wr => ∃ k : Nat, k ≤ x.length + 1 ∧ i = .int .i64 k ∧ Lib.OwnBuf w.heap.size 5 ov (acc.length + k) (byteVals (acc ++ (V.wts x).take k)) w wr) (fun _ i _ => x.length + 1 - (intOf i).toNat)
        case atStart => exact ⟨0, Nat.zero_le _, rfl, by rw [List.take_zero, List.append_nil]; exact HOWN1.out⟩
        case round =>
          obtain ⟨k, hk, rfl, hown⟩ := hrel
          have HOWN2 := Lib.hid hown
          clear hown
          by_cases hkl : k ≤ x.length
          · have HW := Lib.hid (wts_at x k hkl)
            go_wp2_with fail
            refine (weight_any ⟨x.toArray⟩ k _ (by show x.length ≤ _; unfold maxLen; omega) (by unfold maxLen; omega)).mono ?_
            rintro e w' ⟨rfl, rfl⟩
            simp only [arr_list, HW.out]
            obtain ⟨hi, hz0, hz1, hz2⟩ := I0.out
            have HTK := Lib.hid (wts_take x k hkl)
            generalize (V.wts x).getD k 0 = c at *
            have hacc : acc.length + k + 1 ≤ 140737488355328 := by omega
            go_wp2_with (at_builtin; refine Lib.wpList_append_byte rfl (.tmp 23) (.tmp 27) 116 rfl w.heap.size 5 i0 Tryz.underlying116 hi hz0 hz1 hz2 _ (acc.length + k) (byteVals (acc ++ (V.wts x).take k)) rfl w _ (c.toNat : Int) HOWN2.out rfl hacc ?_; intro v' w' hown'; have HO3 := Lib.hid hown'; clear hown')
            go_roundw
            case rel => exact ⟨k + 1, by omega, by go_num, by rw [HTK.out, ← List.append_assoc, ← byteVals_snoc]; exact HO3.out⟩
            case measure => simp [intOf]; omega
          · obtain rfl : k = x.length + 1 := by omega
            have HT : Hid ((V.wts x).take (x.length + 1) = V.wts x) := Lib.hid (List.take_of_length_le (by rw [HWL.out]; omega))
            rw [HT.out] at HOWN2
            clear hkl hk
            go_wp2_with fail
            refine (take_any ⟨a1.toArray⟩ true _ (by show a1.length ≤ _; unfold maxLen; omega)).mono ?_
            rintro e w2 ⟨rfl, hb2⟩
            simp only [arr_list, HPA.out]
            have HOWN3 := Lib.hid (own_below HOWN2.out hb2)
            clear hb2
            go_wp2_with fail
            refine (numberKey_at p _ (by omega)).mono ?_
            rintro e w3 ⟨rfl, hb3⟩
            have HOWN4 := Lib.hid (own_below HOWN3.out hb3)
            clear hb3
            obtain ⟨hi, hz0, hz1, hz2⟩ := I0.out
            have hacc : acc.length + (x.length + 1) + (V.nk p).length ≤ 140737488355328 := by omega
            have hsz : (ByteArray.mk (V.nk p).toArray).size = (V.nk p).length := by simp [ByteArray.size]
            have HSZ := Lib.hid hsz
            clear hsz
            go_wp2_with (at_builtin; refine Lib.wpList_append_text rfl (.tmp 34) (.tmp 36) 116 9 rfl w.heap.size 5 i0 Tryz.underlying116 Tryz.underlying9 hi hz0 hz1 hz2 _ (acc.length + (x.length + 1)) (byteVals (acc ++ V.wts x)) rfl w HOWN4.out ⟨(V.nk p).toArray⟩ rfl (by rw [HSZ.out]; exact hacc) ?_; intro v' w' hown'; have HO5 := Lib.hid hown'; clear hown')
            go_roundw
            case rel =>
              refine ⟨⟨a2.toArray⟩, acc ++ V.wts x ++ V.nk p, false, rfl, rfl, ha2, ?_, ?_, (fun h => absurd h (by decide)), (fun _ => ⟨?_, ?_⟩)⟩
              · rw [List.length_append, List.length_append, HWL.out]; exact hbud
              · have h5 := HO5.out
                rw [byteVals_app, HSZ.out] at h5
                rw [List.length_append, List.length_append, HWL.out]; exact h5
              · simp only [arr_list]; exact HKEY.out
              · rw [List.length_append, List.length_append, HWL.out]; omega
            case measure => exact HMEAS.out
end Go.Proofs.YtabeblbhbekjaaaGreatDoor
