/-
  Walks: semantic versions valid; lists compared.
-/
import Derived.Test.YtabeblbhbekjaaaGreatDoorS2
import Derived.Test.YtabeblbhbekjaaaGreatDoorP3
namespace Go.Proofs.YtabeblbhbekjaaaGreatDoor
open Go.RowKit

theorem semPost_none {r : Option (List V.Bs × List V.Bs)} {w : World} {e : Ending} {w' : World} (h : SemPost r w e w') (hr : r = none) :
    e = .returned (.tuple #[.agg #[.string ⟨#[]⟩, .string ⟨#[]⟩, .string ⟨#[]⟩, .slice none 0 0], .bool false]) ∧ Below w.heap.size w w' := by
  subst hr; exact ⟨h.2, h.1⟩
theorem semPost_some {r : Option (List V.Bs × List V.Bs)} {l pre : List V.Bs} {w : World} {e : Ending} {w' : World} (h : SemPost r w e w') (hr : r = some (l, pre)) :
    ∃ pv, e = .returned (.tuple #[.agg #[.string ⟨(l.getD 0 []).toArray⟩, .string ⟨(l.getD 1 []).toArray⟩, .string ⟨(l.getD 2 []).toArray⟩, pv], .bool true]) ∧ Strs w' pv pre ∧ Below w.heap.size w w' := by
  subst hr; obtain ⟨h1, pv, h2, h3⟩ := h; exact ⟨pv, h3, h2, h1⟩

set_option maxRecDepth 100000 in
set_option maxHeartbeats 800000 in
theorem semValid_any (s : ByteArray) (w : World) (hm : MaxOk w) (hs : s.size ≤ 1000) :
    Calls Tryz.prog 93 #[.agg #[], .string s] w fun e w' => e = .returned (.bool (V.semParse s.data.toList).isSome) ∧ Below w.heap.size w w' := by
  have hb0 : Below w.heap.size w (w.alloc (.cells #[] 63)) := (Below.refl _ w).alloc (Nat.le_refl _) _
  have hm0 := hm.below hb0
  rcases hp : V.semParse s.data.toList with _ | ⟨l, pre⟩
  · have HP := Lib.hid hp
    have HB0 := Lib.hid hb0
    clear hp hb0
    go_enter Tryz.func93, Tryz.ntmps93
    go_wp2_with fail
    refine (semParse_any s _ hm0 hs).mono ?_
    rintro e w1 h
    obtain ⟨rfl, hb1⟩ := semPost_none h HP.out
    have HB1 := Lib.hid (HB0.out.trans (hb1.mono HB0.out.size))
    clear h hb1
    go_wp2
    go_ret
    refine ⟨ret_bool rfl, ?_⟩
    exact (HB1.out.alloc HB1.out.size _)
  · have HP := Lib.hid hp
    have HB0 := Lib.hid hb0
    clear hp hb0
    go_enter Tryz.func93, Tryz.ntmps93
    go_wp2_with fail
    refine (semParse_any s _ hm0 hs).mono ?_
    rintro e w1 h
    obtain ⟨pv, rfl, hpv, hb1⟩ := semPost_some h HP.out
    obtain ⟨a, cap, rfl, hc⟩ := hpv
    have HB1 := Lib.hid (HB0.out.trans (hb1.mono HB0.out.size))
    clear h hb1 hc
    go_wp2
    go_ret
    refine ⟨ret_bool rfl, ?_⟩
    exact (HB1.out.alloc HB1.out.size _)

theorem listCmp_skip {f : V.Bs → V.Bs → Int} : ∀ (k : Nat) (l1 l2 : List V.Bs), k ≤ l1.length → k ≤ l2.length → (∀ j, j < k → f (l1.getD j []) (l2.getD j []) = 0) → V.listCmp f l1 l2 = V.listCmp f (l1.drop k) (l2.drop k)
  | 0, _, _, _, _, _ => rfl
  | k + 1, [], _, h, _, _ => by simp at h
  | k + 1, _ :: _, [], _, h, _ => by simp at h
  | k + 1, a :: l1, b :: l2, h1, h2, h => by
    have h0 : f a b = 0 := h 0 (by omega)
    rw [V.listCmp, h0]
    exact listCmp_skip k l1 l2 (by simpa using h1) (by simpa using h2) (fun j hj => h (j + 1) (by omega))

theorem listCmp_hit {f : V.Bs → V.Bs → Int} (k : Nat) (l1 l2 : List V.Bs) (h1 : k < l1.length) (h2 : k < l2.length) (h : ∀ j, j < k → f (l1.getD j []) (l2.getD j []) = 0) (h0 : f (l1.getD k []) (l2.getD k []) ≠ 0) :
    V.listCmp f l1 l2 = f (l1.getD k []) (l2.getD k []) := by
  rw [listCmp_skip k l1 l2 (by omega) (by omega) h, List.drop_eq_getElem_cons h1, List.drop_eq_getElem_cons h2]
  have e1 : l1.getD k [] = l1[k] := by simp [List.getD, List.getElem?_eq_getElem h1]
  have e2 : l2.getD k [] = l2[k] := by simp [List.getD, List.getElem?_eq_getElem h2]
  rw [e1, e2] at h0 ⊢
  rw [V.listCmp, V.cor_ne h0]

theorem listCmp_left {f : V.Bs → V.Bs → Int} (k : Nat) (l1 l2 : List V.Bs) (h1 : k < l1.length) (h2 : l2.length = k) (h : ∀ j, j < k → f (l1.getD j []) (l2.getD j []) = 0) : V.listCmp f l1 l2 = 1 := by
  rw [listCmp_skip k l1 l2 (by omega) (by omega) h, List.drop_eq_getElem_cons h1, List.drop_of_length_le (l := l2) (by omega)]; rfl

theorem listCmp_right {f : V.Bs → V.Bs → Int} (k : Nat) (l1 l2 : List V.Bs) (h1 : l1.length = k) (h2 : k ≤ l2.length) (h : ∀ j, j < k → f (l1.getD j []) (l2.getD j []) = 0) : V.listCmp f l1 l2 = if k < l2.length then -1 else 0 := by
  rw [listCmp_skip k l1 l2 (by omega) (by omega) h, List.drop_of_length_le (by omega)]
  by_cases hlt : k < l2.length
  · rw [List.drop_eq_getElem_cons hlt, if_pos hlt]; rfl
  · rw [List.drop_of_length_le (by omega), if_neg hlt]; rfl

theorem getD_of {l : List V.Bs} {k : Nat} (h : k < l.length) : l.getD k [] = l[k] := by simp [List.getD, List.getElem?_eq_getElem h]

set_option maxRecDepth 100000 in
set_option maxHeartbeats 1600000 in
theorem compareFunc_any (v1 v2 : Value) (l1 l2 : List V.Bs) (K : Nat) (cap : Array Value) (f : V.Bs → V.Bs → Int) (w : World) (h1 : Strs w v1 l1) (h2 : Strs w v2 l2)
    (n1 : l1.length ≤ 2000) (n2 : l2.length ≤ 2000) (m1 : ∀ x ∈ l1, x.length ≤ 1000) (m2 : ∀ x ∈ l2, x.length ≤ 1000)
    (eg : ∀ args w, (callFunc K args).run Tryz.prog w = .ok (.enter K args) w)
    (hK : ∀ (a b : V.Bs) W, a.length ≤ 1000 → b.length ≤ 1000 → Calls Tryz.prog K (#[.string ⟨a.toArray⟩, .string ⟨b.toArray⟩] ++ cap) W fun e w' => e = .returned (.int .i64 (f a b)) ∧ Below W.heap.size W w') :
    Calls Tryz.prog 98 #[v1, v2, .func (.func K) #[] cap] w fun e w' => e = .returned (.int .i64 (V.listCmp f l1 l2)) ∧ Below w.heap.size w w' := by
  obtain ⟨a1, c1, rfl, hc1⟩ := h1
  obtain ⟨a2, c2, rfl, hc2⟩ := h2
  have HK := Lib.hid hK
  have HC1 := Lib.hid hc1
  have HC2 := Lib.hid hc2
  have M1 := Lib.hid m1
  have M2 := Lib.hid m2
  clear hK hc1 hc2 m1 m2
  go_enter Tryz.func98, Tryz.ntmps98
  go_wp2
  go_loopw [13] (fun i wr => ∃ k : Nat, k ≤ l1.length ∧ k ≤ l2.length ∧ i = .int .i64 k ∧ (∀ j, j < k → f (l1.getD j []) (l2.getD j []) = 0) ∧ Below w.heap.size w wr) (fun i _ => l1.length - (intOf i).toNat)
  case atStart => exact ⟨0, Nat.zero_le _, Nat.zero_le _, rfl, fun j hj => by omega, Below.refl _ _⟩
  case round =>
    obtain ⟨k, hk1, hk2, rfl, hz, hB⟩ := hrel
    have HZ := Lib.hid hz
    have HB := Lib.hid hB
    clear hz hB
    by_cases hlt1 : k < l1.length
    · obtain ⟨b1, o1, ha1, hb1, hcell1⟩ := HC1.out k hlt1
      have hx1 := (HB.out.cell (p := ⟨b1, o1 + k, none⟩) hb1).trans hcell1
      rw [← getD_of hlt1] at hx1
      by_cases hlt2 : k < l2.length
      · obtain ⟨b2, o2, ha2, hb2, hcell2⟩ := HC2.out k hlt2
        have hx2 := (HB.out.cell (p := ⟨b2, o2 + k, none⟩) hb2).trans hcell2
        rw [← getD_of hlt2] at hx2
        have s1 := M1.out _ (List.getElem_mem hlt1)
        have s2 := M2.out _ (List.getElem_mem hlt2)
        rw [← getD_of hlt1] at s1
        rw [← getD_of hlt2] at s2
        have HIT := Lib.hid (listCmp_hit k l1 l2 hlt1 hlt2 HZ.out)
        have NEXT : Hid (f (l1.getD k []) (l2.getD k []) = 0 → ∀ j, j < k + 1 → f (l1.getD j []) (l2.getD j []) = 0) := Lib.hid (fun h0 j hj => by
          by_cases e : j = k
          · subst e; exact h0
          · exact HZ.out j (by omega))
        subst ha1
        subst ha2
        clear hcell1 hcell2
        generalize l1.getD k [] = x at *
        generalize l2.getD k [] = y at *
        go_wp2_with fail
        refine (HK.out x y _ s1 s2).mono ?_
        rintro e w1 ⟨rfl, hb⟩
        have HB1 := Lib.hid (HB.out.trans (hb.mono HB.out.size))
        clear hb
        by_cases h0 : f x y = 0
        · have HN := Lib.hid (NEXT.out h0)
          rw [h0]
          clear h0
          go_wp2
          go_roundw
          case rel => exact ⟨k + 1, by omega, by omega, by go_num, HN.out, HB1.out⟩
          case measure => simp [intOf]; omega
        · have HN := Lib.hid (HIT.out h0)
          have hb : (f x y != 0) = true := by simpa using h0
          generalize f x y = c at *
          clear h0
          go_wp2
          go_ret
          exact ⟨ret_int HN.out.symm, HB1.out⟩
      · have HN := Lib.hid (listCmp_left k l1 l2 hlt1 (by omega) HZ.out)
        subst ha1
        clear hcell1
        go_wp2
        go_ret
        exact ⟨ret_int HN.out.symm, HB.out⟩
    · have HN := Lib.hid (listCmp_right k l1 l2 (by omega) hk2 HZ.out)
      by_cases hlt2 : k < l2.length
      · rw [if_pos hlt2] at HN
        go_wp2
        go_ret
        exact ⟨ret_int HN.out.symm, HB.out⟩
      · rw [if_neg hlt2] at HN
        go_wp2
        go_ret
        exact ⟨ret_int HN.out.symm, HB.out⟩
end Go.Proofs.YtabeblbhbekjaaaGreatDoor
