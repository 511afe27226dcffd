/-
  Walks: Latest of the program and of the reference, with every answer.
  Walks: admissionref02.Same; the law VersionSorts.
  Walk: the law VersionSorts.
  Arguments read: slices of numbers and of strings.
  A slice of strings read, with its capacity; the law VersionSorts as its card takes it.
-/
import Derived.Test.YtabeblbhbekjaaaGreatDoorI4
import Derived.Test.YtabeblbhbekjaaaGreatDoorI14
import Derived.Test.YtabeblbhbekjaaaGreatDoorSC
import Derived.Test.YtabeblbhbekjaaaGreatDoorT2
import Derived.Test.YtabeblbhbekjaaaGreatDoorTN
import Derived.ProofKit
import Derived.SliceStrings
namespace Go.Proofs.YtabeblbhbekjaaaGreatDoor
open Go.RowKit

/-- what Latest hands out -/
def LatestX (n : Int) (L : List V.Bs) (w : World) (e : Ending) (w' : World) : Prop :=
  Below w.heap.size w w' ∧
  if V.scheme n = false then e = .returned (.tuple #[.string ⟨#[]⟩, .int .i64 14])
  else if L.all (V.valid n) = false then e = .returned (.tuple #[.string ⟨#[]⟩, .int .i64 1])
  else if L.length = 0 then e = .returned (.tuple #[.string ⟨#[]⟩, .int .i64 4])
  else e = .returned (.tuple #[.string ⟨(latestOf n L).toArray⟩, .int .i64 0])

set_option maxRecDepth 100000 in
set_option maxHeartbeats 1600000 in
theorem latestX_any (n : Int) (a : Option Addr) (cap : Nat) (L : List V.Bs) (w : World) (hm : MaxOk w) (hv : Strs w (.slice a L.length cap) L) (h30 : L.length < 40) (hl : L.length ≤ cap) (hcap : cap ≤ maxLen) (hx : ∀ x ∈ L, x.length ≤ maxLen) :
    Calls Tryz.prog 16 #[.int .i64 n, .slice a L.length cap] w (LatestX n L w) := by
  by_cases hgood : V.scheme n = true ∧ L.all (V.valid n) = true ∧ 0 < L.length
  · obtain ⟨hn, ha, h0⟩ := hgood
    have hv2 := hv
    obtain ⟨b, off, cap', e, _⟩ := hv.head h0
    have e2 : a = some ⟨b, off, none⟩ := by injection e
    subst e2
    refine (latest_any n b off cap L w hm hn hv2 h0 hl hcap (List.all_eq_true.1 ha)).mono ?_
    rintro e w' ⟨rfl, hb⟩
    refine ⟨hb, ?_⟩
    rw [if_neg (by rw [hn]; decide), if_neg (by rw [ha]; decide), if_neg (by omega)]
  · have HG := Lib.hid hgood
    have HCK := Lib.hid (check_any n _ L w hm hv (by unfold maxLen; omega) hx)
    clear hgood hm hv hx
    go_enter Tryz.func16, Tryz.ntmps16
    go_wp2_with fail
    refine HCK.out.mono ?_
    rintro e w1 ⟨hb1, hpost⟩
    have HB1 := Lib.hid hb1
    clear hb1
    by_cases hs : V.scheme n = false
    · rw [if_pos hs] at hpost
      subst hpost
      have HS := Lib.hid hs
      clear hs
      go_wp2
      go_ret2
      exact ⟨HB1.out, by rw [if_pos HS.out]; rfl⟩
    by_cases ha : L.all (V.valid n) = false
    · rw [if_neg hs, if_pos ha] at hpost
      subst hpost
      have HS := Lib.hid hs
      have HA := Lib.hid ha
      clear hs ha
      go_wp2
      go_ret2
      exact ⟨HB1.out, by rw [if_neg HS.out, if_pos HA.out]; rfl⟩
    rw [if_neg hs, if_neg ha] at hpost
    obtain ⟨T, hT, rfl⟩ := hpost
    have h0 : L.length = 0 := by
      rcases Nat.eq_zero_or_pos L.length with h | h
      · exact h
      · exact absurd ⟨by cases h : V.scheme n <;> simp_all, by cases h : L.all (V.valid n) <;> simp_all, h⟩ HG.out
    have HS := Lib.hid hs
    have HA := Lib.hid ha
    have H0 := Lib.hid h0
    clear hT hs ha
    rw [h0]
    clear h0
    unfold cmpVal
    go_wp2
    go_ret2
    exact ⟨HB1.out, by rw [if_neg HS.out, if_neg HA.out, if_pos H0.out]; rfl⟩

/-- the order of two, turned round -/
theorem cmp_turn {n : Int} {x y : V.Bs} (hn : V.scheme n = true) (hx : V.valid n x = true) (hy : V.valid n y = true) : (0 < V.cmpV n x y) ↔ V.cmpV n y x < 0 := by
  have := (V.total_law hn hx hy hy).1
  omega

set_option maxRecDepth 100000 in
set_option maxHeartbeats 3200000 in
theorem rLatest_any (n : Int) (v : Value) (L : List V.Bs) (w : World) (hm : MaxOk w) (hv : Strs w v L) (h30 : L.length < 40) (hx : ∀ x ∈ L, x.length ≤ maxLen) :
    Calls Tryz.prog 17 #[.int .i64 n, v] w (LatestX n L w) := by
  have HSO := Lib.hid (rSort_any n v L w hm hv h30 hx)
  have HM := Lib.hid hm
  have HV := Lib.hid hv
  clear hm hx
  obtain ⟨a0, cap0, rfl, _⟩ := hv
  go_enter Tryz.func17, Tryz.ntmps17
  go_wp2_with fail
  refine HSO.out.mono ?_
  rintro e w1 ⟨hb1, hpost⟩
  have HB1 := Lib.hid hb1
  clear hb1
  by_cases hs : V.scheme n = false
  · rw [if_pos hs] at hpost
    subst hpost
    have HS := Lib.hid hs
    clear hs
    go_wp2
    go_ret2
    exact ⟨HB1.out, by rw [if_pos HS.out]; rfl⟩
  by_cases ha : L.all (V.valid n) = false
  · rw [if_neg hs, if_pos ha] at hpost
    subst hpost
    have HS := Lib.hid hs
    have HA := Lib.hid ha
    clear hs ha
    go_wp2
    go_ret2
    exact ⟨HB1.out, by rw [if_neg HS.out, if_pos HA.out]; rfl⟩
  rw [if_neg hs, if_neg ha] at hpost
  obtain ⟨v2, rfl, _⟩ := hpost
  have HS := Lib.hid hs
  have HA := Lib.hid ha
  have hn : V.scheme n = true := by cases h : V.scheme n <;> simp_all
  have hval : ∀ x ∈ L, V.valid n x = true := by
    have : L.all (V.valid n) = true := by cases h : L.all (V.valid n) <;> simp_all
    rwa [List.all_eq_true] at this
  have HN := Lib.hid hn
  have HVAL := Lib.hid hval
  clear hs ha hn hval
  by_cases h0 : L.length = 0
  · have H0 := Lib.hid h0
    rw [h0]
    clear h0
    go_wp2
    go_ret2
    exact ⟨HB1.out, by rw [if_neg HS.out, if_neg HA.out, if_pos H0.out]; rfl⟩
  have h0' : 0 < L.length := by omega
  obtain ⟨b, off, cap, e, hb, hcells⟩ := HV.out.head h0'
  injection e with e1 e2 e3
  subst e1
  subst e3
  have HC := Lib.hid hcells
  have hbo : ((L.length : Int) == 0) = false := by rw [beq_eq_false_iff_ne]; omega
  have hpos : (0 : Int) < (L.length : Int) := by omega
  have hc0 := keep_cell HB1.out (HC.out 0 h0')
  rw [Nat.add_zero] at hc0
  have HX := Lib.hid (show latestOf n L = bestOf n (L.getD 0 []) (L.drop 1) from rfl)
  have hvx := HVAL.out (L.getD 0 []) (by rw [getD_of h0']; exact List.getElem_mem _)
  have HVX := Lib.hid hvx
  clear hcells e2 hvx HV HSO
  generalize hxg : L.getD 0 [] = x at *
  have HX0 := Lib.hid hxg
  clear hxg
  go_wp2
  go_loopw [8, 9] (fun v i wr => ∃ k : Nat, 1 ≤ k ∧ k ≤ L.length ∧ i = .int .i64 k ∧ v = .string ⟨(bestOf n x ((L.drop 1).take (k - 1))).toArray⟩ ∧ Below w1.heap.size w1 wr) (fun _ i _ => L.length - (intOf i).toNat)
  case atStart => exact ⟨1, Nat.le_refl _, h0', rfl, rfl, Below.refl _ _⟩
  case round =>
    obtain ⟨k, hk1, hk, rfl, rfl, hB⟩ := hrel
    have HB := Lib.hid hB
    have HBW := Lib.hid (HB1.out.trans (hB.mono HB1.out.size))
    clear hB
    by_cases hlt : k < L.length
    · have hc := keep_cell HBW.out (HC.out k hlt)
      have hdl : k - 1 < (L.drop 1).length := by rw [List.length_drop]; omega
      have hge : (L.drop 1).getD (k - 1) [] = L.getD k [] := by
        rw [List.getD_eq_getElem?_getD, List.getElem?_drop, show 1 + (k - 1) = k by omega, ← List.getD_eq_getElem?_getD]
      have HSN : Hid (bestOf n x ((L.drop 1).take (k + 1 - 1)) = if V.cmpV n (bestOf n x ((L.drop 1).take (k - 1))) (L.getD k []) < 0 then L.getD k [] else bestOf n x ((L.drop 1).take (k - 1))) := Lib.hid (by
        rw [show k + 1 - 1 = k - 1 + 1 by omega, List.take_succ_eq_append_getElem hdl, bestOf_snoc, ← hge, getD_of hdl])
      have HVY : Hid (V.valid n (L.getD k []) = true) := Lib.hid (HVAL.out _ (by rw [getD_of hlt]; exact List.getElem_mem _))
      have HVB : Hid (V.valid n (bestOf n x ((L.drop 1).take (k - 1))) = true) := Lib.hid (bestOf_valid HVX.out (fun y hy => HVAL.out y ((List.drop_sublist 1 L).subset ((List.take_sublist _ _).subset hy))))
      have hi1 : (0 : Int) ≤ (k : Int) := by omega
      have hi2 : (k : Int) < (L.length : Int) := by omega
      clear hdl hge
      generalize L.getD k [] = y at *
      generalize bestOf n x ((L.drop 1).take (k - 1)) = z at *
      have HTURN := Lib.hid (cmp_turn HN.out HVY.out HVB.out)
      obtain ⟨c, hcc⟩ : ∃ c, V.cmpV n y z = c := ⟨_, rfl⟩
      have HCC := Lib.hid hcc
      clear hcc
      go_wp2_with fail
      refine (rOrder_any n ⟨y.toArray⟩ ⟨z.toArray⟩ _ (HM.out.below HBW.out) HN.out HVY.out HVB.out).mono ?_
      rintro e w3 ⟨rfl, hb3⟩
      simp only [arr_list]
      have hc3 := keep_cell hb3 hc
      have HB3 := Lib.hid (HB.out.trans (hb3.mono HB.out.size))
      rw [HCC.out]
      clear hb3
      by_cases hcn : 0 < c
      · have HR := Lib.hid (HSN.out.trans (if_pos (HTURN.out.1 (by rw [HCC.out]; exact hcn))))
        go_wp2
        go_roundw
        case rel => exact ⟨k + 1, by omega, by omega, by go_num, by rw [HR.out], HB3.out⟩
        case measure => simp [intOf]; omega
      · have HR := Lib.hid (HSN.out.trans (if_neg (fun h => hcn (by have := HTURN.out.2 h; rwa [HCC.out] at this))))
        go_wp2
        go_roundw
        case rel => exact ⟨k + 1, by omega, by omega, by go_num, by rw [HR.out], HB3.out⟩
        case measure => simp [intOf]; omega
    · have hkl : k = L.length := by omega
      have HR : Hid (latestOf n L = bestOf n x ((L.drop 1).take (k - 1))) := Lib.hid (by rw [HX.out, List.take_of_length_le (by rw [List.length_drop]; omega)])
      go_wp2
      go_ret2
      exact ⟨HBW.out, by rw [if_neg HS.out, if_neg HA.out, if_neg (by omega), HR.out]; rfl⟩
end Go.Proofs.YtabeblbhbekjaaaGreatDoor
namespace Go.Proofs.YtabeblbhbekjaaaGreatDoor
open Go.RowKit

set_option maxRecDepth 100000 in
set_option maxHeartbeats 1600000 in
theorem same_any (va vb : Value) (A : List V.Bs) (w : World) (ha : Strs w va A) (hb : Strs w vb A) (hl : A.length ≤ 1000000) :
    Calls Tryz.prog 18 #[va, vb] w fun e w' => e = .returned (.bool true) ∧ Below w.heap.size w w' := by
  have HA := Lib.hid ha
  have HB := Lib.hid hb
  obtain ⟨a1, cap1, rfl, _⟩ := ha
  obtain ⟨a2, cap2, rfl, _⟩ := hb
  go_enter Tryz.func18, Tryz.ntmps18
  go_wp2
  go_loopw [5] (fun i wr => ∃ k : Nat, k ≤ A.length ∧ i = .int .i64 k ∧ Below w.heap.size w wr) (fun i _ => A.length - (intOf i).toNat)
  case atStart => exact ⟨0, Nat.zero_le _, rfl, Below.refl _ _⟩
  case round =>
    obtain ⟨k, hk, rfl, hbl⟩ := hrel
    have HBL := Lib.hid hbl
    clear hbl
    by_cases hlt : k < A.length
    · obtain ⟨b1, o1, e1, l1, c1⟩ := HA.out.at k hlt
      obtain ⟨b2, o2, e2, l2, c2⟩ := HB.out.at k hlt
      cases e1
      cases e2
      have d1 := keep_cell HBL.out c1
      have d2 := keep_cell HBL.out c2
      have hi1 : (0 : Int) ≤ (k : Int) := by omega
      have hi2 : (k : Int) < (A.length : Int) := by omega
      clear c1 c2
      go_wp2
      go_region
      all_goals
        have HBD := Lib.hid HBL.out.drew
        go_wp2
        go_roundw
        case rel => exact ⟨k + 1, by omega, by go_num, HBD.out⟩
        case measure => simp [intOf]; omega
    · go_wp2
      go_ret
      exact ⟨ret_bool rfl, HBL.out⟩

def codeS (n : Int) (L : List V.Bs) : Int := if V.scheme n = false then 14 else if L.all (V.valid n) = false then 1 else 0
def outS (n : Int) (L : List V.Bs) : List V.Bs := if V.scheme n = false then [] else if L.all (V.valid n) = false then [] else sortL n L
def codeT (n : Int) (L : List V.Bs) : Int := if V.scheme n = false then 14 else if L.all (V.valid n) = false then 1 else if L.length = 0 then 4 else 0
def outT (n : Int) (L : List V.Bs) : V.Bs := if V.scheme n = false then [] else if L.all (V.valid n) = false then [] else if L.length = 0 then [] else latestOf n L

theorem SortX.uni {n : Int} {L : List V.Bs} {w : World} {e : Ending} {w' : World} (h : SortX n L w e w') : (∃ v, e = .returned (.tuple #[v, .int .i64 (codeS n L)]) ∧ Strs w' v (outS n L)) ∧ Below w.heap.size w w' := by
  refine ⟨?_, h.1⟩
  have h2 := h.2
  unfold codeS outS
  split at h2
  · rename_i g; rw [if_pos g, if_pos g]; exact ⟨_, h2, Strs.nil _⟩
  · rename_i g
    rw [if_neg g, if_neg g]
    split at h2
    · rename_i g2; rw [if_pos g2, if_pos g2]; exact ⟨_, h2, Strs.nil _⟩
    · rename_i g2; rw [if_neg g2, if_neg g2]; exact h2

theorem LatestX.uni {n : Int} {L : List V.Bs} {w : World} {e : Ending} {w' : World} (h : LatestX n L w e w') : e = .returned (.tuple #[.string ⟨(outT n L).toArray⟩, .int .i64 (codeT n L)]) ∧ Below w.heap.size w w' := by
  refine ⟨?_, h.1⟩
  have h2 := h.2
  unfold codeT outT
  split at h2
  · rename_i g; rw [if_pos g, if_pos g]; exact h2
  · rename_i g
    rw [if_neg g, if_neg g]
    split at h2
    · rename_i g2; rw [if_pos g2, if_pos g2]; exact h2
    · rename_i g2
      rw [if_neg g2, if_neg g2]
      split at h2
      · rename_i g3; rw [if_pos g3, if_pos g3]; exact h2
      · rename_i g3; rw [if_neg g3, if_neg g3]; exact h2

theorem outS_len {n : Int} {L : List V.Bs} (h : L.length < 40) : (outS n L).length ≤ 1000000 := by
  unfold outS
  split
  · simp
  · split
    · simp
    · rw [sortL_len]; omega

/-- a list as the two functions take it -/
def Good (w : World) (v : Value) : Prop := ∃ a cap M, v = .slice a M.length cap ∧ Strs w (.slice a M.length cap) M ∧ M.length < 40 ∧ M.length ≤ cap ∧ cap ≤ maxLen ∧ ∀ x ∈ M, x.length ≤ maxLen

theorem Good.below {w w' : World} {v : Value} (h : Good w v) (hb : Below w.heap.size w w') : Good w' v := by
  obtain ⟨a, cap, M, e, h1, h2⟩ := h
  exact ⟨a, cap, M, e, h1.below hb, h2⟩

theorem ownsRow_good {w : World} {base e : Nat} {v : Value} {L : List V.Bs} (h : w.ownsRow base e 1 v L.length (sVals L)) (h40 : L.length < 40) (hx : ∀ x ∈ L, x.length ≤ maxLen) : Good w v := by
  have hs := ownsRow_strs h
  rcases h.2 with ⟨e1, e2⟩ | ⟨g, cap, cur, rfl, _, _, h1, h2, _⟩
  · subst e1
    have := List.eq_nil_of_length_eq_zero e2
    subst this
    exact ⟨none, 0, [], rfl, hs, h40, Nat.le_refl _, Nat.zero_le _, hx⟩
  · exact ⟨_, cap, L, rfl, hs, h40, h1, h2, hx⟩
end Go.Proofs.YtabeblbhbekjaaaGreatDoor
namespace Go.Proofs.YtabeblbhbekjaaaGreatDoor
open Go.RowKit

theorem below_tape' {B b : Nat} {w w1 w2 : World} (h : Below B w w1) (hg : w1.grownBy w2 (some b)) (hb : B ≤ b) (hB : B ≤ w1.heap.size) : Below B w w2 := h.trans (grown_below hg hb hB)

theorem two_cases {k : Nat} (h : k < 2) : k = 0 ∨ k = 1 := by omega

set_option maxRecDepth 100000 in
set_option maxHeartbeats 6400000 in
theorem versionSortsX_any (n : Int) (la : Option Addr) (lc : Nat) (L0 : List V.Bs) (a : Option Addr) (m cap : Nat) (w : World) (hmx : MaxOk w) (hn : (Lit.int .i64 n).wf = true) (ht : Nums w a m)
    (hs0 : Strs w (.slice la L0.length lc) L0) (hlc : L0.length ≤ lc) (hcm : lc ≤ maxLen) (hx0 : ∀ x ∈ L0, x.length ≤ maxLen) :
    Calls Tryz.prog 5 #[.int .i64 n, .slice la L0.length lc, .slice a m cap] w fun e w' => e = .returned (.bool true) ∧ Below w.heap.size w w' := by
  by_cases h30 : 30 < L0.length
  · have h30i : (30 : Int) < (L0.length : Int) := by omega
    clear hmx hn ht hs0 hlc hcm hx0
    go_enter Tryz.func5, Tryz.ntmps5
    go_wp2
    go_ret
    exact ⟨ret_bool rfl, Below.refl _ _⟩
  have h30i : ¬ (30 : Int) < (L0.length : Int) := by omega
  have HM := Lib.hid hmx
  have HN := Lib.hid hn
  have HT := Lib.hid ht
  have HGD0 : Hid (Good w (.slice la L0.length lc)) := Lib.hid ⟨la, lc, L0, rfl, hs0, by omega, hlc, hcm, hx0⟩
  obtain ⟨i0, hi, hz0, hz1, hz2⟩ := info_parts info_str
  have I0 := Lib.hid (And.intro hi (And.intro hz0 (And.intro hz1 hz2)))
  clear hmx hn ht hi hz0 hz1 hz2 hs0 hlc hcm hx0
  have hb0 : Below w.heap.size w (w.alloc (.cells #[.slice a m cap, .int .i64 0] 38)) := (Below.refl _ w).alloc (Nat.le_refl _) _
  have HTP : Hid (Tape (w.alloc (.cells #[.slice a m cap, .int .i64 0] 38)) w.heap.size 0) := Lib.hid (Tape.made HT.out hb0 (Nat.le_refl _) (by rw [World.cell?_alloc_new]; rfl) (by rw [World.cell?_alloc_new]; rfl) (by rw [frozen_alloc, if_pos rfl]))
  have HB0 := Lib.hid hb0
  have hz0 : w.heap.size < (w.alloc (.cells #[.slice a m cap, .int .i64 0] 38)).heap.size := by simp
  clear hb0
  go_enter Tryz.func5, Tryz.ntmps5
  go_wp2_with fail
  generalize w.alloc (.cells #[.slice a m cap, .int .i64 0] 38) = W0 at *
  refine (scheme_any n _ HN.out).mono ?_
  rintro e w' ⟨rfl, rfl⟩
  have hs := schemeOf_ok n
  generalize schemeOf n = s at *
  have HS := Lib.hid hs
  clear hs
  go_wp2_with fail
  refine (next_any w.heap.size 0 8 _ HTP.out (by omega) (by omega) (by omega)).mono ?_
  rintro e w1 ⟨r, hr, rfl, ht1, hg1⟩
  have HT1 := Lib.hid ht1
  have HB1 := Lib.hid (below_tape' HB0.out hg1 (Nat.le_refl _) (by omega))
  have hz1 : w.heap.size < w1.heap.size := Nat.lt_of_lt_of_le hz0 hg1.size
  clear ht1 hg1 hz0
  have hr8 : r < 8 := by omega
  clear hr
  go_wp2
  go_loopw [9, 10] (fun v i wr => ∃ (k : Nat) (L : List V.Bs), k + L.length = r ∧ i = .int .i64 k ∧ wr.ownsRow (w.heap.size + 1) 9 1 v L.length (sVals L) ∧ Tape wr w.heap.size (1 + L.length) ∧ Below w.heap.size w wr ∧ w.heap.size < wr.heap.size ∧ ∀ x ∈ L, V.valid s x = true) (fun _ i _ => (intOf i).toNat)
  case atStart => exact ⟨r, [], by simp, rfl, World.ownsRow_nil _ _ _ _, HT1.out, HB1.out, hz1, fun x hx => by simp at hx⟩
  case round =>
    obtain ⟨k, L, hkl, rfl, hown, htp, hbl, hsz, hval⟩ := hrel
    have HOWN := Lib.hid hown
    have HTP := Lib.hid htp
    have HBL := Lib.hid hbl
    have HVAL := Lib.hid hval
    clear hown htp hbl hval
    by_cases hk0 : 0 < k
    · go_wp2_with fail
      refine (version_any w.heap.size (1 + L.length) s _ HTP.out (by omega) HS.out).mono ?_
      rintro e w2 ⟨x, hx, rfl, ht2, hg2⟩
      have HX := Lib.hid hx
      have HT2 := Lib.hid ht2
      have HB2 := Lib.hid (below_tape' HBL.out hg2 (Nat.le_refl _) (by omega))
      have hsz2 : w.heap.size < w2.heap.size := Nat.lt_of_lt_of_le hsz hg2.size
      have HOWN2 := Lib.hid (HOWN.out.kept hg2 (by
        rcases hv : u9.ownBlock with _ | g
        · exact .inl rfl
        · right
          have := HOWN.out.lt g hv
          intro e; cases e; omega))
      clear hx ht2 hg2
      obtain ⟨hi, hz0, hz1, hz2⟩ := I0.out
      go_wp2_with (at_builtin; refine wpList_append_own _ rfl (.tmp 37) (.tmp 41) 22 rfl (w.heap.size + 1) 9 i0 (.string ⟨#[]⟩) 1 16 Tryz.underlying22 hi hz0 hz1 hz2 rfl (by decide) _ L.length (sVals L) rfl (HOWN2.out.alloc _) ⟨w2.heap.size, 0, none⟩ 1 1 [.string ⟨x.toArray⟩] rfl rfl ?c1 ?c2 ?c3 ?c4 ?c5 ?_)
      case c1 =>
        intro j u hj
        match j, hj with
        | 0, hj => simp at hj; subst hj; simp [Addr.add]
        | (j + 1), hj => simp at hj
      case c2 => intro u hu; simp at hu; subst hu; rfl
      case c3 => unfold maxLen; omega
      case c4 => omega
      case c5 => simp; omega
      intro v' w3 hown3 hg3 _
      have HOWN3 : Hid (w3.ownsRow (w.heap.size + 1) 9 1 v' (L ++ [x]).length (sVals (L ++ [x]))) := Lib.hid (by
        rw [List.length_append]
        have e : sVals (L ++ [x]) = sVals L ++ [.string ⟨x.toArray⟩] := by simp [sVals]
        rw [e]; exact hown3)
      have hrow : ∀ g, u9.ownBlock = some g → w.heap.size < g := fun g hg => by have := HOWN2.out.lt g hg; omega
      have hb3 : Below w2.heap.size w2 (w2.alloc (.cells #[.string ⟨x.toArray⟩] 9)) := (Below.refl _ _).alloc (Nat.le_refl _) _
      have HT3 := Lib.hid ((HT2.out.below hb3).grown hg3 (fun e => by have := hrow _ e; omega) hrow)
      have HB3 := Lib.hid ((HB2.out.trans (hb3.mono HB2.out.size)).grown hg3 (by simp; omega) (fun k hk => by have := hrow k hk; omega))
      have hsz3 : w.heap.size < w3.heap.size := by have := hg3.size; simp at this; omega
      clear hown3 hg3 hrow hb3 HOWN HOWN2
      go_wp2
      go_roundw
      case rel => exact ⟨k - 1, L ++ [x], by rw [List.length_append, List.length_singleton]; omega, by go_num, HOWN3.out, by rw [List.length_append, List.length_singleton]; exact HT3.out, HB3.out, hsz3, fun y hy => by
          rcases List.mem_append.1 hy with h | h
          · exact HVAL.out y h
          · rw [List.mem_singleton] at h; subst h; exact HX.out⟩
      case measure => simp [intOf]; omega
    · have hk00 : k = 0 := by omega
      subst hk00
      have HGD1 : Hid (Good wr u9) := Lib.hid (ownsRow_good HOWN.out (by omega) (fun x hx => by have := V.valid_short (HVAL.out x hx); unfold maxLen; omega))
      have HGW0 := Lib.hid (HGD0.out.below HBL.out)
      clear HOWN HTP HVAL HGD0 HB1 HT1 HB0 hkl hk0 I0
      obtain ⟨ma, mc, M1, eu, _⟩ := HGD1.out
      subst eu
      go_wp2
      have HBA : Hid (Below w.heap.size w (wr.alloc (.cells #[.slice la L0.length lc, (.slice ma M1.length mc)] 22))) := Lib.hid (HBL.out.alloc HBL.out.size _)
      have HCELL : Hid (∀ k, k < 2 → ∃ v, (wr.alloc (.cells #[.slice la L0.length lc, (.slice ma M1.length mc)] 22)).cell? ⟨wr.heap.size, k, none⟩ = some v ∧ Good (wr.alloc (.cells #[.slice la L0.length lc, (.slice ma M1.length mc)] 22)) v) := Lib.hid (fun k hk => by
        have hb : Below wr.heap.size wr (wr.alloc (.cells #[.slice la L0.length lc, (.slice ma M1.length mc)] 22)) := (Below.refl _ _).alloc (Nat.le_refl _) _
        rcases two_cases hk with rfl | rfl
        · exact ⟨.slice la L0.length lc, by rw [World.cell?_alloc_new]; rfl, HGW0.out.below hb⟩
        · exact ⟨.slice ma M1.length mc, by rw [World.cell?_alloc_new]; rfl, HGD1.out.below hb⟩)
      clear HGD1 HGW0 HBL
      generalize wr.heap.size = g1 at *
      generalize wr.alloc (.cells #[.slice la L0.length lc, (.slice ma M1.length mc)] 22) = W1 at *
      go_loopw [47] (fun i wr2 => ∃ k : Nat, k ≤ 2 ∧ i = .int .i64 k ∧ Below W1.heap.size W1 wr2) (fun i _ => 2 - (intOf i).toNat)
      case atStart => exact ⟨0, by omega, rfl, Below.refl _ _⟩
      case round =>
        obtain ⟨k, hk, rfl, hb2⟩ := hrel
        have HB2 := Lib.hid hb2
        clear hb2
        by_cases hlt : k < 2
        · obtain ⟨v, hc, hgood⟩ := HCELL.out k hlt
          have hc1 := keep_cell HB2.out hc
          obtain ⟨a1, cp1, M, rfl, hst, hm40, hmc, hcmx, hmx⟩ := hgood.below HB2.out
          have HST := Lib.hid hst
          have HMX := Lib.hid hmx
          have HBW := Lib.hid (HBA.out.trans (HB2.out.mono HBA.out.size))
          have hi1 : (0 : Int) ≤ (k : Int) := by omega
          have hi2 : (k : Int) < 2 := by omega
          clear hc hgood hst hmx
          go_wp2
          have HB3 : Hid (Below W1.heap.size W1 (wr.alloc (.cells #[.int .i64 n, .int .i64 s] 3))) := Lib.hid (HB2.out.alloc HB2.out.size _)
          have HBW3 : Hid (Below w.heap.size w (wr.alloc (.cells #[.int .i64 n, .int .i64 s] 3))) := Lib.hid (HBW.out.alloc HBW.out.size _)
          have HST3 : Hid (Strs (wr.alloc (.cells #[.int .i64 n, .int .i64 s] 3)) (.slice a1 M.length cp1) M) := Lib.hid (HST.out.below ((Below.refl _ _).alloc (Nat.le_refl _) _))
          have HCI : Hid (∀ q, q < 2 → ∃ z : Int, (wr.alloc (.cells #[.int .i64 n, .int .i64 s] 3)).cell? ⟨wr.heap.size, q, none⟩ = some (.int .i64 z)) := Lib.hid (fun q hq => by
            rcases two_cases hq with rfl | rfl
            · exact ⟨n, by rw [World.cell?_alloc_new]; rfl⟩
            · exact ⟨s, by rw [World.cell?_alloc_new]; rfl⟩)
          clear HB2 HBW HST hc1
          generalize wr.heap.size = g2 at *
          generalize wr.alloc (.cells #[.int .i64 n, .int .i64 s] 3) = W2 at *
          go_loopw [55] (fun i wr3 => ∃ q : Nat, q ≤ 2 ∧ i = .int .i64 q ∧ Below W2.heap.size W2 wr3) (fun i _ => 2 - (intOf i).toNat)
          case atStart => exact ⟨0, by omega, rfl, Below.refl _ _⟩
          case round =>
            obtain ⟨q, hq, rfl, hb4⟩ := hrel
            have HB4 := Lib.hid hb4
            have HX3 := Lib.hid (HBW3.out.trans (hb4.mono HBW3.out.size))
            clear hb4
            by_cases hlq : q < 2
            · obtain ⟨z, hz⟩ := HCI.out q hlq
              have hz' := keep_cell HB4.out hz
              have hj1 : (0 : Int) ≤ (q : Int) := by omega
              have hj2 : (q : Int) < 2 := by omega
              have HST4 := Lib.hid (HST3.out.below HB4.out)
              clear hz
              go_wp2_with fail
              refine (sortX_any z _ M _ (HM.out.below HX3.out) HST4.out hm40 HMX.out).mono ?_
              rintro e w5 hpost
              obtain ⟨⟨va, rfl, hsa⟩, hb5⟩ := hpost.uni
              have HB5 := Lib.hid (HB4.out.trans (hb5.mono HB4.out.size))
              have HX5 := Lib.hid (HX3.out.trans (hb5.mono HX3.out.size))
              have HST5 := Lib.hid (HST4.out.below hb5)
              have HSA5 := Lib.hid hsa
              clear hpost hb5 hsa
              go_wp2_with fail
              refine (rSort_any z _ M _ (HM.out.below HX5.out) HST5.out hm40 HMX.out).mono ?_
              rintro e w6 hpost
              obtain ⟨⟨vb, rfl, hsb⟩, hb6⟩ := hpost.uni
              have HB6 := Lib.hid (HB5.out.trans (hb6.mono HB5.out.size))
              have HX6 := Lib.hid (HX5.out.trans (hb6.mono HX5.out.size))
              have HST6 := Lib.hid (HST5.out.below hb6)
              have HSA6 := Lib.hid (HSA5.out.below hb6)
              have HSB6 := Lib.hid hsb
              clear hpost hb6 hsb HB5 HX5 HST5 HSA5
              go_wp2_with fail
              refine (latestX_any z a1 cp1 M _ (HM.out.below HX6.out) HST6.out hm40 hmc hcmx HMX.out).mono ?_
              rintro e w7 hpost
              obtain ⟨rfl, hb7⟩ := hpost.uni
              have HB7 := Lib.hid (HB6.out.trans (hb7.mono HB6.out.size))
              have HX7 := Lib.hid (HX6.out.trans (hb7.mono HX6.out.size))
              have HST7 := Lib.hid (HST6.out.below hb7)
              have HSA7 := Lib.hid (HSA6.out.below hb7)
              have HSB7 := Lib.hid (HSB6.out.below hb7)
              clear hpost hb7 HB6 HX6 HST6 HSA6 HSB6
              go_wp2_with fail
              refine (rLatest_any z _ M _ (HM.out.below HX7.out) HST7.out hm40 HMX.out).mono ?_
              rintro e w8 hpost
              obtain ⟨rfl, hb8⟩ := hpost.uni
              have HB8 := Lib.hid (HB7.out.trans (hb8.mono HB7.out.size))
              have HX8 := Lib.hid (HX7.out.trans (hb8.mono HX7.out.size))
              have HSA8 := Lib.hid (HSA7.out.below hb8)
              have HSB8 := Lib.hid (HSB7.out.below hb8)
              have HOL := Lib.hid (outS_len (n := z) hm40)
              clear hpost hb8 HB7 HX7 HST7 HSA7 HSB7
              generalize codeS z M = cs at *
              generalize codeT z M = ct at *
              generalize outT z M = ot at *
              generalize outS z M = os at *
              go_wp2_with fail
              refine (same_any va vb os _ HSA8.out HSB8.out HOL.out).mono ?_
              rintro e w9 ⟨rfl, hb9⟩
              have HB9 := Lib.hid (HB8.out.trans (hb9.mono HB8.out.size))
              clear hb9
              go_wp2
              refine ⟨?rr, ?measure⟩
              case rr =>
                iterate 58 (apply Exists.intro)
                refine ⟨?rel, rfl⟩
                exact ⟨q + 1, by omega, by go_num, HB9.out⟩
              case measure => simp [intOf]; omega
            · have hq2 : q = 2 := by omega
              subst hq2
              have HB5 := Lib.hid (HB3.out.trans (HB4.out.mono HB3.out.size))
              go_wp2
              go_roundw
              case rel => exact ⟨k + 1, by omega, by go_num, HB5.out⟩
              case measure => simp [intOf]; omega
        · have hk2 : k = 2 := by omega
          subst hk2
          have HBW := Lib.hid (HBA.out.trans (HB2.out.mono HBA.out.size))
          go_wp2_with fail
          refine (awake_any _ (HM.out.below HBW.out)).mono ?_
          rintro e w7 ⟨rfl, hb7⟩
          have HB7 := Lib.hid (HBW.out.trans (hb7.mono HBW.out.size))
          clear hb7
          go_wp2
          go_ret
          exact ⟨ret_bool rfl, HB7.out⟩
end Go.Proofs.YtabeblbhbekjaaaGreatDoor
namespace Go.Proofs.YtabeblbhbekjaaaGreatDoor
open Go.ChangeShapes Go.WideShapes Go.ChangeAt Go.RowKit

theorem cellsI : Tryz.prog.cellsOf 3 = 1 := by kernel_rfl
theorem cellsS : Tryz.prog.cellsOf 9 = 1 := by kernel_rfl

set_option maxRecDepth 100000 in
theorem read_nums {H : Type} {enc : TypeId × Value → H} {W : World} {base : Nat} {v : Value} {d : DataW H} {p : List MemPlace} (hv : Value.okWide Tryz.prog W .any base 23 v)
    (h : DataW.Trod enc Tryz.prog W 0 (fun _ => true) true 23 v d p) : ∃ a m cap, v = .slice a m cap ∧ Nums W a m := by
  obtain ⟨a0, len, cap, rfl⟩ := okWide_slice Tryz.underlying23 hv
  refine ⟨a0, len, cap, rfl, ?_⟩
  obtain ⟨fuel0, hf⟩ := h
  rcases open_ints Tryz.underlying23 Tryz.underlying3 cellsI hf with ⟨hcs, hx⟩ | ⟨a, len', cap', zs, hcs, _, hl, hm, hz, hx, hcell, hwz⟩
  · simp [Value.cells] at hcs
    obtain ⟨rfl, rfl, rfl⟩ := hcs
    exact ⟨by decide, fun j hj => absurd hj (by omega)⟩
  · simp [Value.cells] at hcs
    obtain ⟨rfl, rfl, rfl⟩ := hcs
    simp only [if_true] at hz
    refine ⟨by omega, fun j hj => ?_⟩
    obtain ⟨b, off, spot⟩ := a
    have hspot : spot = none := by simpa [Addr.add] using World.cell?_spot (hcell 0 (by omega))
    subst hspot
    have hc := hcell j (by omega)
    rw [add_plain] at hc
    have hin : zs.getD j 0 ∈ zs := by rw [List.getD_eq_getElem?_getD, List.getElem?_eq_getElem (by omega)]; exact List.getElem_mem _
    exact ⟨b, off, zs.getD j 0, rfl, World.block_lt_of_cell? _ _ hc, hc, hwz _ hin⟩

set_option maxRecDepth 100000 in
theorem read_strs {H : Type} {enc : TypeId × Value → H} {W : World} {base : Nat} {v : Value} {d : DataW H} {p : List MemPlace} (hv : Value.okWide Tryz.prog W .any base 22 v)
    (h : DataW.Trod enc Tryz.prog W 0 (fun _ => true) true 22 v d p) : ∃ L : List V.Bs, Strs W v L ∧ L.length ≤ maxLen ∧ ∀ x ∈ L, x.length ≤ maxLen := by
  obtain ⟨a0, len, cap, rfl⟩ := okWide_slice Tryz.underlying22 hv
  obtain ⟨fuel0, hf⟩ := h
  rcases open_strings Tryz.underlying22 Tryz.underlying9 cellsS hf with ⟨hcs, hx⟩ | ⟨a, len', cap', ss, hcs, _, hl, hm, hz, hx, hcell, hwz⟩
  · simp [Value.cells] at hcs
    obtain ⟨rfl, rfl, rfl⟩ := hcs
    exact ⟨[], Strs.nil W, by simp, fun x hx => by simp at hx⟩
  · simp [Value.cells] at hcs
    obtain ⟨rfl, rfl, rfl⟩ := hcs
    simp only [if_true] at hz
    have hll : ((ss.take len).map fun s : ByteArray => s.data.toList).length = len := by rw [List.length_map, List.length_take]; omega
    refine ⟨(ss.take len).map fun s : ByteArray => s.data.toList, ⟨some a, cap, by rw [hll], fun j hj => ?_⟩, by omega, fun x hx => ?_⟩
    · rw [hll] at hj
      obtain ⟨b, off, spot⟩ := a
      have hspot : spot = none := by simpa [Addr.add] using World.cell?_spot (hcell 0 (by omega))
      subst hspot
      have hc := hcell j (by omega)
      rw [add_plain] at hc
      refine ⟨b, off, rfl, World.block_lt_of_cell? _ _ hc, ?_⟩
      rw [hc]
      congr 2
      rw [List.getElem_map, List.getElem_take, List.getD_eq_getElem?_getD, List.getElem?_eq_getElem (by omega)]
      exact (bs_of _).symm
    · rw [List.mem_map] at hx
      obtain ⟨s, hs, rfl⟩ := hx
      rw [bs_size]
      exact hwz s (List.mem_of_mem_take hs)
end Go.Proofs.YtabeblbhbekjaaaGreatDoor
namespace Go.Proofs.YtabeblbhbekjaaaGreatDoor
open Go.ChangeShapes Go.WideShapes Go.ChangeAt Go.RowKit

set_option maxRecDepth 100000 in
theorem read_strs2 {H : Type} {enc : TypeId × Value → H} {W : World} {base : Nat} {v : Value} {d : DataW H} {p : List MemPlace} (hv : Value.okWide Tryz.prog W .any base 22 v)
    (h : DataW.Trod enc Tryz.prog W 0 (fun _ => true) true 22 v d p) : ∃ L : List V.Bs, (∃ a cap, v = .slice a L.length cap ∧ L.length ≤ cap ∧ cap ≤ maxLen ∧ Strs W v L) ∧ L.length ≤ maxLen ∧ ∀ x ∈ L, x.length ≤ maxLen := by
  obtain ⟨a0, len, cap, rfl⟩ := okWide_slice Tryz.underlying22 hv
  obtain ⟨fuel0, hf⟩ := h
  rcases open_strings Tryz.underlying22 Tryz.underlying9 cellsS hf with ⟨hcs, hx⟩ | ⟨a, len', cap', ss, hcs, hb, hl, hm, hz, hx, hcell, hwz⟩
  · simp [Value.cells] at hcs
    obtain ⟨rfl, rfl, rfl⟩ := hcs
    exact ⟨[], ⟨none, 0, rfl, Nat.le_refl _, Nat.zero_le _, Strs.nil W⟩, by simp, fun x hx => by simp at hx⟩
  · simp [Value.cells] at hcs
    obtain ⟨rfl, rfl, rfl⟩ := hcs
    simp only [if_true] at hz
    have hll : ((ss.take len).map fun s : ByteArray => s.data.toList).length = len := by rw [List.length_map, List.length_take]; omega
    refine ⟨(ss.take len).map fun s : ByteArray => s.data.toList, ⟨some a, cap, by rw [hll], by rw [hll]; exact hl, hm, some a, cap, by rw [hll], fun j hj => ?_⟩, by omega, fun x hx => ?_⟩
    · rw [hll] at hj
      obtain ⟨b, off, spot⟩ := a
      have hspot : spot = none := by simpa [Addr.add] using World.cell?_spot (hcell 0 (by omega))
      subst hspot
      have hc := hcell j (by omega)
      rw [add_plain] at hc
      refine ⟨b, off, rfl, World.block_lt_of_cell? _ _ hc, ?_⟩
      rw [hc]
      congr 2
      rw [List.getElem_map, List.getElem_take, List.getD_eq_getElem?_getD, List.getElem?_eq_getElem (by omega)]
      exact (bs_of _).symm
    · rw [List.mem_map] at hx
      obtain ⟨s, hs, rfl⟩ := hx
      rw [bs_size]
      exact hwz s (List.mem_of_mem_take hs)

theorem versionSorts_any (n : Int) (L : List V.Bs) (v : Value) (a : Option Addr) (m cap : Nat) (w : World) (hmx : MaxOk w) (hn : (Lit.int .i64 n).wf = true)
    (hl : ∃ a cap, v = .slice a L.length cap ∧ L.length ≤ cap ∧ cap ≤ maxLen ∧ Strs w v L) (_ : L.length ≤ maxLen) (hx : ∀ x ∈ L, x.length ≤ maxLen) (ht : Nums w a m) :
    Calls Tryz.prog 5 #[.int .i64 n, v, .slice a m cap] w fun e w' => e = .returned (.bool true) ∧ Below w.heap.size w w' := by
  obtain ⟨la, lc, rfl, h1, h2, h3⟩ := hl
  exact versionSortsX_any n la lc L a m cap w hmx hn ht h3 h1 h2 hx
end Go.Proofs.YtabeblbhbekjaaaGreatDoor
