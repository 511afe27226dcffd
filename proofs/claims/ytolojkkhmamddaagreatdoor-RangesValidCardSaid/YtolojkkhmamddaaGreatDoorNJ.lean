/-
  Walks: awake, light, alike of the laws of range sets.
  Walks: made conditions, made texts of range sets.
  Walk: made texts of range sets.
-/
import Derived.Test.YtolojkkhmamddaaGreatDoorNG
import Derived.Test.YtolojkkhmamddaaGreatDoorMF
import Derived.Test.YtolojkkhmamddaaGreatDoorTN
import Derived.Outline
namespace Go.Proofs.YtolojkkhmamddaaGreatDoor
open Go.RowKit

namespace V
def awI : Itv := ⟨[49, 46, 48, 46, 48], 1, [50, 46, 48, 46, 48], 2⟩
theorem aw_ok : okR 1 [awI] = true := by decide +kernel
theorem aw_text : textL [awI] = [62, 61, 49, 46, 48, 46, 48, 32, 60, 50, 46, 48, 46, 48] := by decide +kernel
theorem aw_par : parP 1 [62, 61, 49, 46, 48, 46, 48, 32, 60, 50, 46, 48, 46, 48] = (1, [awI], 0) := by
  rw [← aw_text]
  exact parP_some (parse_back (ok_of aw_ok))
theorem aw_in : containsL 1 [awI] [49, 46, 53, 46, 48] = true := by decide +kernel
theorem aw_out : containsL 1 [awI] [50, 46, 48, 46, 48] = false := by decide +kernel
end V

set_option maxRecDepth 100000 in
set_option maxHeartbeats 1600000 in
theorem awake07_any (w : World) (hm : MaxOk w) : Calls Tryz.prog 14 #[] w fun e w' => e = .returned (.bool true) ∧ Below w.heap.size w w' := by
  have HM := Lib.hid hm
  clear hm
  go_enter Tryz.func14, Tryz.ntmps14
  go_wp2_with fail
  refine (rgParse_any 1 [62, 61, 49, 46, 48, 46, 48, 32, 60, 50, 46, 48, 46, 48] w HM.out (by unfold maxLen; decide)).mono ?_
  rintro e w1 ⟨u, rfl, hu, how, hb1⟩
  have HP := Lib.hid V.aw_par
  rw [HP.out] at hu ⊢
  simp only at hu ⊢
  obtain ⟨p, q, rfl⟩ := hu.slice
  have HU := Lib.hid hu
  have HB1 := Lib.hid hb1
  have hbA : Below w1.heap.size w1 (w1.alloc (.cells #[.int .i64 1, .slice p ([V.awI] : List V.Itv).length q] 25)) := (Below.refl _ _).alloc (Nat.le_refl _) _
  have HBA := Lib.hid (hb1.trans (hbA.mono hb1.size))
  have HMA := Lib.hid (HM.out.below HBA.out)
  have HUA := Lib.hid (hu.below hbA)
  have c0 : (w1.alloc (.cells #[.int .i64 1, .slice p ([V.awI] : List V.Itv).length q] 25)).cell? ⟨w1.heap.size, 0, none⟩ = some (.int .i64 1) := by simp [cell_alloc]
  have c1 : (w1.alloc (.cells #[.int .i64 1, .slice p ([V.awI] : List V.Itv).length q] 25)).cell? ⟨w1.heap.size, 1, none⟩ = some (.slice p 1 q) := by simp [cell_alloc]
  have HAI := Lib.hid V.aw_in
  have HAO := Lib.hid V.aw_out
  clear hu how hb1 hbA
  unfold setV
  go_wp2_with fail
  generalize w1.alloc (.cells #[.int .i64 1, .slice p ([V.awI] : List V.Itv).length q] 25) = w2 at *
  refine (rgContains_any 1 (.slice p 1 q) [V.awI] [49, 46, 53, 46, 48] w2 HMA.out HUA.out (lens_ok (V.ok_of V.aw_ok)) (by unfold maxLen; simp) (by unfold maxLen; simp)).mono ?_
  rintro e w3 ⟨rfl, hb3⟩
  rw [HAI.out]
  have d0 := below_keep hb3 c0
  have d1 := below_keep hb3 c1
  have HB3 := Lib.hid (HBA.out.trans (hb3.mono HBA.out.size))
  have HM3 := Lib.hid (HMA.out.below hb3)
  have HU3 := Lib.hid (HUA.out.below hb3)
  clear hb3 c0 c1
  go_wp2_with fail
  refine (rgContains_any 1 (.slice p 1 q) [V.awI] [50, 46, 48, 46, 48] w3 HM3.out HU3.out (lens_ok (V.ok_of V.aw_ok)) (by unfold maxLen; simp) (by unfold maxLen; simp)).mono ?_
  rintro e w4 ⟨rfl, hb4⟩
  rw [HAO.out]
  have e0 := below_keep hb4 d0
  have e1 := below_keep hb4 d1
  have HB4 := Lib.hid (HB3.out.trans (hb4.mono HB3.out.size))
  clear hb4 d0 d1
  go_wp2
  go_ret
  exact ⟨rfl, HB4.out⟩

/-- some answer -/
def AnyBool (w : World) (e : Ending) (w' : World) : Prop := ∃ b, e = .returned (.bool b) ∧ Below w.heap.size w w'
set_option maxRecDepth 100000 in
set_option maxHeartbeats 3200000 in
theorem light07_any (n : Int) (v : Value) (l : List V.Itv) (w : World) (hv : Itvs w v l) (hs : Lens l) (hl : l.length ≤ maxLen) : Calls Tryz.prog 19 #[setV n v] w (AnyBool w) := by
  have HV := Lib.hid hv
  have HS := Lib.hid hs
  obtain ⟨va, vc, rfl⟩ := hv.slice
  unfold maxLen at hl
  have hb0 : Below w.heap.size w (w.alloc (.cells #[.int .i64 n, .slice va l.length vc] 25)) := (Below.refl _ w).alloc (Nat.le_refl _) _
  have HB0 := Lib.hid hb0
  have c1 : (w.alloc (.cells #[.int .i64 n, .slice va l.length vc] 25)).cell? ⟨w.heap.size, 1, none⟩ = some (.slice va l.length vc) := by simp [cell_alloc]
  clear hb0 hv hs
  unfold setV
  by_cases h60 : 60 < l.length
  · go_enter Tryz.func19, Tryz.ntmps19
    go_wp2
    go_ret
    exact ⟨_, rfl, HB0.out⟩
  · have HD := Lib.hid c1
    go_enter Tryz.func19, Tryz.ntmps19
    go_wp2_with fail
    clear c1
    generalize w.alloc (.cells #[.int .i64 n, .slice va l.length vc] 25) = w0 at *
    go_loopw [3] (fun iv wx => ∃ k : Nat, k ≤ l.length ∧ iv = .int .i64 k ∧ wx = w0) (fun iv _ => l.length - (intOf iv).toNat)
    case atStart => exact ⟨0, Nat.zero_le _, rfl, rfl⟩
    case round =>
      obtain ⟨k, hk, rfl, rfl⟩ := hrel
      have e1 := HD.out
      by_cases hlt : k < l.length
      · obtain ⟨b, off, rfl, hb0, hx⟩ := HV.out.at k hlt
        obtain ⟨h0, h1, h2, h3⟩ := hx.below hb0 HB0.out
        have hi1 : (0 : Int) ≤ (k : Int) := by omega
        have hi2 : (k : Int) < (l.length : Int) := by omega
        have hlen := HS.out _ (List.getElem_mem hlt)
        unfold maxLen at hlen
        obtain ⟨hl1, hl2⟩ := hlen
        clear hx h1 h3
        generalize l[k] = x at *
        have hz1 : (ByteArray.mk x.lo.toArray).size = x.lo.length := by simp [ByteArray.size]
        have hz2 : (ByteArray.mk x.hi.toArray).size = x.hi.length := by simp [ByteArray.size]
        go_wp2
        all_goals first
          | (go_ret; exact ⟨_, rfl, HB0.out⟩)
          | (go_roundw
             case rel => exact ⟨k + 1, by omega, by go_num, by first | trivial | rfl⟩
             case measure => simp [intOf]; omega)
      · go_wp2
        go_ret
        exact ⟨_, rfl, HB0.out⟩

end Go.Proofs.YtolojkkhmamddaaGreatDoor
namespace Go.Proofs.YtolojkkhmamddaaGreatDoor
open Go.RowKit

namespace V
def opsMade : List Bs := [[61], [60], [60, 61], [62], [62, 61]]
theorem opsMade_op : ∀ x ∈ opsMade, ∃ k, k < 5 ∧ x = opT k := by
  intro x hx
  simp [opsMade] at hx
  rcases hx with rfl | rfl | rfl | rfl | rfl
  · exact ⟨2, by omega, rfl⟩
  · exact ⟨3, by omega, rfl⟩
  · exact ⟨1, by omega, rfl⟩
  · exact ⟨4, by omega, rfl⟩
  · exact ⟨0, by omega, rfl⟩
/-- a made condition -/
def CondM (n : Int) (s : Bs) : Prop := ∃ k v, k < 5 ∧ valid n v = true ∧ s = opT k ++ v
theorem CondM.len {n : Int} {s : Bs} (h : CondM n s) : s.length ≤ 66 := by
  obtain ⟨k, v, hk, hv, rfl⟩ := h
  exact op_len k hv
theorem CondM.alt {n : Int} {s : Bs} (h : CondM n s) : AltM n s := .inr (.inr (.inl h))
theorem CondM.two {n : Int} {s t : Bs} (h : CondM n s) (g : CondM n t) : AltM n (s ++ 32 :: t) := by
  obtain ⟨k, v, hk, hv, rfl⟩ := h
  obtain ⟨j, u, hj, hu, rfl⟩ := g
  exact .inr (.inr (.inr ⟨k, v, j, u, hk, hj, hv, hu, rfl⟩))
theorem AltM.pos {n : Int} {s : Bs} (h : AltM n s) : 0 < s.length := by
  rcases h with rfl | rfl | ⟨k, v, hk, hv, rfl⟩ | ⟨k, v, j, u, hk, hj, hv, hu, rfl⟩
  · decide
  · decide
  · have := (valid_len hv).1; rw [List.length_append]; omega
  · rw [List.length_append, List.length_cons]; omega
theorem join_snoc (x : Bs) : ∀ (r : List Bs) (y : Bs), Lib.join (x :: r ++ [y]) orT = Lib.join (x :: r) orT ++ orT ++ y := by
  intro r y
  rw [List.cons_append, Lib.join_cons, Lib.join_cons]
  simp [Lib.joinTail]
/-- a made text of some alternatives -/
structure TextM (n : Int) (L : List Bs) (s : Bs) : Prop where
  join : s = Lib.join L orT
  alt : ∀ y ∈ L, AltM n y
theorem TextM.nil (n : Int) : TextM n [] [] := ⟨rfl, fun y hy => by cases hy⟩
theorem TextM.len {n : Int} {L : List Bs} {s : Bs} (hn : scheme n = true) (h : TextM n L s) : s.length ≤ L.length * 137 := by
  rcases L with _ | ⟨x, r⟩
  · rw [h.join]; simp [Lib.join_nil]
  · have := join_le (fun y hy => ((h.alt y hy).ok hn).2.1)
    rw [h.join, List.length_cons]
    exact this
theorem TextM.ne {n : Int} {L : List Bs} {s : Bs} (h : TextM n L s) (hl : L ≠ []) : s ≠ [] := by
  rcases L with _ | ⟨x, r⟩
  · exact absurd rfl hl
  · have := (h.alt x (by simp)).pos
    rw [h.join, Lib.join_cons]
    intro e
    rw [List.append_eq_nil_iff] at e
    rw [e.1] at this
    simp at this
theorem TextM.first {n : Int} {s y : Bs} (h : TextM n [] s) (hy : AltM n y) : TextM n [y] (s ++ y) :=
  ⟨by rw [h.join, Lib.join_nil, Lib.join_one]; rfl, fun z hz => by rw [List.mem_singleton.1 hz]; exact hy⟩
theorem TextM.more {n : Int} {L : List Bs} {s y : Bs} (h : TextM n L s) (hl : L ≠ []) (hy : AltM n y) : TextM n (L ++ [y]) (s ++ orT ++ y) := by
  rcases L with _ | ⟨x, r⟩
  · exact absurd rfl hl
  · refine ⟨by rw [join_snoc, h.join], fun z hz => ?_⟩
    rcases List.mem_append.1 hz with g | g
    · exact h.alt z g
    · rw [List.mem_singleton.1 g]; exact hy
end V

/-- a made condition -/
def CondMPost (b k : Nat) (n : Int) (w : World) (e : Ending) (w' : World) : Prop :=
  ∃ C : ByteArray, V.CondM n C.data.toList ∧ e = .returned (.string C) ∧ Tape w' b (k + 2) ∧ w.grownBy w' (some b)
set_option maxRecDepth 100000 in
set_option maxHeartbeats 1600000 in
theorem condM_any (b k : Nat) (n : Int) (w : World) (h : Tape w b k) (hk : k ≤ 100000) (hn : V.scheme n = true) :
    Calls Tryz.prog 67 #[.pointer (some ⟨b, 0, none⟩), .int .i64 n] w (CondMPost b k n w) := by
  have HT := Lib.hid h
  have HN := Lib.hid hn
  have hbt : b < w.heap.size := h.lt
  clear h hn
  go_enter Tryz.func67, Tryz.ntmps67
  go_wp2_with fail
  refine (pick_any b k _ ⟨w.heap.size, 0, none⟩ 5 V.opsMade ((HT.out.below ((Below.refl _ w).alloc (Nat.le_refl _) _))) (by omega) (by decide) (by decide) (by simp; omega) rfl (fun j hj => by
      rw [World.cell?_alloc_new, Nat.zero_add]
      have : ∀ j : Fin 5, (#[Value.string ⟨#[61]⟩, Value.string ⟨#[60]⟩, Value.string ⟨#[60, 61]⟩, Value.string ⟨#[62]⟩, Value.string ⟨#[62, 61]⟩])[j.val]? = some (Value.string ⟨(V.opsMade.getD j.val []).toArray⟩) := by
        intro j; rcases j with ⟨j, hj⟩
        have h5 : j = 0 ∨ j = 1 ∨ j = 2 ∨ j = 3 ∨ j = 4 := by omega
        rcases h5 with rfl | rfl | rfl | rfl | rfl <;> rfl
      exact this ⟨j, hj⟩)).mono ?_
  rintro e w1 ⟨o, ho, rfl, ht1, hg1⟩
  have HO := Lib.hid (V.opsMade_op o ho)
  have HT1 := Lib.hid ht1
  have HG1 := Lib.hid (World.grownBy.trans (World.grownBy_alloc w _ (some b)) hg1)
  have hol : o.length ≤ 2 := by
    obtain ⟨q, _, rfl⟩ := HO.out
    unfold V.opT
    repeat' split
    all_goals simp
  clear ho ht1 hg1
  go_wp2_with fail
  refine (version_any b (k + 1) n w1 HT1.out (by omega) HN.out).mono ?_
  rintro e w2 ⟨v, hv, rfl, ht2, hg2⟩
  have HV := Lib.hid hv
  have HT2 := Lib.hid ht2
  have HG2 := Lib.hid (World.grownBy.trans HG1.out hg2)
  have hvl : v.length ≤ 64 := (V.valid_len hv).2
  have z1 : (ByteArray.mk o.toArray).size = o.length := by simp [ByteArray.size]
  have z2 : (ByteArray.mk v.toArray).size = v.length := by simp [ByteArray.size]
  have s1 : ¬ (9223372036854775807 < (ByteArray.mk o.toArray).size + (ByteArray.mk v.toArray).size) := by omega
  have s2 : ¬ (9223372036854775807 < o.length + v.length) := by omega
  have HD : Hid ((ByteArray.mk o.toArray ++ ByteArray.mk v.toArray).data.toList = o ++ v) := Lib.hid (by simp)
  clear hv ht2 hg2 z1 z2 hol hvl
  go_wp2
  go_ret
  obtain ⟨q, hq, rfl⟩ := HO.out
  exact ⟨_, ⟨q, v, hq, HV.out, HD.out⟩, rfl, HT2.out, HG2.out⟩
end Go.Proofs.YtolojkkhmamddaaGreatDoor
namespace Go.Proofs.YtolojkkhmamddaaGreatDoor
open Go.RowKit

/-- a made text -/
def TextMPost (b k : Nat) (n : Int) (w : World) (e : Ending) (w' : World) : Prop :=
  ∃ (S : ByteArray) (x : V.Bs) (r : List V.Bs), V.TextM n (x :: r) S.data.toList ∧ r.length ≤ 3 ∧ e = .returned (.string S) ∧ Tape w' b (k + 40) ∧ w.grownBy w' (some b)
theorem ba_snoc (B C : ByteArray) : (B ++ C).data.toList = B.data.toList ++ C.data.toList := by simp
theorem ba_len (S : ByteArray) : S.size = S.data.toList.length := rfl
set_option maxRecDepth 100000 in
set_option maxHeartbeats 6400000 in
theorem textM_any (b k : Nat) (n : Int) (w : World) (h : Tape w b k) (hk : k ≤ 10000) (hn : V.scheme n = true) :
    Calls Tryz.prog 36 #[.pointer (some ⟨b, 0, none⟩), .int .i64 n] w (TextMPost b k n w) := by
  have HT := Lib.hid h
  have HN := Lib.hid hn
  clear h hn
  go_enter Tryz.func36, Tryz.ntmps36
  go_wp2_with fail
  refine (next_any b k 4 w HT.out (by omega) (by omega) (by omega)).mono ?_
  rintro e w1 ⟨r, hr, rfl, ht1, hg1⟩
  have HT1 := Lib.hid ht1
  have HG1 := Lib.hid hg1
  have hr4 : r < 4 := by omega
  clear ht1 hg1 hr
  go_wp2_with fail
  go_loopw [5, 6] (fun v iv wx => ∃ (j : Nat) (L : List V.Bs) (S : ByteArray), v = .string S ∧ iv = .int .i64 j ∧ L.length + j ≤ 4 ∧ (L = [] → 0 < j) ∧ V.TextM n L S.data.toList ∧ Tape wx b (k + 1 + 6 * L.length) ∧ w.grownBy wx (some b)) (fun _ iv _ => (intOf iv).toNat)
  case atStart => exact ⟨r + 1, [], ⟨#[]⟩, rfl, by go_num, by simp; omega, fun _ => by omega, V.TextM.nil n, HT1.out, HG1.out⟩
  case round =>
    obtain ⟨j, L, S, rfl, rfl, hlj, hpos, htx, htp, hgr⟩ := hrel
    have HTX := Lib.hid htx
    have HTP := Lib.hid htp
    have HGR := Lib.hid hgr
    have HPOS := Lib.hid hpos
    have HLJ := Lib.hid hlj
    clear htx htp hgr hpos
    by_cases hj : 0 < j
    · have hsz : S.size ≤ 548 := by have := HTX.out.len HN.out; rw [ba_len]; omega
      have HKL : Hid (k + 1 + 6 * L.length ≤ 20000) := Lib.hid (by omega)
      obtain ⟨B, hB, hBs, hBn⟩ : ∃ B : ByteArray, B = (if L = [] then S else S ++ ⟨#[32, 124, 124, 32]⟩) ∧ B.size ≤ 552 ∧ ∀ y, V.AltM n y → V.TextM n (L ++ [y]) (B.data.toList ++ y) := by
        by_cases hL : L = []
        · refine ⟨S, by rw [if_pos hL], by omega, fun y hy => ?_⟩
          have := HTX.out
          rw [hL] at this ⊢
          exact this.first hy
        · refine ⟨S ++ ⟨#[32, 124, 124, 32]⟩, by rw [if_neg hL], by rw [ByteArray.size_append]; show S.size + 4 ≤ 552; omega, fun y hy => ?_⟩
          rw [ba_snoc]
          exact HTX.out.more hL hy
      have HBN := Lib.hid hBn
      clear hBn
      have s1 : ¬ (9223372036854775807 < S.size + 4) := by omega
      have key : ∃ q : Bool, (S.toList == []) = q ∧ (if L = [] then S else S ++ ⟨#[32, 124, 124, 32]⟩) = (if q then S else S ++ ⟨#[32, 124, 124, 32]⟩) := by
        by_cases hL : L = []
        · refine ⟨true, ?_, by rw [if_pos hL]; rfl⟩
          have h1 := HTX.out.join
          rw [hL, Lib.join_nil] at h1
          rw [ByteArray.toList_eq, h1]
          rfl
        · refine ⟨false, ?_, by rw [if_neg hL]; rfl⟩
          rw [beq_eq_false_iff_ne, ByteArray.toList_eq]
          exact HTX.out.ne hL
      obtain ⟨q, hq, hBq⟩ := key
      rw [hBq] at hB
      clear hBq
      have REST : True := trivial
      rcases q with _ | _
      all_goals
        simp only [if_true, Bool.false_eq_true, if_false] at hB
        have HBE := Lib.hid hB
        clear hB
        go_wp2_with fail
        rw [← HBE.out]
        refine (next_any b (k + 1 + 6 * L.length) 12 wr HTP.out (by have := HKL.out; omega) (by omega) (by omega)).mono ?_
        rintro e w2 ⟨t, ht, rfl, ht2, hg2⟩
        have HT2 := Lib.hid ht2
        have HG2 := Lib.hid (World.grownBy.trans HGR.out hg2)
        have ht12 : t < 12 := by omega
        have b1 : ¬ (9223372036854775807 < B.size + 4) := by omega
        have b2 : ¬ (9223372036854775807 < B.size + 1) := by omega
        clear ht2 hg2 ht s1 hq
        have hcase : t = 0 ∨ t = 1 ∨ (t = 2 ∨ t = 3 ∨ t = 4) ∨ 5 ≤ t := by omega
        rcases hcase with rfl | rfl | h234 | h5
        · have HNX := Lib.hid (HBN.out V.noneT (.inl rfl))
          go_wp2_with fail
          go_roundw
          case rel => exact ⟨j - 1, L ++ [V.noneT], B ++ ⟨#[110, 111, 110, 101]⟩, rfl, by go_num, by rw [List.length_append, List.length_singleton]; omega, (fun e => by simp at e), by rw [ba_snoc]; exact HNX.out, HT2.out.le (by rw [List.length_append, List.length_singleton]; omega), HG2.out⟩
          case measure => simp [intOf]; omega
        · have HNX := Lib.hid (HBN.out [42] (.inr (.inl rfl)))
          go_wp2_with fail
          go_roundw
          case rel => exact ⟨j - 1, L ++ [[42]], B ++ ⟨#[42]⟩, rfl, by go_num, by rw [List.length_append, List.length_singleton]; omega, (fun e => by simp at e), by rw [ba_snoc]; exact HNX.out, HT2.out.le (by rw [List.length_append, List.length_singleton]; omega), HG2.out⟩
          case measure => simp [intOf]; omega
        · rcases h234 with rfl | rfl | rfl
          all_goals
            go_wp2_with fail
            refine (condM_any b (k + 1 + 6 * L.length + 1) n w2 HT2.out (by have := HKL.out; omega) HN.out).mono ?_
            rintro e w3 ⟨C, hC, rfl, ht3, hg3⟩
            have HT3 := Lib.hid ht3
            have HG3 := Lib.hid (World.grownBy.trans HG2.out hg3)
            have hcs : C.size ≤ 66 := hC.len
            have b3 : ¬ (9223372036854775807 < B.size + C.size) := by omega
            have HNX := Lib.hid (HBN.out C.data.toList hC.alt)
            clear hC ht3 hg3
            go_wp2_with fail
            go_roundw
            case rel => exact ⟨j - 1, L ++ [C.data.toList], B ++ C, rfl, by go_num, by rw [List.length_append, List.length_singleton]; omega, (fun e => by simp at e), by rw [ba_snoc]; exact HNX.out, HT3.out.le (by rw [List.length_append, List.length_singleton]; omega), HG3.out⟩
            case measure => simp [intOf]; omega
        · have n0 : ((t : Int) == 0) = false := by rw [beq_eq_false_iff_ne]; omega
          have n1 : ((t : Int) == 1) = false := by rw [beq_eq_false_iff_ne]; omega
          have n2 : ((t : Int) == 2) = false := by rw [beq_eq_false_iff_ne]; omega
          have n3 : ((t : Int) == 3) = false := by rw [beq_eq_false_iff_ne]; omega
          have n4 : ((t : Int) == 4) = false := by rw [beq_eq_false_iff_ne]; omega
          clear h5 ht12
          go_wp2_with fail
          refine (condM_any b (k + 1 + 6 * L.length + 1) n w2 HT2.out (by have := HKL.out; omega) HN.out).mono ?_
          rintro e w3 ⟨C, hC, rfl, ht3, hg3⟩
          have HT3 := Lib.hid ht3
          have HG3 := Lib.hid (World.grownBy.trans HG2.out hg3)
          have hcs : C.size ≤ 66 := hC.len
          have HC := Lib.hid hC
          have b3 : ¬ (9223372036854775807 < B.size + C.size) := by omega
          have b4 : ¬ (9223372036854775807 < B.size + C.size + 1) := by omega
          clear hC ht3 hg3
          go_wp2_with fail
          refine (condM_any b (k + 1 + 6 * L.length + 1 + 2) n w3 HT3.out (by have := HKL.out; omega) HN.out).mono ?_
          rintro e w4 ⟨D, hD, rfl, ht4, hg4⟩
          have HT4 := Lib.hid ht4
          have HG4 := Lib.hid (World.grownBy.trans HG3.out hg4)
          have hds : D.size ≤ 66 := hD.len
          have b5 : ¬ (9223372036854775807 < B.size + C.size + 1 + D.size) := by omega
          have HNX := Lib.hid (HBN.out _ (HC.out.two hD))
          clear hD ht4 hg4
          go_wp2_with fail
          go_roundw
          case rel => exact ⟨j - 1, L ++ [C.data.toList ++ 32 :: D.data.toList], B ++ C ++ ⟨#[32]⟩ ++ D, rfl, by go_num, by rw [List.length_append, List.length_singleton]; omega, (fun e => by simp at e), by rw [ba_snoc, ba_snoc, ba_snoc]; have := HNX.out; simpa using this, HT4.out.le (by rw [List.length_append, List.length_singleton]; omega), HG4.out⟩
          case measure => simp [intOf]; omega
    · obtain rfl : j = 0 := by omega
      have hL : L ≠ [] := fun e => by have := HPOS.out e; omega
      obtain ⟨x, r', rfl⟩ : ∃ x r', L = x :: r' := by
        rcases L with _ | ⟨x, r'⟩
        · exact absurd rfl hL
        · exact ⟨x, r', rfl⟩
      go_wp2
      go_ret
      exact ⟨S, x, r', HTX.out, by have := HLJ.out; rw [List.length_cons] at this; omega, rfl, HTP.out.le (by have := HLJ.out; omega), HGR.out⟩
end Go.Proofs.YtolojkkhmamddaaGreatDoor
