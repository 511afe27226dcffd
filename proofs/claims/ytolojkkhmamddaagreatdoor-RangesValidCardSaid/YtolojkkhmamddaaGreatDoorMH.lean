/-
  Walk: combine of package ranges.
  Walks: the operations of package ranges.
-/
import Derived.Test.YtolojkkhmamddaaGreatDoorMF
import Derived.Test.YtolojkkhmamddaaGreatDoorU9
import Derived.StillTailTactics
namespace Go.Proofs.YtolojkkhmamddaaGreatDoor
open Go.RowKit

theorem bytesLess_at : ∀ a b : V.Bs, Op.bytesLess a b = decide (V.cb a b < 0)
  | [], [] => rfl
  | [], _ :: _ => rfl
  | _ :: _, [] => rfl
  | x :: a, y :: b => by
    unfold Op.bytesLess
    rcases V.cb_cons x y a b with ⟨h, e⟩ | ⟨h, e⟩ | ⟨h, e⟩
    · rw [e]; simp [h]
    · subst h
      have : ¬ x < x := by simp
      rw [e, ← bytesLess_at a b]; simp [this]
    · have h1 : ¬ x < y := fun g => by rw [UInt8.lt_iff_toNat_lt] at h g; omega
      have h2 : (x == y) = false := by
        rw [beq_eq_false_iff_ne]; intro g; subst g; simp at h
      rw [e, h2]; simp [h1]
theorem lesser_any (a b : V.Bs) (w : World) : Calls Tryz.prog 74 #[.string ⟨a.toArray⟩, .string ⟨b.toArray⟩] w fun e w' => e = .returned (.string ⟨(V.lesser a b).toArray⟩) ∧ w = w' := by
  have HF : Hid (V.lesser a b = if Lib.compareBytes b a < 0 then b else a) := Lib.hid rfl
  by_cases h : Lib.compareBytes b a < 0
  · have HR : Hid (V.lesser a b = b) := Lib.hid (by rw [HF.out, if_pos h])
    have hl : Op.bytesLess b a = true := by rw [bytesLess_at]; exact decide_eq_true h
    clear h
    go_enter Tryz.func74, Tryz.ntmps74
    go_wp2
    go_ret
    exact ⟨by rw [HR.out]; rfl, rfl⟩
  · have HR : Hid (V.lesser a b = a) := Lib.hid (by rw [HF.out, if_neg h])
    have hl : Op.bytesLess b a = false := by rw [bytesLess_at]; exact decide_eq_false h
    clear h
    go_enter Tryz.func74, Tryz.ntmps74
    go_wp2
    go_ret
    exact ⟨by rw [HR.out]; rfl, rfl⟩

theorem PutAt.itvs {w W : World} {g : Nat} {new : Array Value} {t : TypeId} {u : Value} {l : List V.Itv} (h : PutAt w W g new t) (hu : Itvs w u l) (hne : ∀ c, u.ownBlock = some c → c ≠ g) : Itvs W u l := by
  obtain ⟨a, cap, rfl, hc⟩ := hu
  refine ⟨a, cap, rfl, fun j hj => ?_⟩
  obtain ⟨b, off, rfl, hlt, h0, h1, h2, h3⟩ := hc j hj
  have hb := hne b rfl
  exact ⟨b, off, rfl, by rw [h.size]; exact hlt, h.cell h0 hb, h.cell h1 hb, h.cell h2 hb, h.cell h3 hb⟩
theorem keep_set2 {W : World} {Z g o : Nat} {u v x : Value} (hne : g ≠ Z) (h : W.cell? ⟨g, o, none⟩ = some x) : ((W.setCell ⟨Z, 0, none⟩ u).setCell ⟨Z, 1, none⟩ v).drew.cell? ⟨g, o, none⟩ = some x := by
  rw [World.cell?_drew, World.cell?_setCell_other _ _ _ _ (by intro e; injection e with e1; exact hne e1.symm), World.cell?_setCell_other _ _ _ _ (by intro e; injection e with e1; exact hne e1.symm)]
  exact h
/-- two cells stored, and an order drawn -/
theorem put_two {W : World} {Z : Nat} {p q u v : Value} {t : TypeId} (hZ : W.heap[Z]? = some (.cells #[p, q] t (0, 0))) : PutAt W (((W.setCell ⟨Z, 0, none⟩ u).setCell ⟨Z, 1, none⟩ v).drew) Z #[u, v] t := by
  have h1 := putAt_set (o := 0) hZ u
  have h2 := putAt_set (o := 1) h1.here v
  exact ⟨h2.here, h2.size.trans h1.size, World.grownBy.trans (World.grownBy.trans h1.grown h2.grown) ⟨rfl, rfl, rfl, Nat.le_refl _, fun _ _ _ => rfl⟩⟩

namespace V
theorem step_l {n : Int} {f : Bool → Bool → Bool} {x y : Bool} {L M : List Cut} {i j : Nat} (hi : i < L.length) (h : j = M.length ∨ ∃ hj : j < M.length, cutC n L[i] M[j] < 0) :
    comb n f x y (f x y) (L.drop i) (M.drop j) = emit L[i] (f (!x) y) (f x y) (comb n f (!x) y (f (!x) y) (L.drop (i + 1)) (M.drop j)) := by
  rw [List.drop_eq_getElem_cons hi]
  rcases h with rfl | ⟨hj, h⟩
  · rw [List.drop_length]; exact comb_l ..
  · rw [List.drop_eq_getElem_cons hj]; exact comb_lt h
theorem step_r {n : Int} {f : Bool → Bool → Bool} {x y : Bool} {L M : List Cut} {i j : Nat} (hj : j < M.length) (h : i = L.length ∨ ∃ hi : i < L.length, 0 < cutC n L[i] M[j]) :
    comb n f x y (f x y) (L.drop i) (M.drop j) = emit M[j] (f x (!y)) (f x y) (comb n f x (!y) (f x (!y)) (L.drop i) (M.drop (j + 1))) := by
  rw [List.drop_eq_getElem_cons hj]
  rcases h with rfl | ⟨hi, h⟩
  · rw [List.drop_length]; exact comb_r ..
  · rw [List.drop_eq_getElem_cons hi]; exact comb_gt h
theorem step_b {n : Int} {f : Bool → Bool → Bool} {x y : Bool} {L M : List Cut} {i j : Nat} (hi : i < L.length) (hj : j < M.length) (h : cutC n L[i] M[j] = 0) :
    comb n f x y (f x y) (L.drop i) (M.drop j) = emit (lesser L[i].1 M[j].1, L[i].2) (f (!x) (!y)) (f x y) (comb n f (!x) (!y) (f (!x) (!y)) (L.drop (i + 1)) (M.drop (j + 1))) := by
  rw [List.drop_eq_getElem_cons hi, List.drop_eq_getElem_cons hj]
  exact comb_eq h
end V
/-- what the loop of combine keeps -/
structure CbInv (n : Int) (f : Bool → Bool → Bool) (xa xb : Bool) (L M : List V.Cut) (W0 : World) (i j : Nat) (R : List V.Cut) (out : Value) (W : World) : Prop where
  hi : i ≤ L.length
  hj : j ≤ M.length
  row : BRow W W0.heap.size out (V.alt (f xa xb) R)
  now : f (V.par xa i) (V.par xb j) = V.par (f xa xb) R.length
  res : V.comb n f xa xb (f xa xb) L M = R ++ V.comb n f (V.par xa i) (V.par xb j) (f (V.par xa i) (V.par xb j)) (L.drop i) (M.drop j)
  below : Below W0.heap.size W0 W
  len : R.length ≤ i + j

theorem CbInv.next {n : Int} {f : Bool → Bool → Bool} {xa xb : Bool} {L M : List V.Cut} {W0 W : World} {i j : Nat} {R : List V.Cut} {out : Value} (h : CbInv n f xa xb L M W0 i j R out W) {i' j' : Nat} {c : V.Cut} (hi : i' ≤ L.length) (hj : j' ≤ M.length)
    {x' y' : Bool} (hst : V.comb n f (V.par xa i) (V.par xb j) (f (V.par xa i) (V.par xb j)) (L.drop i) (M.drop j) = V.emit c (f x' y') (f (V.par xa i) (V.par xb j)) (V.comb n f x' y' (f x' y') (L.drop i') (M.drop j'))) (hx : V.par xa i' = x') (hy : V.par xb j' = y') (hlen : i + j + 1 ≤ i' + j') (out' : Value) (W' : World) (hB : Below W0.heap.size W0 W') :
    (f x' y' = V.par (f xa xb) R.length → BRow W' W0.heap.size out' (V.alt (f xa xb) R) → CbInv n f xa xb L M W0 i' j' R out' W') ∧
    (f x' y' ≠ V.par (f xa xb) R.length → BRow W' W0.heap.size out' (V.alt (f xa xb) R ++ [(c, !V.par (f xa xb) R.length)]) → CbInv n f xa xb L M W0 i' j' (R ++ [c]) out' W') := by
  have hr := h.res
  rw [hst] at hr
  have hl := h.len
  subst hx hy
  constructor
  · intro he hrow
    refine ⟨hi, hj, hrow, he, ?_, hB, by omega⟩
    rw [hr, h.now]
    unfold V.emit
    rw [if_pos he]
  · intro he hrow
    refine ⟨hi, hj, ?_, ?_, ?_, hB, by simp; omega⟩
    · rw [V.alt_snoc]; exact hrow
    · rw [List.length_append, List.length_singleton, V.par_succ]
      cases hq : f (V.par xa i') (V.par xb j') <;> cases hp : V.par (f xa xb) R.length <;> simp_all
    · rw [hr, h.now]
      unfold V.emit
      rw [if_neg he, List.append_assoc]
      rfl

set_option maxRecDepth 100000 in
set_option maxHeartbeats 6400000 in
theorem rgCombine_any (n : Int) (a b : List V.Itv) (va vb : Value) (K : Nat) (f : Bool → Bool → Bool) (w : World) (hm : MaxOk w) (ha : V.Ok n a) (hb : V.Ok n b) (hva : Itvs w va a) (hvb : Itvs w vb b)
    (eg : ∀ args w, (callFunc K args).run Tryz.prog w = .ok (.enter K args) w) (hK : ∀ (x y : Bool) W, Calls Tryz.prog K #[.bool x, .bool y] W fun e w' => e = .returned (.bool (f x y)) ∧ W = w') :
    Calls Tryz.prog 41 #[setV n va, setV n vb, .func (.func K) #[] #[]] w fun e w' => ∃ u, e = .returned (setV n u) ∧ Itvs w' u (V.opL n f a b) ∧ (∀ c, u.ownBlock = some c → w.heap.size ≤ c) ∧ Below w.heap.size w w' := by
  have HK := Lib.hid hK
  have HVA := Lib.hid hva
  have HVB := Lib.hid hvb
  obtain ⟨aa, ac, rfl⟩ := hva.slice
  obtain ⟨ba, bc, rfl⟩ := hvb.slice
  have HA := Lib.hid ha
  have HB := Lib.hid hb
  have hla := ha.len
  have hlb := hb.len
  obtain ⟨hb0, hc0, _, hz0⟩ := two_alloc w #[.int .i64 n, .slice aa a.length ac] #[.int .i64 n, .slice ba b.length bc] 25 25
  have hb1 : Below w.heap.size w (((w.alloc (.cells #[.int .i64 n, .slice aa a.length ac] 25)).alloc (.cells #[.int .i64 n, .slice ba b.length bc] 25)).alloc (.cells #[.int .i64 0, .slice none 0 0] 25)) := hb0.alloc (by rw [hz0]; omega) _
  have h3 := three_heap w (.cells #[.int .i64 n, .slice aa a.length ac] 25) (.cells #[.int .i64 n, .slice ba b.length bc] 25) (.cells #[.int .i64 0, .slice none 0 0] 25)
  have H3 := Lib.hid h3
  have HB1 := Lib.hid hb1
  have HM1 := Lib.hid (hm.below hb1)
  clear hK hva hvb ha hb hb0 hc0 hz0 hb1 h3 hm
  unfold setV
  go_enter Tryz.func41, Tryz.ntmps41
  go_wp2_with fail
  generalize (((w.alloc (.cells #[.int .i64 n, .slice aa a.length ac] 25)).alloc (.cells #[.int .i64 n, .slice ba b.length bc] 25)).alloc (.cells #[.int .i64 0, .slice none 0 0] 25)) = w1 at *
  refine (rgBorders_any n (.slice aa a.length ac) a w1 (HVA.out.below HB1.out) (by omega)).mono ?_
  rintro e w2 ⟨lv, rfl, hlv, hb2⟩
  have HL2 := Lib.hid (BRow.bords hlv)
  have HB2 := Lib.hid (HB1.out.trans (hb2.mono HB1.out.size))
  have HM2 := Lib.hid (HM1.out.below hb2)
  have K0 := hb2.block _ (show w.heap.size < w1.heap.size by have := H3.out.2.2.2; omega)
  have K1 := hb2.block _ (show w.heap.size + 1 < w1.heap.size by have := H3.out.2.2.2; omega)
  have K2 := hb2.block _ (show w.heap.size + 1 + 1 < w1.heap.size by have := H3.out.2.2.2; omega)
  rw [H3.out.1] at K0
  rw [H3.out.2.1] at K1
  rw [H3.out.2.2.1] at K2
  have c0 : w2.cell? ⟨w.heap.size + 1, 0, none⟩ = some (.int .i64 n) := Lib.cell_of_heap K1 0
  have c1 : w2.cell? ⟨w.heap.size + 1, 1, none⟩ = some (.slice ba b.length bc) := Lib.cell_of_heap K1 1
  have HK2 := Lib.hid (And.intro K0 K2)
  clear hlv hb2 K0 K1 K2
  go_wp2_with fail
  refine (rgBorders_any n (.slice ba b.length bc) b w2 (HVB.out.below HB2.out) (by omega)).mono ?_
  rintro e w3 ⟨mv, rfl, hmv, hb3⟩
  have HM3 := Lib.hid (BRow.bords hmv)
  have HL3 := Lib.hid (Bords.below HL2.out hb3)
  have HB3 := Lib.hid (HB2.out.trans (hb3.mono HB2.out.size))
  have HMX := Lib.hid (HM2.out.below hb3)
  have K0 := hb3.block _ (Array.getElem?_eq_some_iff.1 HK2.out.1).1
  have K2 := hb3.block _ (Array.getElem?_eq_some_iff.1 HK2.out.2).1
  rw [HK2.out.1] at K0
  rw [HK2.out.2] at K2
  have HK3 := Lib.hid (And.intro K0 K2)
  rw [V.bord_alt HA.out.ord] at HL3
  rw [V.bord_alt HB.out.ord] at HM3
  clear hmv hb3 K0 K2 c0 c1 HL2 HM2 HK2 HM1 HB2
  obtain ⟨xa, hxa⟩ : ∃ x, x = V.firstB a := ⟨_, rfl⟩
  obtain ⟨xb, hxb⟩ : ∃ x, x = V.firstB b := ⟨_, rfl⟩
  have HOP : Hid (V.opL n f a b = V.ofC (V.start (f xa xb)) (V.comb n f xa xb (f xa xb) (V.cutsOf a) (V.cutsOf b))) := Lib.hid (by rw [hxa, hxb]; rfl)
  have HOA := Lib.hid HA.out.cuts
  have HOB := Lib.hid HB.out.cuts
  have hlL := V.cutsOf_len a
  have hlM := V.cutsOf_len b
  rw [← hxa] at HL3 ⊢
  rw [← hxb] at HM3 ⊢
  generalize V.cutsOf a = L at *
  generalize V.cutsOf b = M at *
  obtain ⟨la, lc, rfl⟩ := HL3.out.slice
  obtain ⟨ma, mc, rfl⟩ := HM3.out.slice
  have HLL := Lib.hid (V.alt_len xa L)
  have HML := Lib.hid (V.alt_len xb M)
  rw [HLL.out] at HL3 ⊢
  rw [HML.out] at HM3 ⊢
  have HN := Lib.hid HA.out.sch
  clear hxa hxb HA HB HVA HVB HB1
  go_wp2_with fail
  refine (HK.out xa xb w3).mono ?_
  rintro e w4' ⟨rfl, rfl⟩
  obtain ⟨w4, hw4⟩ : ∃ w4, w4 = w3 := ⟨_, rfl⟩
  subst hw4
  go_wp2
  go_loopw [8, 10, 12, 13, 14, 15] (fun xv yv nv ov iv jv wx => ∃ (i j : Nat) (R : List V.Cut), iv = .int .i64 i ∧ jv = .int .i64 j ∧ xv = .bool (V.par xa i) ∧ yv = .bool (V.par xb j) ∧ nv = .bool (V.par (f xa xb) R.length) ∧ CbInv n f xa xb L M w4 i j R ov wx) (fun _ _ _ _ iv jv _ => (L.length - (intOf iv).toNat) + (M.length - (intOf jv).toNat))
  case atStart => exact ⟨0, 0, [], rfl, rfl, rfl, rfl, rfl, Nat.zero_le _, Nat.zero_le _, GRow.nil _ _, rfl, rfl, Below.refl _ _, by simp⟩
  case round =>
    obtain ⟨i, j, R, rfl, rfl, rfl, rfl, rfl, hinv⟩ := hrel
    have HINV := Lib.hid hinv
    obtain ⟨oa, oc, rfl⟩ := GRow.slice hinv.row
    have hi := hinv.hi
    have hj := hinv.hj
    clear hinv
    by_cases hil : i < L.length
    · by_cases hjl : j < M.length
      · obtain ⟨g, off, rfl, hgl, h0, h1, h2⟩ := HL3.out.at i (by rw [HLL.out]; exact hil)
        have hge : (V.alt xa L)[i]'(by rw [HLL.out]; exact hil) = (L[i], !V.par xa i) := by
          have h1 := V.alt_at xa L i hil
          have := List.getElem?_eq_getElem (l := V.alt xa L) (i := i) (by rw [HLL.out]; exact hil)
          rw [h1, V.par_succ] at this
          exact (Option.some.inj this).symm
        rw [hge] at h0 h1 h2
        replace h0 := below_keep HINV.out.below h0
        replace h1 := below_keep HINV.out.below h1
        replace h2 := below_keep HINV.out.below h2
        have hi1 : (0 : Int) ≤ (i : Int) := by omega
        have hi2 : (i : Int) < (L.length : Int) := by omega
        clear hge
        obtain ⟨g2, off2, rfl, mhgl, mh0, mh1, mh2⟩ := HM3.out.at j (by rw [HML.out]; exact hjl)
        have mhge : (V.alt xb M)[j]'(by rw [HML.out]; exact hjl) = (M[j], !V.par xb j) := by
          have h1 := V.alt_at xb M j hjl
          have := List.getElem?_eq_getElem (l := V.alt xb M) (i := j) (by rw [HML.out]; exact hjl)
          rw [h1, V.par_succ] at this
          exact (Option.some.inj this).symm
        rw [mhge] at mh0 mh1 mh2
        replace mh0 := below_keep HINV.out.below mh0
        replace mh1 := below_keep HINV.out.below mh1
        replace mh2 := below_keep HINV.out.below mh2
        have mhi1 : (0 : Int) ≤ (j : Int) := by omega
        have mhi2 : (j : Int) < (M.length : Int) := by omega
        clear mhge
        have hsc : wr.cell? ⟨w.heap.size, 0, none⟩ = some (.int .i64 n) := Lib.cell_of_heap ((HINV.out.below.block _ (Array.getElem?_eq_some_iff.1 HK3.out.1).1).trans HK3.out.1) 0
        have HVL : Hid (V.valid n L[i].1 = true) := Lib.hid (HOA.out _ (List.getElem_mem hil))
        have HVM : Hid (V.valid n M[j].1 = true) := Lib.hid (HOB.out _ (List.getElem_mem hjl))
        have HMR := Lib.hid (HMX.out.below HINV.out.below)
        have hq1 : ((j : Int) == (M.length : Int)) = false := by rw [beq_eq_false_iff_ne]; omega
        have hq2 : ((i : Int) == (L.length : Int)) = false := by rw [beq_eq_false_iff_ne]; omega
        go_wp2_with fail
        go_region_held3 (fun W' => MaxOk W' ∧ W'.cell? ⟨w.heap.size, 0, none⟩ = some (.int .i64 n) ∧ W'.cell? ⟨g, off + i * 3, none⟩ = some (.string ⟨L[i].1.toArray⟩) ∧ W'.cell? ⟨g, off + i * 3 + 1, none⟩ = some (.bool L[i].2) ∧ W'.cell? ⟨g2, off2 + j * 3, none⟩ = some (.string ⟨M[j].1.toArray⟩) ∧ W'.cell? ⟨g2, off2 + j * 3 + 1, none⟩ = some (.bool M[j].2))
          (first
            | (exact ⟨HMR.out, hsc, h0, h1, mh0, mh1⟩)
            | (go_split_ands; exact ⟨MaxOk.below (by assumption) hbq, below_keep hbq (by assumption), below_keep hbq (by assumption), below_keep hbq (by assumption), below_keep hbq (by assumption), below_keep hbq (by assumption)⟩)
            | go_keep)
          (first
            | (go_at_call 46; refine (rgCompare_any n L[i] M[j] _ (by first | assumption | exact And.left (by assumption)) HN.out HVL.out HVM.out).mono ?_; rintro e wq ⟨rfl, hbq⟩))
        have hbQ : Below wr.heap.size wr wq := ((Below.refl wr.heap.size wr).drew).trans (show Below wr.heap.size wr.drew wq from hbq)
        have HBX := Lib.hid (HINV.out.below.trans (hbQ.mono HINV.out.below.size))
        have HRX : Hid (BRow wq w4.heap.size (.slice oa (V.alt (f xa xb) R).length oc) (V.alt (f xa xb) R)) := Lib.hid (GRow.below HINV.out.row hbQ)
        replace h0 := below_keep hbQ h0
        replace h1 := below_keep hbQ h1
        replace h2 := below_keep hbQ h2
        replace mh0 := below_keep hbQ mh0
        replace mh1 := below_keep hbQ mh1
        replace mh2 := below_keep hbQ mh2
        clear hbq hbQ hsc
        obtain ⟨z, hz⟩ : ∃ z, V.cutC n L[i] M[j] = z := ⟨_, rfl⟩
        rw [hz]
        have HZC := Lib.hid hz
        clear hz
        by_cases hz1 : z < 0
        · have hz2 : z ≤ 0 := by omega
          have hz3 : ¬ 0 ≤ z := by omega
          have hz4 : ¬ 0 < z := by omega
          have hz5 : (z == 0) = false := by rw [beq_eq_false_iff_ne]; omega
          have hbZ : Below wq.heap.size wq (wq.alloc (.cells #[.string ⟨#[]⟩, .bool false] 62)) := (Below.refl _ wq).alloc (Nat.le_refl _) _
          replace h0 := below_keep hbZ h0
          replace h1 := below_keep hbZ h1
          replace h2 := below_keep hbZ h2
          have z0 : (wq.alloc (.cells #[.string ⟨#[]⟩, .bool false] 62)).cell? ⟨wq.heap.size, 0, none⟩ = some (.string ⟨#[]⟩) := by rw [World.cell?_alloc_new]; rfl
          have z1 : (wq.alloc (.cells #[.string ⟨#[]⟩, .bool false] 62)).cell? ⟨wq.heap.size, 1, none⟩ = some (.bool false) := by rw [World.cell?_alloc_new]; rfl
          have f0 : (wq.alloc (.cells #[.string ⟨#[]⟩, .bool false] 62)).frozen? ⟨wq.heap.size, 0, none⟩ = false := by rw [frozen_alloc, if_pos rfl]
          have f1 : (wq.alloc (.cells #[.string ⟨#[]⟩, .bool false] 62)).frozen? ⟨wq.heap.size, 1, none⟩ = false := by rw [frozen_alloc, if_pos rfl]
          have HZ : Hid ((wq.alloc (.cells #[.string ⟨#[]⟩, .bool false] 62)).heap[wq.heap.size]? = some (.cells #[.string ⟨#[]⟩, .bool false] 62 (0, 0))) := Lib.hid (by rw [heap_alloc, if_pos rfl])
          have HBZ := Lib.hid hbZ
          have hgZ : g ≠ wq.heap.size := by have := HBX.out.size; omega
          clear hbZ
          go_wp2_with fail
          generalize wq.alloc (.cells #[.string ⟨#[]⟩, .bool false] 62) = W1 at *
          go_region_held3 (fun W' => W'.cell? ⟨g, off + i * 3, none⟩ = some (.string ⟨L[i].1.toArray⟩) ∧ W'.cell? ⟨g, off + i * 3 + 1, none⟩ = some (.bool L[i].2) ∧ W'.cell? ⟨g, off + i * 3 + 2, none⟩ = some (.bool (!V.par xa i)))
            (first
              | (exact ⟨h0, h1, h2⟩)
              | (exact ⟨keep_set2 hgZ h0, keep_set2 hgZ h1, keep_set2 hgZ h2⟩)
              | go_keep)
            (fail)
          have hw2 := put_two (u := .string ⟨L[i].1.toArray⟩) (v := .bool L[i].2) HZ.out
          have HW2 := Lib.hid hw2.here
          have HBW := Lib.hid (HBX.out.trans (hw2.below HBZ.out (Nat.le_refl _) |>.mono HBX.out.size))
          have HR2 : Hid (BRow (((W1.setCell ⟨wq.heap.size, 0, none⟩ (.string ⟨L[i].1.toArray⟩)).setCell ⟨wq.heap.size, 1, none⟩ (.bool L[i].2)).drew) w4.heap.size (.slice oa (V.alt (f xa xb) R).length oc) (V.alt (f xa xb) R)) := Lib.hid (GRow.below HRX.out (hw2.below HBZ.out (Nat.le_refl _)))
          clear hw2 z0 z1 f0 f1 h0 h1 h2
          generalize ((W1.setCell ⟨wq.heap.size, 0, none⟩ (.string ⟨L[i].1.toArray⟩)).setCell ⟨wq.heap.size, 1, none⟩ (.bool L[i].2)).drew = W2 at *
          go_wp2_with fail
          refine (HK.out (!V.par xa i) (V.par xb j) W2).mono ?_
          rintro e w' ⟨rfl, rfl⟩
          have HST := Lib.hid (V.step_l (n := n) (f := f) (x := V.par xa i) (y := V.par xb j) hil (.inr ⟨hjl, by rw [HZC.out]; exact hz1⟩))
          have HNEXT := Lib.hid (HINV.out.next (i' := (i + 1)) (j' := j) (c := L[i]) (by omega) (by omega) HST.out (V.par_succ _ _) rfl (by omega))
          have HPX : Hid (V.par xa (i + 1) = !V.par xa i) := Lib.hid (V.par_succ _ _)
          have HPY : Hid (V.par xb (j + 1) = !V.par xb j) := Lib.hid (V.par_succ _ _)
          have hlenR := HINV.out.len
          rcases hnx : f (!V.par xa i) (V.par xb j) with _ | _
          · have HNX := Lib.hid hnx
            clear hnx
            rcases hnw : V.par (f xa xb) R.length with _ | _
            · have HNW := Lib.hid hnw
              clear hnw
              have HIN := Lib.hid ((HNEXT.out _ W2 HBW.out).1 (by rw [HNX.out, HNW.out]) HR2.out)
              go_wp2
              go_roundw
              case rel => exact ⟨(i + 1), j, R, by go_num, by go_num, by rw [HPX.out], rfl, by rw [HNW.out], HIN.out⟩
              case measure => simp [intOf]; omega
            · have HNW := Lib.hid hnw
              clear hnw
              have HNB : Hid (∀ j0 u, (bordE (L[i], false))[j0]? = some u → (W2.alloc (.cells #[.string ⟨(L[i] : V.Cut).1.toArray⟩, .bool (L[i] : V.Cut).2, .bool false] 89)).cell? ⟨W2.heap.size, j0, none⟩ = some u) := Lib.hid (fun j0 u hu => by rw [World.cell?_alloc_new]; simpa [bordE] using hu)
              have HBN := Lib.hid ((Below.refl W2.heap.size W2).alloc (Nat.le_refl _) (.cells #[.string ⟨(L[i] : V.Cut).1.toArray⟩, .bool (L[i] : V.Cut).2, .bool false] 89))
              have c0 : W2.cell? ⟨wq.heap.size, 0, none⟩ = some (.string ⟨(L[i] : V.Cut).1.toArray⟩) := Lib.cell_of_heap HW2.out 0
              have c1 : W2.cell? ⟨wq.heap.size, 1, none⟩ = some (.bool (L[i] : V.Cut).2) := Lib.cell_of_heap HW2.out 1
              go_wp2_with (first | (refine wl_appendG bordE_len (by decide) bordE_one bordInfo (by decide) rfl _ _ 85 rfl Tryz.underlying85 w4.heap.size (.slice oa (V.alt (f xa xb) R).length oc) (V.alt (f xa xb) R) rfl (GRow.below HR2.out HBN.out) W2.heap.size (L[i], false) rfl HNB.out (by rw [V.alt_len]; omega) (by have := HBW.out.size; have := HBN.out.size; omega) ?_; intro v9 W9 hr9 hg9) | fail)
              have hb9 : Below w4.heap.size w4 W9 := (HBW.out.trans (HBN.out.mono HBW.out.size)).trans (grown_below2 hg9 (GRow.block HR2.out) (Nat.le_refl _) (by have := HBW.out.size; have := HBN.out.size; omega))
              have HIN := Lib.hid ((HNEXT.out v9 W9 hb9).2 (by rw [HNX.out, HNW.out]; decide) (by rw [HNW.out]; exact hr9))
              have HPN : Hid (V.par (f xa xb) (R ++ [L[i]]).length = false) := Lib.hid (by rw [List.length_append, List.length_singleton, V.par_succ, HNW.out]; rfl)
              clear hr9 hg9 hb9 c0 c1
              go_roundw
              case rel => exact ⟨(i + 1), j, R ++ [L[i]], by go_num, by go_num, by rw [HPX.out], rfl, by rw [HPN.out], HIN.out⟩
              case measure => simp [intOf]; omega
          · have HNX := Lib.hid hnx
            clear hnx
            rcases hnw : V.par (f xa xb) R.length with _ | _
            · have HNW := Lib.hid hnw
              clear hnw
              have HNB : Hid (∀ j0 u, (bordE (L[i], true))[j0]? = some u → (W2.alloc (.cells #[.string ⟨(L[i] : V.Cut).1.toArray⟩, .bool (L[i] : V.Cut).2, .bool true] 89)).cell? ⟨W2.heap.size, j0, none⟩ = some u) := Lib.hid (fun j0 u hu => by rw [World.cell?_alloc_new]; simpa [bordE] using hu)
              have HBN := Lib.hid ((Below.refl W2.heap.size W2).alloc (Nat.le_refl _) (.cells #[.string ⟨(L[i] : V.Cut).1.toArray⟩, .bool (L[i] : V.Cut).2, .bool true] 89))
              have c0 : W2.cell? ⟨wq.heap.size, 0, none⟩ = some (.string ⟨(L[i] : V.Cut).1.toArray⟩) := Lib.cell_of_heap HW2.out 0
              have c1 : W2.cell? ⟨wq.heap.size, 1, none⟩ = some (.bool (L[i] : V.Cut).2) := Lib.cell_of_heap HW2.out 1
              go_wp2_with (first | (refine wl_appendG bordE_len (by decide) bordE_one bordInfo (by decide) rfl _ _ 85 rfl Tryz.underlying85 w4.heap.size (.slice oa (V.alt (f xa xb) R).length oc) (V.alt (f xa xb) R) rfl (GRow.below HR2.out HBN.out) W2.heap.size (L[i], true) rfl HNB.out (by rw [V.alt_len]; omega) (by have := HBW.out.size; have := HBN.out.size; omega) ?_; intro v9 W9 hr9 hg9) | fail)
              have hb9 : Below w4.heap.size w4 W9 := (HBW.out.trans (HBN.out.mono HBW.out.size)).trans (grown_below2 hg9 (GRow.block HR2.out) (Nat.le_refl _) (by have := HBW.out.size; have := HBN.out.size; omega))
              have HIN := Lib.hid ((HNEXT.out v9 W9 hb9).2 (by rw [HNX.out, HNW.out]; decide) (by rw [HNW.out]; exact hr9))
              have HPN : Hid (V.par (f xa xb) (R ++ [L[i]]).length = true) := Lib.hid (by rw [List.length_append, List.length_singleton, V.par_succ, HNW.out]; rfl)
              clear hr9 hg9 hb9 c0 c1
              go_roundw
              case rel => exact ⟨(i + 1), j, R ++ [L[i]], by go_num, by go_num, by rw [HPX.out], rfl, by rw [HPN.out], HIN.out⟩
              case measure => simp [intOf]; omega
            · have HNW := Lib.hid hnw
              clear hnw
              have HIN := Lib.hid ((HNEXT.out _ W2 HBW.out).1 (by rw [HNX.out, HNW.out]) HR2.out)
              go_wp2
              go_roundw
              case rel => exact ⟨(i + 1), j, R, by go_num, by go_num, by rw [HPX.out], rfl, by rw [HNW.out], HIN.out⟩
              case measure => simp [intOf]; omega
        · by_cases hz2 : 0 < z
          · have hz3 : 0 ≤ z := by omega
            have hz4 : ¬ z ≤ 0 := by omega
            have hz5 : (z == 0) = false := by rw [beq_eq_false_iff_ne]; omega
            have hbN : Below wq.heap.size wq (wq.alloc (.cells #[.string ⟨M[j].1.toArray⟩, .bool M[j].2] 62)) := (Below.refl _ wq).alloc (Nat.le_refl _) _
            have mk2 := below_keep hbN mh2
            have hbZ : Below wq.heap.size wq (wq.alloc (.cells #[.string ⟨#[]⟩, .bool false] 62)) := (Below.refl _ wq).alloc (Nat.le_refl _) _
            replace mh0 := below_keep hbZ mh0
            replace mh1 := below_keep hbZ mh1
            replace mh2 := below_keep hbZ mh2
            have HW2 : Hid ((wq.alloc (.cells #[.string ⟨M[j].1.toArray⟩, .bool M[j].2] 62)).heap[wq.heap.size]? = some (.cells #[.string ⟨M[j].1.toArray⟩, .bool M[j].2] 62 (0, 0))) := Lib.hid (by rw [heap_alloc, if_pos rfl])
            have HBW := Lib.hid (HBX.out.trans (hbN.mono HBX.out.size))
            have HR2 : Hid (BRow (wq.alloc (.cells #[.string ⟨M[j].1.toArray⟩, .bool M[j].2] 62)) w4.heap.size (.slice oa (V.alt (f xa xb) R).length oc) (V.alt (f xa xb) R)) := Lib.hid (GRow.below HRX.out hbN)
            have hgZ2 : g2 ≠ wq.heap.size := by have := HBX.out.size; omega
            clear hbN hbZ
            go_wp2_with fail
            generalize wq.alloc (.cells #[.string ⟨M[j].1.toArray⟩, .bool M[j].2] 62) = W2 at *
            refine (HK.out (V.par xa i) (!V.par xb j) W2).mono ?_
            rintro e w' ⟨rfl, rfl⟩
            have HST := Lib.hid (V.step_r (n := n) (f := f) (x := V.par xa i) (y := V.par xb j) hjl (.inr ⟨hil, by rw [HZC.out]; exact hz2⟩))
            have HNEXT := Lib.hid (HINV.out.next (i' := i) (j' := (j + 1)) (c := M[j]) (by omega) (by omega) HST.out rfl (V.par_succ _ _) (by omega))
            have HPX : Hid (V.par xa (i + 1) = !V.par xa i) := Lib.hid (V.par_succ _ _)
            have HPY : Hid (V.par xb (j + 1) = !V.par xb j) := Lib.hid (V.par_succ _ _)
            have hlenR := HINV.out.len
            rcases hnx : f (V.par xa i) (!V.par xb j) with _ | _
            · have HNX := Lib.hid hnx
              clear hnx
              rcases hnw : V.par (f xa xb) R.length with _ | _
              · have HNW := Lib.hid hnw
                clear hnw
                have HIN := Lib.hid ((HNEXT.out _ W2 HBW.out).1 (by rw [HNX.out, HNW.out]) HR2.out)
                go_wp2
                go_roundw
                case rel => exact ⟨i, (j + 1), R, by go_num, by go_num, rfl, by rw [HPY.out], by rw [HNW.out], HIN.out⟩
                case measure => simp [intOf]; omega
              · have HNW := Lib.hid hnw
                clear hnw
                have HNB : Hid (∀ j0 u, (bordE (M[j], false))[j0]? = some u → (W2.alloc (.cells #[.string ⟨(M[j] : V.Cut).1.toArray⟩, .bool (M[j] : V.Cut).2, .bool false] 89)).cell? ⟨W2.heap.size, j0, none⟩ = some u) := Lib.hid (fun j0 u hu => by rw [World.cell?_alloc_new]; simpa [bordE] using hu)
                have HBN := Lib.hid ((Below.refl W2.heap.size W2).alloc (Nat.le_refl _) (.cells #[.string ⟨(M[j] : V.Cut).1.toArray⟩, .bool (M[j] : V.Cut).2, .bool false] 89))
                have c0 : W2.cell? ⟨wq.heap.size, 0, none⟩ = some (.string ⟨(M[j] : V.Cut).1.toArray⟩) := Lib.cell_of_heap HW2.out 0
                have c1 : W2.cell? ⟨wq.heap.size, 1, none⟩ = some (.bool (M[j] : V.Cut).2) := Lib.cell_of_heap HW2.out 1
                go_wp2_with (first | (refine wl_appendG bordE_len (by decide) bordE_one bordInfo (by decide) rfl _ _ 85 rfl Tryz.underlying85 w4.heap.size (.slice oa (V.alt (f xa xb) R).length oc) (V.alt (f xa xb) R) rfl (GRow.below HR2.out HBN.out) W2.heap.size (M[j], false) rfl HNB.out (by rw [V.alt_len]; omega) (by have := HBW.out.size; have := HBN.out.size; omega) ?_; intro v9 W9 hr9 hg9) | fail)
                have hb9 : Below w4.heap.size w4 W9 := (HBW.out.trans (HBN.out.mono HBW.out.size)).trans (grown_below2 hg9 (GRow.block HR2.out) (Nat.le_refl _) (by have := HBW.out.size; have := HBN.out.size; omega))
                have HIN := Lib.hid ((HNEXT.out v9 W9 hb9).2 (by rw [HNX.out, HNW.out]; decide) (by rw [HNW.out]; exact hr9))
                have HPN : Hid (V.par (f xa xb) (R ++ [M[j]]).length = false) := Lib.hid (by rw [List.length_append, List.length_singleton, V.par_succ, HNW.out]; rfl)
                clear hr9 hg9 hb9 c0 c1
                go_roundw
                case rel => exact ⟨i, (j + 1), R ++ [M[j]], by go_num, by go_num, rfl, by rw [HPY.out], by rw [HPN.out], HIN.out⟩
                case measure => simp [intOf]; omega
            · have HNX := Lib.hid hnx
              clear hnx
              rcases hnw : V.par (f xa xb) R.length with _ | _
              · have HNW := Lib.hid hnw
                clear hnw
                have HNB : Hid (∀ j0 u, (bordE (M[j], true))[j0]? = some u → (W2.alloc (.cells #[.string ⟨(M[j] : V.Cut).1.toArray⟩, .bool (M[j] : V.Cut).2, .bool true] 89)).cell? ⟨W2.heap.size, j0, none⟩ = some u) := Lib.hid (fun j0 u hu => by rw [World.cell?_alloc_new]; simpa [bordE] using hu)
                have HBN := Lib.hid ((Below.refl W2.heap.size W2).alloc (Nat.le_refl _) (.cells #[.string ⟨(M[j] : V.Cut).1.toArray⟩, .bool (M[j] : V.Cut).2, .bool true] 89))
                have c0 : W2.cell? ⟨wq.heap.size, 0, none⟩ = some (.string ⟨(M[j] : V.Cut).1.toArray⟩) := Lib.cell_of_heap HW2.out 0
                have c1 : W2.cell? ⟨wq.heap.size, 1, none⟩ = some (.bool (M[j] : V.Cut).2) := Lib.cell_of_heap HW2.out 1
                go_wp2_with (first | (refine wl_appendG bordE_len (by decide) bordE_one bordInfo (by decide) rfl _ _ 85 rfl Tryz.underlying85 w4.heap.size (.slice oa (V.alt (f xa xb) R).length oc) (V.alt (f xa xb) R) rfl (GRow.below HR2.out HBN.out) W2.heap.size (M[j], true) rfl HNB.out (by rw [V.alt_len]; omega) (by have := HBW.out.size; have := HBN.out.size; omega) ?_; intro v9 W9 hr9 hg9) | fail)
                have hb9 : Below w4.heap.size w4 W9 := (HBW.out.trans (HBN.out.mono HBW.out.size)).trans (grown_below2 hg9 (GRow.block HR2.out) (Nat.le_refl _) (by have := HBW.out.size; have := HBN.out.size; omega))
                have HIN := Lib.hid ((HNEXT.out v9 W9 hb9).2 (by rw [HNX.out, HNW.out]; decide) (by rw [HNW.out]; exact hr9))
                have HPN : Hid (V.par (f xa xb) (R ++ [M[j]]).length = true) := Lib.hid (by rw [List.length_append, List.length_singleton, V.par_succ, HNW.out]; rfl)
                clear hr9 hg9 hb9 c0 c1
                go_roundw
                case rel => exact ⟨i, (j + 1), R ++ [M[j]], by go_num, by go_num, rfl, by rw [HPY.out], by rw [HPN.out], HIN.out⟩
                case measure => simp [intOf]; omega
              · have HNW := Lib.hid hnw
                clear hnw
                have HIN := Lib.hid ((HNEXT.out _ W2 HBW.out).1 (by rw [HNX.out, HNW.out]) HR2.out)
                go_wp2
                go_roundw
                case rel => exact ⟨i, (j + 1), R, by go_num, by go_num, rfl, by rw [HPY.out], by rw [HNW.out], HIN.out⟩
                case measure => simp [intOf]; omega
          · obtain rfl : z = 0 := by omega
            have hbZ : Below wq.heap.size wq (wq.alloc (.cells #[.string ⟨#[]⟩, .bool false] 62)) := (Below.refl _ wq).alloc (Nat.le_refl _) _
            replace h0 := below_keep hbZ h0
            replace h1 := below_keep hbZ h1
            replace h2 := below_keep hbZ h2
            replace mh0 := below_keep hbZ mh0
            replace mh1 := below_keep hbZ mh1
            replace mh2 := below_keep hbZ mh2
            have z0 : (wq.alloc (.cells #[.string ⟨#[]⟩, .bool false] 62)).cell? ⟨wq.heap.size, 0, none⟩ = some (.string ⟨#[]⟩) := by rw [World.cell?_alloc_new]; rfl
            have z1 : (wq.alloc (.cells #[.string ⟨#[]⟩, .bool false] 62)).cell? ⟨wq.heap.size, 1, none⟩ = some (.bool false) := by rw [World.cell?_alloc_new]; rfl
            have f0 : (wq.alloc (.cells #[.string ⟨#[]⟩, .bool false] 62)).frozen? ⟨wq.heap.size, 0, none⟩ = false := by rw [frozen_alloc, if_pos rfl]
            have f1 : (wq.alloc (.cells #[.string ⟨#[]⟩, .bool false] 62)).frozen? ⟨wq.heap.size, 1, none⟩ = false := by rw [frozen_alloc, if_pos rfl]
            have HZ : Hid ((wq.alloc (.cells #[.string ⟨#[]⟩, .bool false] 62)).heap[wq.heap.size]? = some (.cells #[.string ⟨#[]⟩, .bool false] 62 (0, 0))) := Lib.hid (by rw [heap_alloc, if_pos rfl])
            have HBZ := Lib.hid hbZ
            have hgZ : g ≠ wq.heap.size := by have := HBX.out.size; omega
            clear hbZ
            go_wp2_with fail
            generalize wq.alloc (.cells #[.string ⟨#[]⟩, .bool false] 62) = W1 at *
            go_region_held3 (fun W' => W'.cell? ⟨g, off + i * 3, none⟩ = some (.string ⟨L[i].1.toArray⟩) ∧ W'.cell? ⟨g, off + i * 3 + 1, none⟩ = some (.bool L[i].2) ∧ W'.cell? ⟨g, off + i * 3 + 2, none⟩ = some (.bool (!V.par xa i)))
              (first
                | (exact ⟨h0, h1, h2⟩)
                | (exact ⟨keep_set2 hgZ h0, keep_set2 hgZ h1, keep_set2 hgZ h2⟩)
                | go_keep)
              (fail)
            have hw2 := put_two (u := .string ⟨L[i].1.toArray⟩) (v := .bool L[i].2) HZ.out
            have hgZ2 : g2 ≠ wq.heap.size := by have := HBX.out.size; omega
            have HZ2 := Lib.hid hw2.here
            have HBZ2 := Lib.hid (hw2.below HBZ.out (Nat.le_refl _))
            have n0 := keep_set2 (u := .string ⟨L[i].1.toArray⟩) (v := .bool L[i].2) hgZ2 mh0
            have n2 := keep_set2 (u := .string ⟨L[i].1.toArray⟩) (v := .bool L[i].2) hgZ2 mh2
            clear hw2 z0 z1 f0 f1 h0 h1 h2 mh0 mh1 mh2
            generalize ((W1.setCell ⟨wq.heap.size, 0, none⟩ (.string ⟨L[i].1.toArray⟩)).setCell ⟨wq.heap.size, 1, none⟩ (.bool L[i].2)).drew = W5 at *
            have y0 : W5.cell? ⟨wq.heap.size, 0, none⟩ = some (.string ⟨L[i].1.toArray⟩) := Lib.cell_of_heap HZ2.out 0
            have yf : W5.frozen? ⟨wq.heap.size, 0, none⟩ = false := Lib.frozen_of_heap HZ2.out 0
            go_wp2_with fail
            go_still_tail 8, (by kernel_rfl)
            change wpList _ _ _ _ _ W5.drew
            have hbd : Below W5.heap.size W5 W5.drew := (Below.refl _ W5).drew
            have HZ6 : Hid (W5.drew.heap[wq.heap.size]? = some (.cells #[.string ⟨L[i].1.toArray⟩, .bool L[i].2] 62 (0, 0))) := HZ2
            have HB6 := Lib.hid (HBZ2.out.trans (hbd.mono HBZ2.out.size))
            have k2 := below_keep hbd n2
            clear hbd n0 n2 y0 yf HZ2 HBZ2
            generalize W5.drew = W6 at *
            go_wp2_with fail
            refine (lesser_any L[i].1 M[j].1 _).mono ?_
            rintro e w' ⟨rfl, rfl⟩
            go_wp2_with (first | (refine wl_put1 rfl 9 _ _ rfl wq.heap.size 0 #[.string ⟨L[i].1.toArray⟩, .bool L[i].2] _ HZ6.out (by simp) rfl (.string ⟨(V.lesser L[i].1 M[j].1).toArray⟩) rfl strSize rfl ?_; intro W2 hp2; have q2 := hp2.cell k2 hgZ2) | fail)
            have HW2 : Hid (W2.heap[wq.heap.size]? = some (.cells #[.string ⟨(V.lesser L[i].1 M[j].1).toArray⟩, .bool L[i].2] 62 (0, 0))) := Lib.hid hp2.here
            have hbw := hp2.below HB6.out (Nat.le_refl _)
            have HBW := Lib.hid (HBX.out.trans (hbw.mono HBX.out.size))
            have HR2 : Hid (BRow W2 w4.heap.size (.slice oa (V.alt (f xa xb) R).length oc) (V.alt (f xa xb) R)) := Lib.hid (GRow.below HRX.out hbw)
            clear hbw hp2 k2
            refine (HK.out (!V.par xa i) (!V.par xb j) W2).mono ?_
            rintro e w' ⟨rfl, rfl⟩
            have HST := Lib.hid (V.step_b (n := n) (f := f) (x := V.par xa i) (y := V.par xb j) hil hjl HZC.out)
            have HNEXT := Lib.hid (HINV.out.next (i' := (i + 1)) (j' := (j + 1)) (c := (V.lesser L[i].1 M[j].1, L[i].2)) (by omega) (by omega) HST.out (V.par_succ _ _) (V.par_succ _ _) (by omega))
            have HPX : Hid (V.par xa (i + 1) = !V.par xa i) := Lib.hid (V.par_succ _ _)
            have HPY : Hid (V.par xb (j + 1) = !V.par xb j) := Lib.hid (V.par_succ _ _)
            have hlenR := HINV.out.len
            rcases hnx : f (!V.par xa i) (!V.par xb j) with _ | _
            · have HNX := Lib.hid hnx
              clear hnx
              rcases hnw : V.par (f xa xb) R.length with _ | _
              · have HNW := Lib.hid hnw
                clear hnw
                have HIN := Lib.hid ((HNEXT.out _ W2 HBW.out).1 (by rw [HNX.out, HNW.out]) HR2.out)
                go_wp2
                go_roundw
                case rel => exact ⟨(i + 1), (j + 1), R, by go_num, by go_num, by rw [HPX.out], by rw [HPY.out], by rw [HNW.out], HIN.out⟩
                case measure => simp [intOf]; omega
              · have HNW := Lib.hid hnw
                clear hnw
                have HNB : Hid (∀ j0 u, (bordE ((V.lesser L[i].1 M[j].1, L[i].2), false))[j0]? = some u → (W2.alloc (.cells #[.string ⟨((V.lesser L[i].1 M[j].1, L[i].2) : V.Cut).1.toArray⟩, .bool ((V.lesser L[i].1 M[j].1, L[i].2) : V.Cut).2, .bool false] 89)).cell? ⟨W2.heap.size, j0, none⟩ = some u) := Lib.hid (fun j0 u hu => by rw [World.cell?_alloc_new]; simpa [bordE] using hu)
                have HBN := Lib.hid ((Below.refl W2.heap.size W2).alloc (Nat.le_refl _) (.cells #[.string ⟨((V.lesser L[i].1 M[j].1, L[i].2) : V.Cut).1.toArray⟩, .bool ((V.lesser L[i].1 M[j].1, L[i].2) : V.Cut).2, .bool false] 89))
                have c0 : W2.cell? ⟨wq.heap.size, 0, none⟩ = some (.string ⟨((V.lesser L[i].1 M[j].1, L[i].2) : V.Cut).1.toArray⟩) := Lib.cell_of_heap HW2.out 0
                have c1 : W2.cell? ⟨wq.heap.size, 1, none⟩ = some (.bool ((V.lesser L[i].1 M[j].1, L[i].2) : V.Cut).2) := Lib.cell_of_heap HW2.out 1
                go_wp2_with (first | (refine wl_appendG bordE_len (by decide) bordE_one bordInfo (by decide) rfl _ _ 85 rfl Tryz.underlying85 w4.heap.size (.slice oa (V.alt (f xa xb) R).length oc) (V.alt (f xa xb) R) rfl (GRow.below HR2.out HBN.out) W2.heap.size ((V.lesser L[i].1 M[j].1, L[i].2), false) rfl HNB.out (by rw [V.alt_len]; omega) (by have := HBW.out.size; have := HBN.out.size; omega) ?_; intro v9 W9 hr9 hg9) | fail)
                have hb9 : Below w4.heap.size w4 W9 := (HBW.out.trans (HBN.out.mono HBW.out.size)).trans (grown_below2 hg9 (GRow.block HR2.out) (Nat.le_refl _) (by have := HBW.out.size; have := HBN.out.size; omega))
                have HIN := Lib.hid ((HNEXT.out v9 W9 hb9).2 (by rw [HNX.out, HNW.out]; decide) (by rw [HNW.out]; exact hr9))
                have HPN : Hid (V.par (f xa xb) (R ++ [(V.lesser L[i].1 M[j].1, L[i].2)]).length = false) := Lib.hid (by rw [List.length_append, List.length_singleton, V.par_succ, HNW.out]; rfl)
                clear hr9 hg9 hb9 c0 c1
                go_roundw
                case rel => exact ⟨(i + 1), (j + 1), R ++ [(V.lesser L[i].1 M[j].1, L[i].2)], by go_num, by go_num, by rw [HPX.out], by rw [HPY.out], by rw [HPN.out], HIN.out⟩
                case measure => simp [intOf]; omega
            · have HNX := Lib.hid hnx
              clear hnx
              rcases hnw : V.par (f xa xb) R.length with _ | _
              · have HNW := Lib.hid hnw
                clear hnw
                have HNB : Hid (∀ j0 u, (bordE ((V.lesser L[i].1 M[j].1, L[i].2), true))[j0]? = some u → (W2.alloc (.cells #[.string ⟨((V.lesser L[i].1 M[j].1, L[i].2) : V.Cut).1.toArray⟩, .bool ((V.lesser L[i].1 M[j].1, L[i].2) : V.Cut).2, .bool true] 89)).cell? ⟨W2.heap.size, j0, none⟩ = some u) := Lib.hid (fun j0 u hu => by rw [World.cell?_alloc_new]; simpa [bordE] using hu)
                have HBN := Lib.hid ((Below.refl W2.heap.size W2).alloc (Nat.le_refl _) (.cells #[.string ⟨((V.lesser L[i].1 M[j].1, L[i].2) : V.Cut).1.toArray⟩, .bool ((V.lesser L[i].1 M[j].1, L[i].2) : V.Cut).2, .bool true] 89))
                have c0 : W2.cell? ⟨wq.heap.size, 0, none⟩ = some (.string ⟨((V.lesser L[i].1 M[j].1, L[i].2) : V.Cut).1.toArray⟩) := Lib.cell_of_heap HW2.out 0
                have c1 : W2.cell? ⟨wq.heap.size, 1, none⟩ = some (.bool ((V.lesser L[i].1 M[j].1, L[i].2) : V.Cut).2) := Lib.cell_of_heap HW2.out 1
                go_wp2_with (first | (refine wl_appendG bordE_len (by decide) bordE_one bordInfo (by decide) rfl _ _ 85 rfl Tryz.underlying85 w4.heap.size (.slice oa (V.alt (f xa xb) R).length oc) (V.alt (f xa xb) R) rfl (GRow.below HR2.out HBN.out) W2.heap.size ((V.lesser L[i].1 M[j].1, L[i].2), true) rfl HNB.out (by rw [V.alt_len]; omega) (by have := HBW.out.size; have := HBN.out.size; omega) ?_; intro v9 W9 hr9 hg9) | fail)
                have hb9 : Below w4.heap.size w4 W9 := (HBW.out.trans (HBN.out.mono HBW.out.size)).trans (grown_below2 hg9 (GRow.block HR2.out) (Nat.le_refl _) (by have := HBW.out.size; have := HBN.out.size; omega))
                have HIN := Lib.hid ((HNEXT.out v9 W9 hb9).2 (by rw [HNX.out, HNW.out]; decide) (by rw [HNW.out]; exact hr9))
                have HPN : Hid (V.par (f xa xb) (R ++ [(V.lesser L[i].1 M[j].1, L[i].2)]).length = true) := Lib.hid (by rw [List.length_append, List.length_singleton, V.par_succ, HNW.out]; rfl)
                clear hr9 hg9 hb9 c0 c1
                go_roundw
                case rel => exact ⟨(i + 1), (j + 1), R ++ [(V.lesser L[i].1 M[j].1, L[i].2)], by go_num, by go_num, by rw [HPX.out], by rw [HPY.out], by rw [HPN.out], HIN.out⟩
                case measure => simp [intOf]; omega
              · have HNW := Lib.hid hnw
                clear hnw
                have HIN := Lib.hid ((HNEXT.out _ W2 HBW.out).1 (by rw [HNX.out, HNW.out]) HR2.out)
                go_wp2
                go_roundw
                case rel => exact ⟨(i + 1), (j + 1), R, by go_num, by go_num, by rw [HPX.out], by rw [HPY.out], by rw [HNW.out], HIN.out⟩
                case measure => simp [intOf]; omega
      · obtain rfl : j = M.length := by omega
        have HBX := Lib.hid HINV.out.below
        have HRX := Lib.hid HINV.out.row
        obtain ⟨g, off, rfl, hgl, h0, h1, h2⟩ := HL3.out.at i (by rw [HLL.out]; exact hil)
        have hge : (V.alt xa L)[i]'(by rw [HLL.out]; exact hil) = (L[i], !V.par xa i) := by
          have h1 := V.alt_at xa L i hil
          have := List.getElem?_eq_getElem (l := V.alt xa L) (i := i) (by rw [HLL.out]; exact hil)
          rw [h1, V.par_succ] at this
          exact (Option.some.inj this).symm
        rw [hge] at h0 h1 h2
        replace h0 := below_keep HINV.out.below h0
        replace h1 := below_keep HINV.out.below h1
        replace h2 := below_keep HINV.out.below h2
        have hi1 : (0 : Int) ≤ (i : Int) := by omega
        have hi2 : (i : Int) < (L.length : Int) := by omega
        clear hge
        have hbZ : Below wr.heap.size wr (wr.alloc (.cells #[.string ⟨#[]⟩, .bool false] 62)) := (Below.refl _ wr).alloc (Nat.le_refl _) _
        replace h0 := below_keep hbZ h0
        replace h1 := below_keep hbZ h1
        replace h2 := below_keep hbZ h2
        have z0 : (wr.alloc (.cells #[.string ⟨#[]⟩, .bool false] 62)).cell? ⟨wr.heap.size, 0, none⟩ = some (.string ⟨#[]⟩) := by rw [World.cell?_alloc_new]; rfl
        have z1 : (wr.alloc (.cells #[.string ⟨#[]⟩, .bool false] 62)).cell? ⟨wr.heap.size, 1, none⟩ = some (.bool false) := by rw [World.cell?_alloc_new]; rfl
        have f0 : (wr.alloc (.cells #[.string ⟨#[]⟩, .bool false] 62)).frozen? ⟨wr.heap.size, 0, none⟩ = false := by rw [frozen_alloc, if_pos rfl]
        have f1 : (wr.alloc (.cells #[.string ⟨#[]⟩, .bool false] 62)).frozen? ⟨wr.heap.size, 1, none⟩ = false := by rw [frozen_alloc, if_pos rfl]
        have HZ : Hid ((wr.alloc (.cells #[.string ⟨#[]⟩, .bool false] 62)).heap[wr.heap.size]? = some (.cells #[.string ⟨#[]⟩, .bool false] 62 (0, 0))) := Lib.hid (by rw [heap_alloc, if_pos rfl])
        have HBZ := Lib.hid hbZ
        have hgZ : g ≠ wr.heap.size := by have := HBX.out.size; omega
        clear hbZ
        go_wp2_with fail
        generalize wr.alloc (.cells #[.string ⟨#[]⟩, .bool false] 62) = W1 at *
        go_region_held3 (fun W' => W'.cell? ⟨g, off + i * 3, none⟩ = some (.string ⟨L[i].1.toArray⟩) ∧ W'.cell? ⟨g, off + i * 3 + 1, none⟩ = some (.bool L[i].2) ∧ W'.cell? ⟨g, off + i * 3 + 2, none⟩ = some (.bool (!V.par xa i)))
          (first
            | (exact ⟨h0, h1, h2⟩)
            | (exact ⟨keep_set2 hgZ h0, keep_set2 hgZ h1, keep_set2 hgZ h2⟩)
            | go_keep)
          (fail)
        have hw2 := put_two (u := .string ⟨L[i].1.toArray⟩) (v := .bool L[i].2) HZ.out
        have HW2 := Lib.hid hw2.here
        have HBW := Lib.hid (HBX.out.trans (hw2.below HBZ.out (Nat.le_refl _) |>.mono HBX.out.size))
        have HR2 : Hid (BRow (((W1.setCell ⟨wr.heap.size, 0, none⟩ (.string ⟨L[i].1.toArray⟩)).setCell ⟨wr.heap.size, 1, none⟩ (.bool L[i].2)).drew) w4.heap.size (.slice oa (V.alt (f xa xb) R).length oc) (V.alt (f xa xb) R)) := Lib.hid (GRow.below HRX.out (hw2.below HBZ.out (Nat.le_refl _)))
        clear hw2 z0 z1 f0 f1 h0 h1 h2
        generalize ((W1.setCell ⟨wr.heap.size, 0, none⟩ (.string ⟨L[i].1.toArray⟩)).setCell ⟨wr.heap.size, 1, none⟩ (.bool L[i].2)).drew = W2 at *
        go_wp2_with fail
        refine (HK.out (!V.par xa i) (V.par xb M.length) W2).mono ?_
        rintro e w' ⟨rfl, rfl⟩
        have HST := Lib.hid (V.step_l (n := n) (f := f) (x := V.par xa i) (y := V.par xb M.length) (M := M) (j := M.length) hil (.inl rfl))
        have HNEXT := Lib.hid (HINV.out.next (i' := (i + 1)) (j' := M.length) (c := L[i]) (by omega) (by omega) HST.out (V.par_succ _ _) rfl (by omega))
        have HPX : Hid (V.par xa (i + 1) = !V.par xa i) := Lib.hid (V.par_succ _ _)
        have HPY : Hid (V.par xb (M.length + 1) = !V.par xb M.length) := Lib.hid (V.par_succ _ _)
        have hlenR := HINV.out.len
        rcases hnx : f (!V.par xa i) (V.par xb M.length) with _ | _
        · have HNX := Lib.hid hnx
          clear hnx
          rcases hnw : V.par (f xa xb) R.length with _ | _
          · have HNW := Lib.hid hnw
            clear hnw
            have HIN := Lib.hid ((HNEXT.out _ W2 HBW.out).1 (by rw [HNX.out, HNW.out]) HR2.out)
            go_wp2
            go_roundw
            case rel => exact ⟨(i + 1), M.length, R, by go_num, by go_num, by rw [HPX.out], rfl, by rw [HNW.out], HIN.out⟩
            case measure => simp [intOf]; omega
          · have HNW := Lib.hid hnw
            clear hnw
            have HNB : Hid (∀ j0 u, (bordE (L[i], false))[j0]? = some u → (W2.alloc (.cells #[.string ⟨(L[i] : V.Cut).1.toArray⟩, .bool (L[i] : V.Cut).2, .bool false] 89)).cell? ⟨W2.heap.size, j0, none⟩ = some u) := Lib.hid (fun j0 u hu => by rw [World.cell?_alloc_new]; simpa [bordE] using hu)
            have HBN := Lib.hid ((Below.refl W2.heap.size W2).alloc (Nat.le_refl _) (.cells #[.string ⟨(L[i] : V.Cut).1.toArray⟩, .bool (L[i] : V.Cut).2, .bool false] 89))
            have c0 : W2.cell? ⟨wr.heap.size, 0, none⟩ = some (.string ⟨(L[i] : V.Cut).1.toArray⟩) := Lib.cell_of_heap HW2.out 0
            have c1 : W2.cell? ⟨wr.heap.size, 1, none⟩ = some (.bool (L[i] : V.Cut).2) := Lib.cell_of_heap HW2.out 1
            go_wp2_with (first | (refine wl_appendG bordE_len (by decide) bordE_one bordInfo (by decide) rfl _ _ 85 rfl Tryz.underlying85 w4.heap.size (.slice oa (V.alt (f xa xb) R).length oc) (V.alt (f xa xb) R) rfl (GRow.below HR2.out HBN.out) W2.heap.size (L[i], false) rfl HNB.out (by rw [V.alt_len]; omega) (by have := HBW.out.size; have := HBN.out.size; omega) ?_; intro v9 W9 hr9 hg9) | fail)
            have hb9 : Below w4.heap.size w4 W9 := (HBW.out.trans (HBN.out.mono HBW.out.size)).trans (grown_below2 hg9 (GRow.block HR2.out) (Nat.le_refl _) (by have := HBW.out.size; have := HBN.out.size; omega))
            have HIN := Lib.hid ((HNEXT.out v9 W9 hb9).2 (by rw [HNX.out, HNW.out]; decide) (by rw [HNW.out]; exact hr9))
            have HPN : Hid (V.par (f xa xb) (R ++ [L[i]]).length = false) := Lib.hid (by rw [List.length_append, List.length_singleton, V.par_succ, HNW.out]; rfl)
            clear hr9 hg9 hb9 c0 c1
            go_roundw
            case rel => exact ⟨(i + 1), M.length, R ++ [L[i]], by go_num, by go_num, by rw [HPX.out], rfl, by rw [HPN.out], HIN.out⟩
            case measure => simp [intOf]; omega
        · have HNX := Lib.hid hnx
          clear hnx
          rcases hnw : V.par (f xa xb) R.length with _ | _
          · have HNW := Lib.hid hnw
            clear hnw
            have HNB : Hid (∀ j0 u, (bordE (L[i], true))[j0]? = some u → (W2.alloc (.cells #[.string ⟨(L[i] : V.Cut).1.toArray⟩, .bool (L[i] : V.Cut).2, .bool true] 89)).cell? ⟨W2.heap.size, j0, none⟩ = some u) := Lib.hid (fun j0 u hu => by rw [World.cell?_alloc_new]; simpa [bordE] using hu)
            have HBN := Lib.hid ((Below.refl W2.heap.size W2).alloc (Nat.le_refl _) (.cells #[.string ⟨(L[i] : V.Cut).1.toArray⟩, .bool (L[i] : V.Cut).2, .bool true] 89))
            have c0 : W2.cell? ⟨wr.heap.size, 0, none⟩ = some (.string ⟨(L[i] : V.Cut).1.toArray⟩) := Lib.cell_of_heap HW2.out 0
            have c1 : W2.cell? ⟨wr.heap.size, 1, none⟩ = some (.bool (L[i] : V.Cut).2) := Lib.cell_of_heap HW2.out 1
            go_wp2_with (first | (refine wl_appendG bordE_len (by decide) bordE_one bordInfo (by decide) rfl _ _ 85 rfl Tryz.underlying85 w4.heap.size (.slice oa (V.alt (f xa xb) R).length oc) (V.alt (f xa xb) R) rfl (GRow.below HR2.out HBN.out) W2.heap.size (L[i], true) rfl HNB.out (by rw [V.alt_len]; omega) (by have := HBW.out.size; have := HBN.out.size; omega) ?_; intro v9 W9 hr9 hg9) | fail)
            have hb9 : Below w4.heap.size w4 W9 := (HBW.out.trans (HBN.out.mono HBW.out.size)).trans (grown_below2 hg9 (GRow.block HR2.out) (Nat.le_refl _) (by have := HBW.out.size; have := HBN.out.size; omega))
            have HIN := Lib.hid ((HNEXT.out v9 W9 hb9).2 (by rw [HNX.out, HNW.out]; decide) (by rw [HNW.out]; exact hr9))
            have HPN : Hid (V.par (f xa xb) (R ++ [L[i]]).length = true) := Lib.hid (by rw [List.length_append, List.length_singleton, V.par_succ, HNW.out]; rfl)
            clear hr9 hg9 hb9 c0 c1
            go_roundw
            case rel => exact ⟨(i + 1), M.length, R ++ [L[i]], by go_num, by go_num, by rw [HPX.out], rfl, by rw [HPN.out], HIN.out⟩
            case measure => simp [intOf]; omega
          · have HNW := Lib.hid hnw
            clear hnw
            have HIN := Lib.hid ((HNEXT.out _ W2 HBW.out).1 (by rw [HNX.out, HNW.out]) HR2.out)
            go_wp2
            go_roundw
            case rel => exact ⟨(i + 1), M.length, R, by go_num, by go_num, by rw [HPX.out], rfl, by rw [HNW.out], HIN.out⟩
            case measure => simp [intOf]; omega
    · obtain rfl : i = L.length := by omega
      by_cases hjl : j < M.length
      · have HBX := Lib.hid HINV.out.below
        have HRX := Lib.hid HINV.out.row
        have hq1 : ((j : Int) == (M.length : Int)) = false := by rw [beq_eq_false_iff_ne]; omega
        obtain ⟨g2, off2, rfl, mhgl, mh0, mh1, mh2⟩ := HM3.out.at j (by rw [HML.out]; exact hjl)
        have mhge : (V.alt xb M)[j]'(by rw [HML.out]; exact hjl) = (M[j], !V.par xb j) := by
          have h1 := V.alt_at xb M j hjl
          have := List.getElem?_eq_getElem (l := V.alt xb M) (i := j) (by rw [HML.out]; exact hjl)
          rw [h1, V.par_succ] at this
          exact (Option.some.inj this).symm
        rw [mhge] at mh0 mh1 mh2
        replace mh0 := below_keep HINV.out.below mh0
        replace mh1 := below_keep HINV.out.below mh1
        replace mh2 := below_keep HINV.out.below mh2
        have mhi1 : (0 : Int) ≤ (j : Int) := by omega
        have mhi2 : (j : Int) < (M.length : Int) := by omega
        clear mhge
        have hbN : Below wr.heap.size wr (wr.alloc (.cells #[.string ⟨M[j].1.toArray⟩, .bool M[j].2] 62)) := (Below.refl _ wr).alloc (Nat.le_refl _) _
        have mk2 := below_keep hbN mh2
        have hbZ : Below wr.heap.size wr (wr.alloc (.cells #[.string ⟨#[]⟩, .bool false] 62)) := (Below.refl _ wr).alloc (Nat.le_refl _) _
        replace mh0 := below_keep hbZ mh0
        replace mh1 := below_keep hbZ mh1
        replace mh2 := below_keep hbZ mh2
        have HW2 : Hid ((wr.alloc (.cells #[.string ⟨M[j].1.toArray⟩, .bool M[j].2] 62)).heap[wr.heap.size]? = some (.cells #[.string ⟨M[j].1.toArray⟩, .bool M[j].2] 62 (0, 0))) := Lib.hid (by rw [heap_alloc, if_pos rfl])
        have HBW := Lib.hid (HBX.out.trans (hbN.mono HBX.out.size))
        have HR2 : Hid (BRow (wr.alloc (.cells #[.string ⟨M[j].1.toArray⟩, .bool M[j].2] 62)) w4.heap.size (.slice oa (V.alt (f xa xb) R).length oc) (V.alt (f xa xb) R)) := Lib.hid (GRow.below HRX.out hbN)
        have hgZ2 : g2 ≠ wr.heap.size := by have := HBX.out.size; omega
        clear hbN hbZ
        go_wp2_with fail
        generalize wr.alloc (.cells #[.string ⟨M[j].1.toArray⟩, .bool M[j].2] 62) = W2 at *
        refine (HK.out (V.par xa L.length) (!V.par xb j) W2).mono ?_
        rintro e w' ⟨rfl, rfl⟩
        have HST := Lib.hid (V.step_r (n := n) (f := f) (x := V.par xa L.length) (y := V.par xb j) (L := L) (i := L.length) hjl (.inl rfl))
        have HNEXT := Lib.hid (HINV.out.next (i' := L.length) (j' := (j + 1)) (c := M[j]) (by omega) (by omega) HST.out rfl (V.par_succ _ _) (by omega))
        have HPX : Hid (V.par xa (L.length + 1) = !V.par xa L.length) := Lib.hid (V.par_succ _ _)
        have HPY : Hid (V.par xb (j + 1) = !V.par xb j) := Lib.hid (V.par_succ _ _)
        have hlenR := HINV.out.len
        rcases hnx : f (V.par xa L.length) (!V.par xb j) with _ | _
        · have HNX := Lib.hid hnx
          clear hnx
          rcases hnw : V.par (f xa xb) R.length with _ | _
          · have HNW := Lib.hid hnw
            clear hnw
            have HIN := Lib.hid ((HNEXT.out _ W2 HBW.out).1 (by rw [HNX.out, HNW.out]) HR2.out)
            go_wp2
            go_roundw
            case rel => exact ⟨L.length, (j + 1), R, by go_num, by go_num, rfl, by rw [HPY.out], by rw [HNW.out], HIN.out⟩
            case measure => simp [intOf]; omega
          · have HNW := Lib.hid hnw
            clear hnw
            have HNB : Hid (∀ j0 u, (bordE (M[j], false))[j0]? = some u → (W2.alloc (.cells #[.string ⟨(M[j] : V.Cut).1.toArray⟩, .bool (M[j] : V.Cut).2, .bool false] 89)).cell? ⟨W2.heap.size, j0, none⟩ = some u) := Lib.hid (fun j0 u hu => by rw [World.cell?_alloc_new]; simpa [bordE] using hu)
            have HBN := Lib.hid ((Below.refl W2.heap.size W2).alloc (Nat.le_refl _) (.cells #[.string ⟨(M[j] : V.Cut).1.toArray⟩, .bool (M[j] : V.Cut).2, .bool false] 89))
            have c0 : W2.cell? ⟨wr.heap.size, 0, none⟩ = some (.string ⟨(M[j] : V.Cut).1.toArray⟩) := Lib.cell_of_heap HW2.out 0
            have c1 : W2.cell? ⟨wr.heap.size, 1, none⟩ = some (.bool (M[j] : V.Cut).2) := Lib.cell_of_heap HW2.out 1
            go_wp2_with (first | (refine wl_appendG bordE_len (by decide) bordE_one bordInfo (by decide) rfl _ _ 85 rfl Tryz.underlying85 w4.heap.size (.slice oa (V.alt (f xa xb) R).length oc) (V.alt (f xa xb) R) rfl (GRow.below HR2.out HBN.out) W2.heap.size (M[j], false) rfl HNB.out (by rw [V.alt_len]; omega) (by have := HBW.out.size; have := HBN.out.size; omega) ?_; intro v9 W9 hr9 hg9) | fail)
            have hb9 : Below w4.heap.size w4 W9 := (HBW.out.trans (HBN.out.mono HBW.out.size)).trans (grown_below2 hg9 (GRow.block HR2.out) (Nat.le_refl _) (by have := HBW.out.size; have := HBN.out.size; omega))
            have HIN := Lib.hid ((HNEXT.out v9 W9 hb9).2 (by rw [HNX.out, HNW.out]; decide) (by rw [HNW.out]; exact hr9))
            have HPN : Hid (V.par (f xa xb) (R ++ [M[j]]).length = false) := Lib.hid (by rw [List.length_append, List.length_singleton, V.par_succ, HNW.out]; rfl)
            clear hr9 hg9 hb9 c0 c1
            go_roundw
            case rel => exact ⟨L.length, (j + 1), R ++ [M[j]], by go_num, by go_num, rfl, by rw [HPY.out], by rw [HPN.out], HIN.out⟩
            case measure => simp [intOf]; omega
        · have HNX := Lib.hid hnx
          clear hnx
          rcases hnw : V.par (f xa xb) R.length with _ | _
          · have HNW := Lib.hid hnw
            clear hnw
            have HNB : Hid (∀ j0 u, (bordE (M[j], true))[j0]? = some u → (W2.alloc (.cells #[.string ⟨(M[j] : V.Cut).1.toArray⟩, .bool (M[j] : V.Cut).2, .bool true] 89)).cell? ⟨W2.heap.size, j0, none⟩ = some u) := Lib.hid (fun j0 u hu => by rw [World.cell?_alloc_new]; simpa [bordE] using hu)
            have HBN := Lib.hid ((Below.refl W2.heap.size W2).alloc (Nat.le_refl _) (.cells #[.string ⟨(M[j] : V.Cut).1.toArray⟩, .bool (M[j] : V.Cut).2, .bool true] 89))
            have c0 : W2.cell? ⟨wr.heap.size, 0, none⟩ = some (.string ⟨(M[j] : V.Cut).1.toArray⟩) := Lib.cell_of_heap HW2.out 0
            have c1 : W2.cell? ⟨wr.heap.size, 1, none⟩ = some (.bool (M[j] : V.Cut).2) := Lib.cell_of_heap HW2.out 1
            go_wp2_with (first | (refine wl_appendG bordE_len (by decide) bordE_one bordInfo (by decide) rfl _ _ 85 rfl Tryz.underlying85 w4.heap.size (.slice oa (V.alt (f xa xb) R).length oc) (V.alt (f xa xb) R) rfl (GRow.below HR2.out HBN.out) W2.heap.size (M[j], true) rfl HNB.out (by rw [V.alt_len]; omega) (by have := HBW.out.size; have := HBN.out.size; omega) ?_; intro v9 W9 hr9 hg9) | fail)
            have hb9 : Below w4.heap.size w4 W9 := (HBW.out.trans (HBN.out.mono HBW.out.size)).trans (grown_below2 hg9 (GRow.block HR2.out) (Nat.le_refl _) (by have := HBW.out.size; have := HBN.out.size; omega))
            have HIN := Lib.hid ((HNEXT.out v9 W9 hb9).2 (by rw [HNX.out, HNW.out]; decide) (by rw [HNW.out]; exact hr9))
            have HPN : Hid (V.par (f xa xb) (R ++ [M[j]]).length = true) := Lib.hid (by rw [List.length_append, List.length_singleton, V.par_succ, HNW.out]; rfl)
            clear hr9 hg9 hb9 c0 c1
            go_roundw
            case rel => exact ⟨L.length, (j + 1), R ++ [M[j]], by go_num, by go_num, rfl, by rw [HPY.out], by rw [HPN.out], HIN.out⟩
            case measure => simp [intOf]; omega
          · have HNW := Lib.hid hnw
            clear hnw
            have HIN := Lib.hid ((HNEXT.out _ W2 HBW.out).1 (by rw [HNX.out, HNW.out]) HR2.out)
            go_wp2
            go_roundw
            case rel => exact ⟨L.length, (j + 1), R, by go_num, by go_num, rfl, by rw [HPY.out], by rw [HNW.out], HIN.out⟩
            case measure => simp [intOf]; omega
      · obtain rfl : j = M.length := by omega
        have HRES : Hid (V.comb n f xa xb (f xa xb) L M = R) := Lib.hid (by
          rw [HINV.out.res, List.drop_length, List.drop_length, V.comb, List.append_nil])
        have hsc : wr.cell? ⟨w.heap.size, 0, none⟩ = some (.int .i64 n) := Lib.cell_of_heap ((HINV.out.below.block _ (Array.getElem?_eq_some_iff.1 HK3.out.1).1).trans HK3.out.1) 0
        have HK6 := Lib.hid ((HINV.out.below.block _ (Array.getElem?_eq_some_iff.1 HK3.out.2).1).trans HK3.out.2)
        have hlen := HINV.out.len
        have HBW := Lib.hid (HB3.out.trans (HINV.out.below.mono HB3.out.size))
        go_wp2_with fail
        refine (rgBuilt_any n (f xa xb) _ R wr (BRow.bords HINV.out.row) (by omega)).mono ?_
        rintro e W9 ⟨u, rfl, hu, how, hb9⟩
        obtain ⟨ua, uc, rfl⟩ := hu.slice
        have HOW := Lib.hid how
        have hszr := (Array.getElem?_eq_some_iff.1 HK6.out).1
        have HU := Lib.hid hu
        have HK9 := Lib.hid ((hb9.block _ (Array.getElem?_eq_some_iff.1 HK6.out).1).trans HK6.out)
        have HB9 := Lib.hid (HBW.out.trans (hb9.mono HBW.out.size))
        clear hu hb9 hsc how
        unfold setV
        go_wp2_with (first | (refine wl_putRow rfl 25 _ _ rfl (w.heap.size + 1 + 1) #[.int .i64 0, .slice none 0 0] _ HK9.out rfl #[.int .i64 n, .slice ua (V.ofC (V.start (f xa xb)) R).length uc] rfl rfl (by kernel_rfl) (setC_all _ _ _ _) ?_; intro W2 hp2; have z0 : W2.cell? ⟨w.heap.size + 1 + 1, 0, none⟩ = some (.int .i64 n) := Lib.cell_of_heap hp2.here 0; have z1 : W2.cell? ⟨w.heap.size + 1 + 1, 1, none⟩ = some (.slice ua (V.ofC (V.start (f xa xb)) R).length uc) := Lib.cell_of_heap hp2.here 1) | fail)
        have HIV : Hid (Itvs W2 (.slice ua (V.ofC (V.start (f xa xb)) R).length uc) (V.opL n f a b)) := Lib.hid (by rw [HOP.out, HRES.out]; exact hp2.itvs HU.out (fun c hc => by have := HOW.out c hc; omega))
        have HBF := Lib.hid (hp2.below HB9.out (by omega))
        have HOF : Hid (∀ c, (Value.slice ua (V.ofC (V.start (f xa xb)) R).length uc).ownBlock = some c → w.heap.size ≤ c) := Lib.hid (fun c hc => by have := HOW.out c hc; omega)
        clear hp2
        exact bodyPost_ret (v := .agg #[.int .i64 n, .slice ua (V.ofC (V.start (f xa xb)) R).length uc]) (by simp [results, Tryz.results41, go_sem, z0, z1]) rfl ⟨_, rfl, HIV.out, HOF.out, HBF.out⟩
end Go.Proofs.YtolojkkhmamddaaGreatDoor
namespace Go.Proofs.YtolojkkhmamddaaGreatDoor
open Go.RowKit

theorem rgMinus_f (x y : Bool) (w : World) : Calls Tryz.prog 42 #[.bool x, .bool y] w fun e w' => e = .returned (.bool (V.minusF x y)) ∧ w = w' := by
  cases x <;> cases y
  all_goals
    go_enter Tryz.func42, Tryz.ntmps42
    go_wp2
    go_ret
    exact ⟨rfl, rfl⟩
theorem rgUnion_f (x y : Bool) (w : World) : Calls Tryz.prog 44 #[.bool x, .bool y] w fun e w' => e = .returned (.bool (V.orF x y)) ∧ w = w' := by
  cases x <;> cases y
  all_goals
    go_enter Tryz.func44, Tryz.ntmps44
    go_wp2
    go_ret
    exact ⟨rfl, rfl⟩
theorem rgIntersect_f (x y : Bool) (w : World) : Calls Tryz.prog 49 #[.bool x, .bool y] w fun e w' => e = .returned (.bool (V.andF x y)) ∧ w = w' := by
  cases x <;> cases y
  all_goals
    go_enter Tryz.func49, Tryz.ntmps49
    go_wp2
    go_ret
    exact ⟨rfl, rfl⟩
theorem rgComplement_f (x y : Bool) (w : World) : Calls Tryz.prog 51 #[.bool x, .bool y] w fun e w' => e = .returned (.bool (V.notF x y)) ∧ w = w' := by
  cases x <;> cases y
  all_goals
    go_enter Tryz.func51, Tryz.ntmps51
    go_wp2
    go_ret
    exact ⟨rfl, rfl⟩

/-- a range set that a call returns with an error's code: (scheme, intervals, code) -/
def SetPost (r : Int × List V.Itv × Int) (w : World) (e : Ending) (w' : World) : Prop :=
  ∃ u, e = .returned (.tuple #[setV r.1 u, .int .i64 r.2.2]) ∧ Itvs w' u r.2.1 ∧ (∀ c, u.ownBlock = some c → w.heap.size ≤ c) ∧ Below w.heap.size w w'
theorem SetPost.zero {w w' : World} (h : Below w.heap.size w w') (k : Int) : SetPost (0, [], k) w (.returned (.tuple #[setV 0 (.slice none 0 0), .int .i64 k])) w' :=
  ⟨_, rfl, Itvs.nil _, (fun c hc => by cases hc), h⟩

def LimPost (n : Int) (v : Value) (l : List V.Itv) (w : World) (e : Ending) (w' : World) : Prop :=
  ∃ u, e = .returned (.tuple #[setV (V.limP n l).1 u, .int .i64 (V.limP n l).2.2]) ∧ (u = v ∧ (V.limP n l).2.1 = l ∨ u = .slice none 0 0 ∧ (V.limP n l).2.1 = []) ∧ Below w.heap.size w w'
set_option maxRecDepth 100000 in
theorem rgLimited_any (n : Int) (v : Value) (l : List V.Itv) (w : World) (hv : Itvs w v l) (hl : l.length ≤ 1000) :
    Calls Tryz.prog 50 #[setV n v] w (LimPost n v l w) := by
  obtain ⟨a, cap, rfl⟩ := hv.slice
  unfold setV
  have hb0 : Below w.heap.size w ((w.alloc (.cells #[.int .i64 n, .slice a l.length cap] 25)).alloc (.cells #[.int .i64 n, .slice a l.length cap] 25)) := ((Below.refl _ _).alloc (Nat.le_refl _) _).alloc (by simp) _
  have hb1 : Below w.heap.size w ((w.alloc (.cells #[.int .i64 n, .slice a l.length cap] 25)).alloc (.cells #[.int .i64 0, .slice none 0 0] 25)) := ((Below.refl _ _).alloc (Nat.le_refl _) _).alloc (by simp) _
  have HB0 := Lib.hid hb0
  have HB1 := Lib.hid hb1
  clear hb0 hb1 hv
  by_cases h32 : 32 < l.length
  · have HR : Hid (V.limP n l = (0, [], 3)) := Lib.hid (by unfold V.limP; rw [if_neg (by omega)])
    go_enter Tryz.func50, Tryz.ntmps50
    go_wp2
    exact bodyPost_ret (v := .tuple #[.agg #[.int .i64 0, .slice none 0 0], .int .i64 3]) (by simp [results, Tryz.results50, go_sem]) rfl (by unfold LimPost; rw [HR.out]; exact ⟨_, rfl, .inr ⟨rfl, rfl⟩, HB1.out⟩)
  · have HR : Hid (V.limP n l = (n, l, 0)) := Lib.hid (by unfold V.limP; rw [if_pos (by omega)])
    go_enter Tryz.func50, Tryz.ntmps50
    go_wp2
    exact bodyPost_ret (v := .tuple #[.agg #[.int .i64 n, .slice a l.length cap], .int .i64 0]) (by simp [results, Tryz.results50, go_sem]) rfl (by unfold LimPost; rw [HR.out]; exact ⟨_, rfl, .inl ⟨rfl, rfl⟩, HB0.out⟩)

set_option maxRecDepth 100000 in
set_option maxHeartbeats 1600000 in
theorem rgCheck_any (n m : Int) (va vb : Value) (a b : List V.Itv) (w : World) (hm : MaxOk w) (hva : Itvs w va a) (hvb : Itvs w vb b) (hsa : Lens a) (hsb : Lens b) (hla : a.length ≤ maxLen) (hlb : b.length ≤ maxLen) :
    Calls Tryz.prog 40 #[setV n va, setV m vb] w fun e w' => e = .returned (.int .i64 (V.chkP n a m b)) ∧ Below w.heap.size w w' := by
  have HVA := Lib.hid hva
  have HVB := Lib.hid hvb
  obtain ⟨aa, ac, rfl⟩ := hva.slice
  obtain ⟨ba, bc, rfl⟩ := hvb.slice
  have HSA := Lib.hid hsa
  have HSB := Lib.hid hsb
  have HLA := Lib.hid hla
  have HLB := Lib.hid hlb
  have HF : Hid (V.chkP n a m b = if V.okR n a && V.okR m b then (if n = m then 0 else 14) else 1) := Lib.hid rfl
  obtain ⟨hb0, hc0, _, hz0⟩ := two_alloc w #[.int .i64 n, .slice aa a.length ac] #[.int .i64 m, .slice ba b.length bc] 25 25
  have c0 : ((w.alloc (.cells #[.int .i64 n, .slice aa a.length ac] 25)).alloc (.cells #[.int .i64 m, .slice ba b.length bc] 25)).cell? ⟨w.heap.size, 0, none⟩ = some (.int .i64 n) := by simp [cell_alloc]
  have d0 : ((w.alloc (.cells #[.int .i64 n, .slice aa a.length ac] 25)).alloc (.cells #[.int .i64 m, .slice ba b.length bc] 25)).cell? ⟨w.heap.size + 1, 0, none⟩ = some (.int .i64 m) := by rw [hc0]; rfl
  have d1 : ((w.alloc (.cells #[.int .i64 n, .slice aa a.length ac] 25)).alloc (.cells #[.int .i64 m, .slice ba b.length bc] 25)).cell? ⟨w.heap.size + 1, 1, none⟩ = some (.slice ba b.length bc) := by rw [hc0]; rfl
  have HB0 := Lib.hid hb0
  have HM0 := Lib.hid (hm.below hb0)
  clear hva hvb hsa hsb hla hlb hm hc0 hb0 hz0
  unfold setV
  go_enter Tryz.func40, Tryz.ntmps40
  go_wp2_with fail
  generalize (w.alloc (.cells #[.int .i64 n, .slice aa a.length ac] 25)).alloc (.cells #[.int .i64 m, .slice ba b.length bc] 25) = w0 at *
  refine (rgValid_any n (.slice aa a.length ac) a w0 HM0.out (HVA.out.below HB0.out) HSA.out HLA.out).mono ?_
  rintro e w1 ⟨rfl, hb1⟩
  have k0 := below_keep hb1 c0
  have k1 := below_keep hb1 d0
  have k2 := below_keep hb1 d1
  have HB1 := Lib.hid (HB0.out.trans (hb1.mono HB0.out.size))
  have HM1 := Lib.hid (HM0.out.below hb1)
  clear hb1 c0 d0 d1
  rcases hok : V.okR n a with _ | _
  · have HR : Hid (V.chkP n a m b = 1) := Lib.hid (by rw [HF.out, hok]; rfl)
    clear hok
    go_wp2
    go_ret
    exact ⟨ret_int HR.out.symm, HB1.out⟩
  · have HOK := Lib.hid hok
    clear hok
    go_wp2_with fail
    refine (rgValid_any m (.slice ba b.length bc) b w1 HM1.out (HVB.out.below HB1.out) HSB.out HLB.out).mono ?_
    rintro e w2 ⟨rfl, hb2⟩
    have j0 := below_keep hb2 k0
    have j1 := below_keep hb2 k1
    have HB2 := Lib.hid (HB1.out.trans (hb2.mono HB1.out.size))
    clear hb2 k0 k1 k2
    rcases hok2 : V.okR m b with _ | _
    · have HR : Hid (V.chkP n a m b = 1) := Lib.hid (by rw [HF.out, HOK.out, hok2]; rfl)
      clear hok2
      go_wp2
      go_ret
      exact ⟨ret_int HR.out.symm, HB2.out⟩
    · have HOK2 := Lib.hid hok2
      clear hok2
      by_cases hnm : n = m
      · have HR : Hid (V.chkP n a m b = 0) := Lib.hid (by rw [HF.out, HOK.out, HOK2.out, hnm]; simp)
        have hq : (n != m) = false := by simp [hnm]
        clear hnm
        go_wp2
        go_ret
        exact ⟨ret_int HR.out.symm, HB2.out⟩
      · have HR : Hid (V.chkP n a m b = 14) := Lib.hid (by rw [HF.out, HOK.out, HOK2.out]; simp [hnm])
        have hq : (n != m) = true := by simpa using hnm
        clear hnm
        go_wp2
        go_ret
        exact ⟨ret_int HR.out.symm, HB2.out⟩

set_option maxRecDepth 100000 in
set_option maxHeartbeats 1600000 in
theorem rgOperate_any (n m : Int) (va vb : Value) (a b : List V.Itv) (K : Nat) (f : Bool → Bool → Bool) (w : World) (hm : MaxOk w) (hva : Itvs w va a) (hvb : Itvs w vb b) (hsa : Lens a) (hsb : Lens b) (hla : a.length ≤ maxLen) (hlb : b.length ≤ maxLen)
    (eg : ∀ args w, (callFunc K args).run Tryz.prog w = .ok (.enter K args) w) (hK : ∀ (x y : Bool) W, Calls Tryz.prog K #[.bool x, .bool y] W fun e w' => e = .returned (.bool (f x y)) ∧ W = w') :
    Calls Tryz.prog 43 #[setV n va, setV m vb, .func (.func K) #[] #[]] w (SetPost (V.opP f n a m b) w) := by
  have HVA := Lib.hid hva
  have HVB := Lib.hid hvb
  obtain ⟨aa, ac, rfl⟩ := hva.slice
  obtain ⟨ba, bc, rfl⟩ := hvb.slice
  have HSA := Lib.hid hsa
  have HSB := Lib.hid hsb
  have HLA := Lib.hid hla
  have HLB := Lib.hid hlb
  have HKK := Lib.hid hK
  have HEG := Lib.hid eg
  have HF : Hid (V.opP f n a m b = if V.chkP n a m b = 0 then V.limP n (V.opL n f a b) else (0, [], V.chkP n a m b)) := Lib.hid rfl
  have H3 := Lib.hid (three_heap w (.cells #[.int .i64 n, .slice aa a.length ac] 25) (.cells #[.int .i64 m, .slice ba b.length bc] 25) (.cells #[.int .i64 0, .slice none 0 0] 25))
  have hb0 : Below w.heap.size w (((w.alloc (.cells #[.int .i64 n, .slice aa a.length ac] 25)).alloc (.cells #[.int .i64 m, .slice ba b.length bc] 25)).alloc (.cells #[.int .i64 0, .slice none 0 0] 25)) := (((Below.refl _ _).alloc (Nat.le_refl _) _).alloc (by simp) _).alloc (by simp; omega) _
  have HB0 := Lib.hid hb0
  have HM0 := Lib.hid (hm.below hb0)
  clear hva hvb hsa hsb hla hlb hm hb0 hK eg
  unfold setV
  go_enter Tryz.func43, Tryz.ntmps43
  go_wp2_with fail
  generalize ((w.alloc (.cells #[.int .i64 n, .slice aa a.length ac] 25)).alloc (.cells #[.int .i64 m, .slice ba b.length bc] 25)).alloc (.cells #[.int .i64 0, .slice none 0 0] 25) = w0 at *
  refine (rgCheck_any n m (.slice aa a.length ac) (.slice ba b.length bc) a b w0 HM0.out (HVA.out.below HB0.out) (HVB.out.below HB0.out) HSA.out HSB.out HLA.out HLB.out).mono ?_
  rintro e w1 ⟨rfl, hb1⟩
  have hsz := H3.out.2.2.2
  have K0 := (hb1.block _ (show w.heap.size < w0.heap.size by omega)).trans H3.out.1
  have K1 := (hb1.block _ (show w.heap.size + 1 < w0.heap.size by omega)).trans H3.out.2.1
  have K2 := (hb1.block _ (show w.heap.size + 1 + 1 < w0.heap.size by omega)).trans H3.out.2.2.1
  have HK := Lib.hid (And.intro K0 (And.intro K1 K2))
  have HB1 := Lib.hid (HB0.out.trans (hb1.mono HB0.out.size))
  have HM1 := Lib.hid (HM0.out.below hb1)
  clear hb1 K0 K1 K2
  by_cases hz : V.chkP n a m b = 0
  · obtain ⟨oka, okb, rfl⟩ := V.chk_zero hz
    have HOA := Lib.hid oka
    have HOB := Lib.hid okb
    have HR : Hid (V.opP f n a n b = V.limP n (V.opL n f a b)) := Lib.hid (by rw [HF.out, if_pos hz])
    have HLEN := Lib.hid (V.opL_len f oka okb)
    rw [hz]
    have hc0 : w1.cell? ⟨w.heap.size, 0, none⟩ = some (.int .i64 n) := Lib.cell_of_heap HK.out.1 0
    have hc1 : w1.cell? ⟨w.heap.size, 1, none⟩ = some (.slice aa a.length ac) := Lib.cell_of_heap HK.out.1 1
    have hd0 : w1.cell? ⟨w.heap.size + 1, 0, none⟩ = some (.int .i64 n) := Lib.cell_of_heap HK.out.2.1 0
    have hd1 : w1.cell? ⟨w.heap.size + 1, 1, none⟩ = some (.slice ba b.length bc) := Lib.cell_of_heap HK.out.2.1 1
    clear oka okb hz
    go_wp2_with fail
    refine (rgCombine_any n a b (.slice aa a.length ac) (.slice ba b.length bc) K f w1 HM1.out HOA.out HOB.out (HVA.out.below HB1.out) (HVB.out.below HB1.out) HEG.out HKK.out).mono ?_
    rintro e w2 ⟨u, rfl, hu, how, hb2⟩
    obtain ⟨ua, uc, rfl⟩ := hu.slice
    have HU := Lib.hid hu
    have HOW := Lib.hid how
    have HB2 := Lib.hid (HB1.out.trans (hb2.mono HB1.out.size))
    have HK2 := Lib.hid ((hb2.block _ (Array.getElem?_eq_some_iff.1 HK.out.2.2).1).trans HK.out.2.2)
    have hsz1 : w.heap.size + 1 + 1 < w1.heap.size := (Array.getElem?_eq_some_iff.1 HK.out.2.2).1
    clear hu how hb2 hc0 hc1 hd0 hd1
    unfold setV
    go_wp2_with fail
    refine (rgLimited_any n (.slice ua (V.opL n f a b).length uc) _ w2 HU.out (by have := HLEN.out; omega)).mono ?_
    rintro e w3 ⟨u3, rfl, hu3, hb3⟩
    have HU3 := Lib.hid hu3
    have hsl : ∃ p q r, u3 = .slice p q r := by
      rcases hu3 with ⟨rfl, _⟩ | ⟨rfl, _⟩
      · exact ⟨_, _, _, rfl⟩
      · exact ⟨_, _, _, rfl⟩
    obtain ⟨p3, q3, r3, rfl⟩ := hsl
    have HB3 := Lib.hid (HB2.out.trans (hb3.mono HB2.out.size))
    have HK3 := Lib.hid ((hb3.block _ (Array.getElem?_eq_some_iff.1 HK2.out).1).trans HK2.out)
    have HU4 := Lib.hid (HU.out.below hb3)
    clear hu3 hb3
    obtain ⟨r, hr⟩ : ∃ r, r = V.limP n (V.opL n f a b) := ⟨_, rfl⟩
    rw [← hr] at HU3 HR ⊢
    clear hr
    obtain ⟨k1, l1, c1⟩ := r
    unfold setV
    go_wp2_with (first | (refine wl_putRow rfl 25 _ _ rfl (w.heap.size + 1 + 1) #[.int .i64 0, .slice none 0 0] _ HK3.out rfl #[.int .i64 k1, .slice p3 q3 r3] rfl rfl (by kernel_rfl) (setC_all _ _ _ _) ?_; intro W2 hp2; have z0 : W2.cell? ⟨w.heap.size + 1 + 1, 0, none⟩ = some (.int .i64 k1) := Lib.cell_of_heap hp2.here 0; have z1 : W2.cell? ⟨w.heap.size + 1 + 1, 1, none⟩ = some (.slice p3 q3 r3) := Lib.cell_of_heap hp2.here 1) | fail)
    have HOF : Hid (∀ c, (Value.slice p3 q3 r3).ownBlock = some c → w1.heap.size ≤ c) := Lib.hid (fun c hc => by
      rcases HU3.out with ⟨e, _⟩ | ⟨e, _⟩
      · rw [e] at hc; exact HOW.out c hc
      · rw [e] at hc; cases hc)
    have HIV : Hid (Itvs W2 (.slice p3 q3 r3) l1) := Lib.hid (hp2.itvs (by
      rcases HU3.out with ⟨e, e2⟩ | ⟨e, e2⟩
      · rw [e, e2]; exact HU4.out
      · rw [e, e2]; exact Itvs.nil _) (fun c hc => by have := HOF.out c hc; omega))
    have HBF := Lib.hid (hp2.below HB3.out (by omega))
    have HSZ := Lib.hid HB1.out.size
    clear hp2
    exact bodyPost_ret (v := .tuple #[.agg #[.int .i64 k1, .slice p3 q3 r3], .int .i64 c1]) (by simp [results, Tryz.results43, go_sem, z0, z1]) rfl (by rw [HR.out]; exact ⟨_, rfl, HIV.out, (fun c hc => by have := HOF.out c hc; have := HSZ.out; omega), HBF.out⟩)
  · have HR : Hid (V.opP f n a m b = (0, [], V.chkP n a m b)) := Lib.hid (by rw [HF.out, if_neg hz])
    have hq : (V.chkP n a m b != 0) = true := by simpa using hz
    generalize V.chkP n a m b = z at *
    clear hz
    go_wp2_with (first | (refine wl_putRow rfl 25 _ _ rfl (w.heap.size + 1 + 1) #[.int .i64 0, .slice none 0 0] _ HK.out.2.2 rfl #[.int .i64 0, .slice none 0 0] rfl rfl (by kernel_rfl) (setC_all _ _ _ _) ?_; intro W2 hp2; have z0 : W2.cell? ⟨w.heap.size + 1 + 1, 0, none⟩ = some (.int .i64 0) := Lib.cell_of_heap hp2.here 0; have z1 : W2.cell? ⟨w.heap.size + 1 + 1, 1, none⟩ = some (.slice none 0 0) := Lib.cell_of_heap hp2.here 1) | fail)
    have HBF := Lib.hid (hp2.below HB1.out (by omega))
    clear hp2
    exact bodyPost_ret (v := .tuple #[.agg #[.int .i64 0, .slice none 0 0], .int .i64 z]) (by simp [results, Tryz.results43, go_sem, z0, z1]) rfl (by rw [HR.out]; exact SetPost.zero HBF.out _)
end Go.Proofs.YtolojkkhmamddaaGreatDoor
