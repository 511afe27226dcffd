/-
  Lemmas for the law.
-/
import Derived.Test.YtbikeahmldobkaaGreatDoorC41x35
import Derived.Test.YtbikeahmldobkaaGreatDoorC41x37
set_option linter.all false
set_option maxRecDepth 100000
set_option maxHeartbeats 6400000
namespace Go.Proofs.YtbikeahmldobkaaGreatDoor
open Go.RowKit
def sE (s : V.Bs) : List Value := [.string ⟨s.toArray⟩]
theorem ug (s : V.Bs) : (sE s).length = 1 := rfl
theorem zc5 (s : V.Bs) : ∀ u ∈ sE s, u.oneCell' = true := fun u hu => by rw [List.mem_singleton.1 hu]; rfl
theorem ze2 : xg 9 1 16 := by
 have h : (match Tryz.prog.info? 9 with | some i => i.size == 1 && (i.bytes == 16 && (match i.zero with | some z => z.cells.size == 1 | none => false)) | none => false) = true := by kernel_rfl
 unfold xg
 cases hq : Tryz.prog.info? 9 with
 | none => rw [hq] at h; cases h
 | some i =>
  exact zp4
theorem zed (w : World) (s : V.Bs) : ∀ j u, (sE s)[j]? = some u -> (w.alloc (.cells #[.string ⟨s.toArray⟩] 9)).cell? ⟨w.heap.size, j, none⟩ = some u := fun j u hu => by
 rw [World.cell?_alloc_new]
 simpa [sE] using hu
theorem GSl.strs {w : World} {v : Value} {l : List V.Bs} (h : GSl 1 sE w v l) : Strs w v l := by
 obtain ⟨a, cap, e, hc⟩ := h
 refine ⟨a, cap, e, fun j hj => ?_⟩
 obtain ⟨g, off, ea, hg, hr⟩ := hc j hj
 have := hr 0 _ rfl
 rw [Nat.mul_one, Nat.add_zero] at this
 exact ⟨g, off, ea, hg, this⟩
theorem Strs.gsl {w : World} {v : Value} {l : List V.Bs} (h : Strs w v l) : GSl 1 sE w v l := by
 obtain ⟨a, cap, e, hc⟩ := h
 refine ⟨a, cap, e, fun j hj => ?_⟩
 obtain ⟨g, off, ea, hg, hr⟩ := hc j hj
 refine ⟨g, off, ea, hg, fun i u hu => ?_⟩
 have hi : i = 0 := by have := (List.getElem?_eq_some_iff.1 hu).1; simpa [sE] using this
 subst hi
 cases hu
 rw [Nat.mul_one, Nat.add_zero]
 exact hr
theorem ut : ∀ a b : V.Bs, Op.bytesLess a b = decide (Lib.compareBytes a b < 0)
 | [], [] => rfl
 | [], _ :: _ => rfl
 | _ :: _, [] => rfl
 | x :: a, y :: b => by
  have ih := ut a b
  unfold Op.bytesLess Lib.compareBytes
  rw [ih]
  by_cases h1 : x < y
  ·simp [h1]
  ·by_cases h2 : y < x
   ·have h3 : (x == y) = false := by
     rw [zpe]; intro g; subst g; exact absurd h2 h1
    simp [h1, h2, h3]
   ·have h3 : x = y := by
     exact zse
    subst h3
    simp [h1]
theorem zlm {w : World} {g off cap : Nat} {l : List V.Bs} (hv : GSl 1 sE w (.slice (some ⟨g, off, none⟩) l.length cap) l) (hg : g < w.heap.size) (hc : l.length ≤ cap) (i : Nat) :
  ∃ ad : Addr, (if cap = i then some (⟨g, off, none⟩ : Addr) else some ⟨g, off + i, none⟩) = some ad /\ ∀ W : World, Below w.heap.size w W -> ∀ j u, ((l.drop i).flatMap sE)[j]? = some u -> W.cell? (ad.add j) = some u := by
 by_cases h : cap = i
 ·exact zso
 ·refine ⟨_, if_neg h, fun W hW j u hu => ?_⟩
  rw [Addr.add_mid]
  have := GSl.cells ug hv i j u hu
  rw [Nat.mul_one] at this
  exact (hW.cell (p := ⟨g, off + i + j, none⟩) hg).trans this
theorem zon (v : Value) (l : List V.Bs) (s : V.Bs) (w : World) (hv : Strs w v l) (hl : l.length ≤ 1000000) :
  Calls Tryz.prog 97 #[v, .string ⟨s.toArray⟩] w fun e w' => e = .returned (.bool (decide (s ∈ l))) /\ Below w.heap.size w w' := by
 have HV := zpa hv
 obtain ⟨va, vc, rfl, hat⟩ := hv
 have HA := zpa hat
 clear hat
 go_enter Tryz.func97, Tryz.ntmps97
 go_wp2_with fail
 go_loopw [5] (fun iv wx => ∃ i : Nat, i ≤ l.length /\ iv = .int .i64 i /\ Below w.heap.size w wx /\ (∀ j (h : j < l.length), j < i -> l[j] ≠ s)) (fun iv _ => l.length - (intOf iv).toNat)
 case atStart => exact ⟨0, Nat.zero_le _, rfl, zpd _ _, fun j _ hj => absurd hj (by omega)⟩
 case round =>
  obtain ⟨i, hi, rfl, hbx, hne⟩ := hrel
  have HBX := zpa hbx
  have HE := zpa hne
  clear hne
  by_cases hlt : i < l.length
  ·obtain ⟨g, off, rfl, hgl, hc⟩ := HA.out i hlt
   have hc := zg hbx hc
   have hi1 : (0 : Int) ≤ (i : Int) := by omega
   have hi2 : (i : Int) < (l.length : Int) := by omega
   have HM : Hid (l[i] ∈ l) := zpa (List.getElem_mem hlt)
   have HN : Hid (l[i] ≠ s -> ∀ j (h : j < l.length), j < i + 1 -> l[j] ≠ s) := zpa (fun hn j h hj => by
     by_cases e : j = i
     · subst e; exact hn
     · exact HE.out j h (by omega))
   clear hbx
   generalize l[i] = x at *
   by_cases hxd : x = s
   ·have HF : Hid (decide (s ∈ l) = true) := zpa (decide_eq_true (hxd ▸ HM.out))
    have hb : (x == s) = true := by rw [beq_iff_eq]; exact hxd
    subst hxd
    go_wp2
    go_ret
    exact ⟨by rw [HF.out]; rfl, HBX.out⟩
   ·have hb : (x == s) = false := by rw [zpe]; exact hxd
    have HNN := zpa (HN.out hxd)
    clear hxd
    go_wp2
    go_roundw
    case rel => exact ⟨i + 1, by omega, by go_num, HBX.out, HNN.out⟩
    case measure => simp [intOf]; omega
  ·obtain rfl : i = l.length := by omega
   have HF : Hid (decide (s ∈ l) = false) := zpa (decide_eq_false (fun hm => by
     obtain ⟨j, hj, e⟩ := List.mem_iff_getElem.1 hm
     exact HE.out j hj hj e))
   go_wp2
   go_ret
   exact ⟨by rw [HF.out]; rfl, HBX.out⟩
theorem zp6 {P : Prop} (h : P := by
 have HB4 := zpa (HB3.out.trans (qi hg4 (GRow.block hr3) (zpc _) HB3.out.size))
 refine hK.out _ _ ?_ (fun hHeld => nx ?_)
 ·(try dsimp only); exact HB4.out
 clear hK K
 refine tk 8 ?_
 refine wpAnyH_done (by kernel_rfl) ?_ _
 have HRE := zpa hr4
 rw [← HFF.out] at HRE
 clear hr3 hg3 hr4 hg4 hHeld
 go_wp2
 go_ret
 exact ⟨_, rfl, (GRow.gsl ug HRE.out).strs, HRE.out.slok, HB4.out⟩) : P := h
theorem zob (v : Value) (l : List V.Bs) (s : V.Bs) (W0 : World) (hv : Strs W0 v l) (hsl : SlOk W0 v l.length) (hl : l.length ≤ 1000) :
  Calls Tryz.prog 59 #[v, .string ⟨s.toArray⟩] W0 fun e w' => ∃ u, e = .returned u /\ Strs w' u (V.addC Lib.compareBytes l s) /\ SlOk w' u (V.addC Lib.compareBytes l s).length /\ Below W0.heap.size W0 w' := by
 have HV := zpa hv
 obtain ⟨va, vc, rfl, hat⟩ := hv
 have HSL := zpa hsl
 have hvc : l.length ≤ vc := by
  exact zsk
 have HAT := zpa hat
 clear hat hsl
 go_enter Tryz.func59, Tryz.ntmps59
 go_wp2_with fail
 refine (zon (.slice va l.length vc) l s W0 HV.out (by omega)).mono ?_
 rintro e w1 ⟨rfl, hb1⟩
 have HB1 := zpa hb1
 clear hb1
 by_cases hm : s ∈ l
 ·rw [decide_eq_true hm]
  have HE : Hid (V.addC Lib.compareBytes l s = l) := zpa (by unfold V.addC; rw [if_pos hm])
  exact zrm
 ·rw [decide_eq_false hm]
  have HE : Hid (V.addC Lib.compareBytes l s = V.insC Lib.compareBytes s l) := zpa (by unfold V.addC; rw [if_neg hm])
  clear hm
  go_wp2
  go_loopw [5, 6] (fun ov iv wx => ∃ (i : Nat) (S : List V.Bs), S = l.take i /\ i ≤ l.length /\ iv = .int .i64 i /\ GRow 9 1 sE wx W0.heap.size ov S /\ Below W0.heap.size W0 wx /\ (∀ j (h : j < l.length), j < i -> Lib.compareBytes l[j] s < 0)) (fun _ iv _ => l.length - (intOf iv).toNat)
  case atStart => exact ⟨0, [], rfl, Nat.zero_le _, rfl, GRow.nil _ _, HB1.out, fun j _ hj => absurd hj (by omega)⟩
  case round =>
   obtain ⟨i, S, hS, hi, rfl, hrow, hbl, hlt0⟩ := hrel
   have HS := zpa hS
   have HSL1 : Hid (S.length ≤ 1000) := zpa (by rw [hS, List.length_take]; omega)
   have HROW := zpa hrow
   have HBX := zpa hbl
   have HLT := zpa hlt0
   obtain ⟨oa, oc, hov⟩ := hrow.slice
   subst hov
   clear hrow hlt0 hS
   by_cases hlt : i < l.length
   ·obtain ⟨g, off, rfl, hgl, hc⟩ := HAT.out i hlt
    have hc := zg hbl hc
    have hi1 : (0 : Int) ≤ (i : Int) := by omega
    have hi2 : (i : Int) < (l.length : Int) := by omega
    have HST : Hid (S ++ [l[i]] = l.take (i + 1)) := zpa (by rw [HS.out]; exact (List.take_succ_eq_append_getElem hlt).symm)
    have HN : Hid (Lib.compareBytes l[i] s < 0 -> ∀ j (h : j < l.length), j < i + 1 -> Lib.compareBytes l[j] s < 0) := zpa (fun hn j h hj => by
      by_cases e : j = i
      · subst e; exact hn
      · exact HLT.out j h (by omega))
    have HF : Hid (¬ Lib.compareBytes l[i] s < 0 -> V.addC Lib.compareBytes l s = S ++ [s] ++ l.drop i) := zpa (fun hn => by rw [HE.out, V.zcm hi HLT.out (fun _ => hn), ← HS.out]; simp)
    have HG := zpa hgl
    clear hgl hbl
    generalize hxx : l[i] = x at *
    have HXX := zpa hxx
    clear hxx
    by_cases hls : Lib.compareBytes x s < 0
    ·have HNN := zpa (HN.out hls)
     have hld : Op.bytesLess x s = true := by rw [ut]; exact decide_eq_true hls
     clear hls HF
     have HBN : Hid (Below W0.heap.size W0 (wr.alloc (.cells #[.string ⟨x.toArray⟩] 9))) := zpa (HBX.out.alloc HBX.out.size _)
     have HRN := zpa (GRow.below HROW.out ((zpd wr.heap.size wr).alloc (zpc _) (.cells #[.string ⟨x.toArray⟩] 9)))
     have HNW := zpa (zed wr x)
     go_wp2_with (first | (refine zfu ug (by decide) zc5 ze2 (by decide) rfl _ _ 42 rfl Tryz.underlying42 W0.heap.size _ S rfl HRN.out wr.heap.size x rfl HNW.out (by have := HSL1.out; omega) HBN.out.size ?_; intro v9 w9 hr9 hg9) | fail)
     have HR9 := zpa hr9
     have HB9 := zpa (HBN.out.trans (qi hg9 (GRow.block HRN.out) (zpc _) HBN.out.size))
     clear hr9 hg9 hc
     exact zro
    ·have HFF := zpa (HF.out hls)
     have hld : Op.bytesLess x s = false := by rw [ut]; exact decide_eq_false hls
     clear hls HF HN
     have HBX0 := HBX
     have HROWx := HROW
     obtain ⟨ad, hadE, had⟩ := zlm HV.out.gsl HG.out hvc i
     have HAD : Hid (∀ W : World, Below W0.heap.size W0 W -> ∀ j u, ((l.drop i).flatMap sE)[j]? = some u -> W.cell? (ad.add j) = some u) := zpa (fun W hW => had W hW)
     have hi3 : (i : Int) ≤ (l.length : Int) := by omega
     have hi5 : (i : Int).toNat = i := by omega
     have hi6 : (l.length : Int) - (i : Int) = ((l.length - i : Nat) : Int) := by omega
     clear had
     generalize wr = wx at *
     go_wp2_with fail
     have HRN := zpa (GRow.below HROWx.out (((zpd wx.heap.size wx).drew).alloc (zpc _) (.cells #[.string ⟨s.toArray⟩] 9)))
     have HNW := zpa (zed wx.drew s)
     have HBN : Hid (Below W0.heap.size W0 (wx.drew.alloc (.cells #[.string ⟨s.toArray⟩] 9))) := zpa (HBX0.out.drew.alloc HBX0.out.size _)
     refine wp_region_held_drew (S := (fun W' => Below W0.heap.size W0 W')) (by kernel_rfl) (HBX0.out.drew) (fun hHeld => ?_)
     refine tk 0 ?_
     refine tk 1 ?_
     refine tk 4 ?_
     refine tk 5 ?_
     refine tk 6 ?_
     refine rd 2 fun K hK => ?_
     go_simp
     refine hK.out _ _ ?_ (fun hHeld => nx ?_)
     ·(try dsimp only); exact HBN.out
     clear hK K
     refine rd 3 fun K hK => ?_
     refine kg ug (by decide) zc5 ze2 (by decide) rfl _ _ 42 rfl Tryz.underlying42 W0.heap.size _ S rfl HRN.out wx.heap.size s rfl HNW.out (by have := HSL1.out; omega) HBN.out.size (fun v3 W3 hr3 hg3 => ?_)
     have HB3 := zpa (HBN.out.trans (qi hg3 (GRow.block HRN.out) (zpc _) HBN.out.size))
     refine hK.out _ _ ?_ (fun hHeld => nx ?_)
     ·(try dsimp only); exact HB3.out
     clear hK K
     refine rd 7 fun K hK => ?_
     refine xi ug (by decide) zc5 ze2 (by decide) rfl _ _ 42 rfl Tryz.underlying42 W0.heap.size v3 (S ++ [s]) rfl hr3 ad (vc - i) (l.drop i) (l.length - i) (by simp) (by rfl) (HAD.out _ HB3.out) (by have := HSL1.out; simp; omega) HB3.out.size (fun v4 W4 hr4 hg4 => ?_)
     exact zp6
   ·obtain rfl : i = l.length := by omega
    have HFF : Hid (V.addC Lib.compareBytes l s = S ++ [s] ++ l.drop l.length) := zpa (by rw [HE.out, V.zcm hi HLT.out (fun h => absurd h (Nat.lt_irrefl _)), ← HS.out]; simp)
    have HBX0 := HBX
    have HROWx := HROW
    clear hbl
    generalize wr = wx at *
    rcases HSL.out with ⟨e, h0⟩ | ⟨g, off, cap, e, hg, hc⟩
    ·obtain ⟨e1, _, e3⟩ := Value.slice.inj e
     subst e1 e3
     obtain rfl : l = [] := List.eq_nil_of_length_eq_zero h0
     clear h0
     simp only [List.length_nil] at *
     go_wp2_with fail
     have HRN := zpa (GRow.below HROWx.out (((zpd wx.heap.size wx).drew).alloc (zpc _) (.cells #[.string ⟨s.toArray⟩] 9)))
     have HNW := zpa (zed wx.drew s)
     have HBN : Hid (Below W0.heap.size W0 (wx.drew.alloc (.cells #[.string ⟨s.toArray⟩] 9))) := zpa (HBX0.out.drew.alloc HBX0.out.size _)
     refine wp_region_held_drew (S := (fun W' => Below W0.heap.size W0 W')) (by kernel_rfl) (HBX0.out.drew) (fun hHeld => ?_)
     refine tk 0 ?_
     refine tk 1 ?_
     refine tk 4 ?_
     refine tk 5 ?_
     refine tk 6 ?_
     refine rd 2 fun K hK => ?_
     go_simp
     refine hK.out _ _ ?_ (fun hHeld => nx ?_)
     ·(try dsimp only); exact HBN.out
     clear hK K
     refine rd 3 fun K hK => ?_
     refine kg ug (by decide) zc5 ze2 (by decide) rfl _ _ 42 rfl Tryz.underlying42 W0.heap.size _ S rfl HRN.out wx.heap.size s rfl HNW.out (by have := HSL1.out; omega) HBN.out.size (fun v3 W3 hr3 hg3 => ?_)
     have HB3 := zpa (HBN.out.trans (qi hg3 (GRow.block HRN.out) (zpc _) HBN.out.size))
     refine hK.out _ _ ?_ (fun hHeld => nx ?_)
     ·(try dsimp only); exact HB3.out
     clear hK K
     refine rd 7 fun K hK => ?_
     refine zcp rfl _ _ rfl Tryz.underlying42 ze2 W0.heap.size v3 (by exact hr3) rfl rfl ?_
     refine hK.out _ _ ?_ (fun hHeld => nx ?_)
     ·(try dsimp only); exact HB3.out
     clear hK K
     refine tk 8 ?_
     refine wpAnyH_done (by kernel_rfl) ?_ _
     have HRE : Hid (GRow 9 1 sE W3 W0.heap.size v3 (V.addC Lib.compareBytes [] s)) := zpa (by rw [HFF.out, List.drop_nil, List.append_nil]; exact hr3)
     clear hr3 hg3 hHeld
     go_wp2
     go_ret
     exact ⟨_, rfl, (GRow.gsl ug HRE.out).strs, HRE.out.slok, HB3.out⟩
    ·obtain ⟨e1, _, e3⟩ := Value.slice.inj e
     subst e1 e3
     clear e
     obtain ⟨ad, hadE, had⟩ := zlm HV.out.gsl hg hvc l.length
     have HAD : Hid (∀ W : World, Below W0.heap.size W0 W -> ∀ j u, ((l.drop l.length).flatMap sE)[j]? = some u -> W.cell? (ad.add j) = some u) := zpa (fun W hW => had W hW)
     have hi3 : (l.length : Int) ≤ (l.length : Int) := by omega
     have hi5 : (l.length : Int).toNat = l.length := by omega
     have hi6 : (l.length : Int) - (l.length : Int) = ((l.length - l.length : Nat) : Int) := by omega
     clear had
     go_wp2_with fail
     have HRN := zpa (GRow.below HROWx.out (((zpd wx.heap.size wx).drew).alloc (zpc _) (.cells #[.string ⟨s.toArray⟩] 9)))
     have HNW := zpa (zed wx.drew s)
     have HBN : Hid (Below W0.heap.size W0 (wx.drew.alloc (.cells #[.string ⟨s.toArray⟩] 9))) := zpa (HBX0.out.drew.alloc HBX0.out.size _)
     refine wp_region_held_drew (S := (fun W' => Below W0.heap.size W0 W')) (by kernel_rfl) (HBX0.out.drew) (fun hHeld => ?_)
     refine tk 0 ?_
     refine tk 1 ?_
     refine tk 4 ?_
     refine tk 5 ?_
     refine tk 6 ?_
     refine rd 2 fun K hK => ?_
     go_simp
     refine hK.out _ _ ?_ (fun hHeld => nx ?_)
     ·(try dsimp only); exact HBN.out
     clear hK K
     refine rd 3 fun K hK => ?_
     refine kg ug (by decide) zc5 ze2 (by decide) rfl _ _ 42 rfl Tryz.underlying42 W0.heap.size _ S rfl HRN.out wx.heap.size s rfl HNW.out (by have := HSL1.out; omega) HBN.out.size (fun v3 W3 hr3 hg3 => ?_)
     have HB3 := zpa (HBN.out.trans (qi hg3 (GRow.block HRN.out) (zpc _) HBN.out.size))
     refine hK.out _ _ ?_ (fun hHeld => nx ?_)
     ·(try dsimp only); exact HB3.out
     clear hK K
     refine rd 7 fun K hK => ?_
     refine xi ug (by decide) zc5 ze2 (by decide) rfl _ _ 42 rfl Tryz.underlying42 W0.heap.size v3 (S ++ [s]) rfl hr3 ad (vc - l.length) (l.drop l.length) 0 (by simp) (by rfl) (HAD.out _ HB3.out) (by have := HSL1.out; simp; omega) HB3.out.size (fun v4 W4 hr4 hg4 => ?_)
     exact zp6
theorem rids_any (v : Value) (xs : List NV) (w : World) (hv : Notes w v xs) (hl : xs.length ≤ 900) :
  Calls Tryz.prog 32 #[v] w fun e w' => ∃ u, e = .returned u /\ Strs w' u (V.idsN (xs.map (·.n))) /\ SlOk w' u (V.idsN (xs.map (·.n))).length /\ Below w.heap.size w w' := by
 obtain ⟨pa, pc, rfl⟩ := hv.slice
 have HV := zpa hv
 clear hv
 go_enter Tryz.func32, Tryz.ntmps32
 go_wp2_with fail
 go_loopw [3, 4] (fun ov iv wx => ∃ k : Nat, k ≤ xs.length /\ iv = .int .i64 k /\ Strs wx ov (V.idsN ((xs.take k).map (·.n))) /\ SlOk wx ov (V.idsN ((xs.take k).map (·.n))).length /\ Below w.heap.size w wx) (fun _ iv _ => xs.length - (intOf iv).toNat)
 case atStart => exact ⟨0, Nat.zero_le _, rfl, Strs.nil _, SlOk.nil _, zpd _ _⟩
 case round =>
  obtain ⟨k, hk, rfl, hst, hso, hb⟩ := hrel
  have HB := zpa hb
  have HST := zpa hst
  have HSO := zpa hso
  have HLE : Hid ((V.idsN ((xs.take k).map (·.n))).length ≤ 900) := zpa (by
    have := V.yv (c := Lib.compareBytes) (l := []) (xs := ((xs.take k).map (·.n)).map (·.adv.id))
    unfold V.idsN
    simp at this ⊢
    omega)
  obtain ⟨oa, oc, hov, hjunk⟩ := hst
  subst hov
  clear hb hso hjunk
  by_cases hlt : k < xs.length
  ·obtain ⟨hok, g, off, hpa, hg, hr⟩ := (HV.out.below HB.out).at k hlt
   subst hpa
   obtain ⟨c0, _, _, _, _, _⟩ := je hok.doc hr
   have i1 : (0 : Int) ≤ (k : Int) := by omega
   have i2 : (k : Int) < (xs.length : Int) := by omega
   have HN : Hid (V.idsN ((xs.take (k + 1)).map (·.n)) = V.addC Lib.compareBytes (V.idsN ((xs.take k).map (·.n))) xs[k].n.adv.id) := zpa (by
     unfold V.idsN
     rw [List.take_succ_eq_append_getElem hlt, List.map_append, List.map_append]
     exact V.zew)
   clear hok hr
   generalize xs[k] = x at *
   generalize V.idsN ((xs.take k).map (·.n)) = L at *
   go_wp2_with fail
   refine (zob (.slice oa L.length oc) L x.n.adv.id wr HST.out HSO.out (by have := HLE.out; omega)).mono ?_
   rintro e w2 ⟨u, rfl, hu, hso, hb2⟩
   have HU := zpa hu
   have HSU := zpa hso
   rw [← HN.out] at HU HSU
   have HB2 := zpb HB hb2
   clear hu hso hb2 c0
   go_wp2
   go_roundw
   case rel => exact ⟨k + 1, by omega, by go_num, HU.out, HSU.out, HB2.out⟩
   case measure => simp [intOf]; omega
  ·obtain rfl : k = xs.length := by omega
   rw [List.take_length] at HST HSO
   go_wp2
   go_ret
   exact ⟨_, rfl, HST.out, HSO.out, HB.out⟩
end Go.Proofs.YtbikeahmldobkaaGreatDoor
