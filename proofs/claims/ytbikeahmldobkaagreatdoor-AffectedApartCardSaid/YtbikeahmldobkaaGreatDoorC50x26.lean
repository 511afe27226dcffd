/-
  Lemmas for the law.
-/
import Derived.Test.YtbikeahmldobkaaGreatDoorC50x25
import Derived.Test.YtbikeahmldobkaaGreatDoorC50x24
import Derived.Test.YtbikeahmldobkaaGreatDoorC50x04
import Derived.Test.YtbikeahmldobkaaGreatDoorC50x08
import Derived.Test.YtbikeahmldobkaaGreatDoorC50x03
set_option linter.all false
set_option maxRecDepth 100000
set_option maxHeartbeats 6400000
namespace Go.Proofs.YtbikeahmldobkaaGreatDoor
open Go.RowKit
def sE (s : V.Bs) : List Value := [.string ⟨s.toArray⟩]
theorem uh (s : V.Bs) : (sE s).length = 1 := rfl
theorem zd1 (s : V.Bs) : ∀ u ∈ sE s, u.oneCell' = true := fun u hu => by rw [List.mem_singleton.1 hu]; rfl
theorem zfx : jp 9 1 16 := by
 have h : (match Tryz.prog.info? 9 with | some i => i.size == 1 && (i.bytes == 16 && (match i.zero with | some z => z.cells.size == 1 | none => false)) | none => false) = true := by kernel_rfl
 unfold jp
 cases hq : Tryz.prog.info? 9 with
 | none => rw [hq] at h; cases h
 | some i =>
  exact zwv
theorem zis (w : World) (s : V.Bs) : ∀ j u, (sE s)[j]? = some u -> (w.alloc (.cells #[.string ⟨s.toArray⟩] 9)).cell? ⟨w.heap.size, j, none⟩ = some u := fun j u hu => by
 rw [World.cell?_alloc_new]
 simpa [sE] using hu
theorem GSl.strs {w : World} {v : Value} {l : List V.Bs} (h : GSl 1 sE w v l) : Strs w v l := by
 obtain ⟨a, cap, e, hc⟩ := h
 refine ⟨a, cap, e, fun j hj => ?_⟩
 obtain ⟨g, off, ea, hg, hr⟩ := hc j hj
 have := hr 0 _ rfl
 rw [Nat.mul_one, Nat.add_zero] at this
 exact ⟨g, off, ea, hg, this⟩
theorem Strs.gsl {w : World} {v : Value} {l : List V.Bs} (h : Strs w v l) : GSl 1 sE w v l := by
 obtain ⟨a, cap, e, hc⟩ := h
 refine ⟨a, cap, e, fun j hj => ?_⟩
 obtain ⟨g, off, ea, hg, hr⟩ := hc j hj
 refine ⟨g, off, ea, hg, fun i u hu => ?_⟩
 have hi : i = 0 := by have := (List.getElem?_eq_some_iff.1 hu).1; simpa [sE] using this
 subst hi
 cases hu
 rw [Nat.mul_one, Nat.add_zero]
 exact hr
theorem zb6 : ∀ a b : V.Bs, Op.bytesLess a b = decide (Lib.compareBytes a b < 0)
 | [], [] => rfl
 | [], _ :: _ => rfl
 | _ :: _, [] => rfl
 | x :: a, y :: b => by
  have ih := zb6 a b
  unfold Op.bytesLess Lib.compareBytes
  rw [ih]
  by_cases h1 : x < y
  ·simp [h1]
  ·by_cases h2 : y < x
   ·have h3 : (x == y) = false := by
     rw [zwk]; intro g; subst g; exact absurd h2 h1
    simp [h1, h2, h3]
   ·have h3 : x = y := by
     exact z0k
    subst h3
    simp [h1]
theorem zq4 {w : World} {g off cap : Nat} {l : List V.Bs} (hv : GSl 1 sE w (.slice (some ⟨g, off, none⟩) l.length cap) l) (hg : g < w.heap.size) (hc : l.length ≤ cap) (i : Nat) :
  ∃ ad : Addr, (if cap = i then some (⟨g, off, none⟩ : Addr) else some ⟨g, off + i, none⟩) = some ad /\ ∀ W : World, Below w.heap.size w W -> ∀ j u, ((l.drop i).flatMap sE)[j]? = some u -> W.cell? (ad.add j) = some u := by
 by_cases h : cap = i
 ·exact zy0
 ·refine ⟨_, if_neg h, fun W hW j u hu => ?_⟩
  rw [Addr.add_mid]
  have := GSl.cells uh hv i j u hu
  rw [Nat.mul_one] at this
  exact (hW.cell (p := ⟨g, off + i + j, none⟩) hg).trans this
theorem zvw (v : Value) (l : List V.Bs) (s : V.Bs) (w : World) (hv : Strs w v l) (hl : l.length ≤ 1000000) :
  Calls Tryz.prog 97 #[v, .string ⟨s.toArray⟩] w fun e w' => e = .returned (.bool (decide (s ∈ l))) /\ Below w.heap.size w w' := by
 have HV := zwg hv
 obtain ⟨va, vc, rfl, g1⟩ := hv
 have HA := zwg g1
 clear g1
 go_enter Tryz.func97, Tryz.ntmps97
 go_wp2_with fail
 go_loopw [5] (fun iv wx => ∃ i : Nat, i ≤ l.length /\ iv = .int .i64 i /\ Below w.heap.size w wx /\ (∀ j (h : j < l.length), j < i -> l[j] ≠ s)) (fun iv _ => l.length - (intOf iv).toNat)
 case atStart => exact ⟨0, Nat.zero_le _, rfl, zwj _ _, fun j _ hj => absurd hj (by omega)⟩
 case round =>
  obtain ⟨i, hi, rfl, g0, g2⟩ := hrel
  have HBX := zwg g0
  have HE := zwg g2
  clear g2
  by_cases hlt : i < l.length
  ·obtain ⟨g, off, rfl, g3, hc⟩ := HA.out i hlt
   have hc := zf g0 hc
   have g4 : (0 : Int) ≤ (i : Int) := by omega
   have g5 : (i : Int) < (l.length : Int) := by omega
   have HM : Hid (l[i] ∈ l) := zwg (List.getElem_mem hlt)
   have HN : Hid (l[i] ≠ s -> ∀ j (h : j < l.length), j < i + 1 -> l[j] ≠ s) := zwg (fun hn j h hj => by
     by_cases e : j = i
     · subst e; exact hn
     · exact HE.out j h (by omega))
   clear g0
   generalize l[i] = x at *
   by_cases hxd : x = s
   ·have HF : Hid (decide (s ∈ l) = true) := zwg (decide_eq_true (hxd ▸ HM.out))
    have hb : (x == s) = true := by rw [beq_iff_eq]; exact hxd
    subst hxd
    go_wp2
    go_ret
    exact ⟨by rw [HF.out]; rfl, HBX.out⟩
   ·have hb : (x == s) = false := by rw [zwk]; exact hxd
    have HNN := zwg (HN.out hxd)
    clear hxd
    go_wp2
    go_roundw
    case rel => exact ⟨i + 1, by omega, by go_num, HBX.out, HNN.out⟩
    case measure => simp [intOf]; omega
  ·obtain rfl : i = l.length := by omega
   have HF : Hid (decide (s ∈ l) = false) := zwg (decide_eq_false (fun hm => by
     obtain ⟨j, hj, e⟩ := List.mem_iff_getElem.1 hm
     exact HE.out j hj hj e))
   go_wp2
   go_ret
   exact ⟨by rw [HF.out]; rfl, HBX.out⟩
theorem zxi {P : Prop} (h : P := by
 have HB4 := zwg (HB3.out.trans (zx hg4 (GRow.block hr3) (zwi _) HB3.out.size))
 refine hK.out _ _ ?_ (fun hHeld => nx ?_)
 ·(try dsimp only); exact HB4.out
 clear hK K
 refine tk 8 ?_
 refine wpAnyH_done (by kernel_rfl) ?_ _
 have HRE := zwg hr4
 rw [← HFF.out] at HRE
 clear hr3 hg3 hr4 hg4 hHeld
 go_wp2
 go_ret
 exact ⟨_, rfl, (GRow.gsl uh HRE.out).strs, HRE.out.slok, HB4.out⟩) : P := h
theorem zvb (v : Value) (l : List V.Bs) (s : V.Bs) (W0 : World) (hv : Strs W0 v l) (hsl : SlOk W0 v l.length) (hl : l.length ≤ 1000) :
  Calls Tryz.prog 59 #[v, .string ⟨s.toArray⟩] W0 fun e w' => ∃ u, e = .returned u /\ Strs w' u (V.addC Lib.compareBytes l s) /\ SlOk w' u (V.addC Lib.compareBytes l s).length /\ Below W0.heap.size W0 w' := by
 have HV := zwg hv
 obtain ⟨va, vc, rfl, h2⟩ := hv
 have h3 := zwg hsl
 have h4 : l.length ≤ vc := by
  exact z0q
 have HAT := zwg h2
 clear h2 hsl
 go_enter Tryz.func59, Tryz.ntmps59
 go_wp2_with fail
 refine (zvw (.slice va l.length vc) l s W0 HV.out (by omega)).mono ?_
 rintro e w1 ⟨rfl, hb1⟩
 have HB1 := zwg hb1
 clear hb1
 by_cases hm : s ∈ l
 ·rw [decide_eq_true hm]
  have HE : Hid (V.addC Lib.compareBytes l s = l) := zwg (by unfold V.addC; rw [if_pos hm])
  clear hm
  go_wp2
  go_ret
  exact ⟨_, rfl, by rw [HE.out]; exact HV.out.below HB1.out, by rw [HE.out]; exact h3.out.below HB1.out.size, HB1.out⟩
 ·rw [decide_eq_false hm]
  have HE : Hid (V.addC Lib.compareBytes l s = V.insC Lib.compareBytes s l) := zwg (by unfold V.addC; rw [if_neg hm])
  clear hm
  go_wp2
  go_loopw [5, 6] (fun ov iv wx => ∃ (i : Nat) (S : List V.Bs), S = l.take i /\ i ≤ l.length /\ iv = .int .i64 i /\ GRow 9 1 sE wx W0.heap.size ov S /\ Below W0.heap.size W0 wx /\ (∀ j (h : j < l.length), j < i -> Lib.compareBytes l[j] s < 0)) (fun _ iv _ => l.length - (intOf iv).toNat)
  case atStart => exact ⟨0, [], rfl, Nat.zero_le _, rfl, GRow.nil _ _, HB1.out, fun j _ hj => absurd hj (by omega)⟩
  case round =>
   obtain ⟨i, S, hS, hi, rfl, g6, g8, g9⟩ := hrel
   have HS := zwg hS
   have g3 : Hid (S.length ≤ 1000) := zwg (by rw [hS, List.length_take]; omega)
   have g7 := zwg g6
   have HBX := zwg g8
   have HLT := zwg g9
   obtain ⟨oa, oc, h9⟩ := g6.slice
   subst h9
   clear g6 g9 hS
   by_cases hlt : i < l.length
   ·obtain ⟨g, off, rfl, h5, hc⟩ := HAT.out i hlt
    have hc := zf g8 hc
    have j4 : (0 : Int) ≤ (i : Int) := by omega
    have j5 : (i : Int) < (l.length : Int) := by omega
    have HST : Hid (S ++ [l[i]] = l.take (i + 1)) := zwg (by rw [HS.out]; exact (List.take_succ_eq_append_getElem hlt).symm)
    have HN : Hid (Lib.compareBytes l[i] s < 0 -> ∀ j (h : j < l.length), j < i + 1 -> Lib.compareBytes l[j] s < 0) := zwg (fun hn j h hj => by
      by_cases e : j = i
      · subst e; exact hn
      · exact HLT.out j h (by omega))
    have HF : Hid (¬ Lib.compareBytes l[i] s < 0 -> V.addC Lib.compareBytes l s = S ++ [s] ++ l.drop i) := zwg (fun hn => by rw [HE.out, V.zgj hi HLT.out (fun _ => hn), ← HS.out]; simp)
    have HG := zwg h5
    clear h5 g8
    generalize h6 : l[i] = x at *
    have j6 := zwg h6
    clear h6
    by_cases hls : Lib.compareBytes x s < 0
    ·have HNN := zwg (HN.out hls)
     have j0 : Op.bytesLess x s = true := by rw [zb6]; exact decide_eq_true hls
     clear hls HF
     have g0 : Hid (Below W0.heap.size W0 (wr.alloc (.cells #[.string ⟨x.toArray⟩] 9))) := zwg (HBX.out.alloc HBX.out.size _)
     have g2 := zwg (GRow.below g7.out ((zwj wr.heap.size wr).alloc (zwi _) (.cells #[.string ⟨x.toArray⟩] 9)))
     have HNW := zwg (zis wr x)
     go_wp2_with (first | (refine yf uh (by decide) zd1 zfx (by decide) rfl _ _ 42 rfl Tryz.underlying42 W0.heap.size _ S rfl g2.out wr.heap.size x rfl HNW.out (by have := g3.out; omega) g0.out.size ?_; intro v9 w9 hr9 h7) | fail)
     have HR9 := zwg hr9
     have HB9 := zwg (g0.out.trans (zx h7 (GRow.block g2.out) (zwi _) g0.out.size))
     clear hr9 h7 hc
     exact zzq
    ·have HFF := zwg (HF.out hls)
     have j0 : Op.bytesLess x s = false := by rw [zb6]; exact decide_eq_false hls
     clear hls HF HN
     have g1 := HBX
     have g4 := g7
     obtain ⟨ad, h8, g5⟩ := zq4 HV.out.gsl HG.out h4 i
     have h1 : Hid (∀ W : World, Below W0.heap.size W0 W -> ∀ j u, ((l.drop i).flatMap sE)[j]? = some u -> W.cell? (ad.add j) = some u) := zwg (fun W hW => g5 W hW)
     have j1 : (i : Int) ≤ (l.length : Int) := by omega
     have j2 : (i : Int).toNat = i := by omega
     have j3 : (l.length : Int) - (i : Int) = ((l.length - i : Nat) : Int) := by omega
     clear g5
     generalize wr = wx at *
     go_wp2_with fail
     have g2 := zwg (GRow.below g4.out (((zwj wx.heap.size wx).drew).alloc (zwi _) (.cells #[.string ⟨s.toArray⟩] 9)))
     have HNW := zwg (zis wx.drew s)
     have g0 : Hid (Below W0.heap.size W0 (wx.drew.alloc (.cells #[.string ⟨s.toArray⟩] 9))) := zwg (g1.out.drew.alloc g1.out.size _)
     refine wp_region_held_drew (S := (fun W' => Below W0.heap.size W0 W')) (by kernel_rfl) (g1.out.drew) (fun hHeld => ?_)
     refine tk 0 ?_
     refine tk 1 ?_
     refine tk 4 ?_
     refine tk 5 ?_
     refine tk 6 ?_
     refine rd 2 fun K hK => ?_
     go_simp
     refine hK.out _ _ ?_ (fun hHeld => nx ?_)
     ·(try dsimp only); exact g0.out
     clear hK K
     refine rd 3 fun K hK => ?_
     refine ja uh (by decide) zd1 zfx (by decide) rfl _ _ 42 rfl Tryz.underlying42 W0.heap.size _ S rfl g2.out wx.heap.size s rfl HNW.out (by have := g3.out; omega) g0.out.size (fun v3 W3 hr3 hg3 => ?_)
     have HB3 := zwg (g0.out.trans (zx hg3 (GRow.block g2.out) (zwi _) g0.out.size))
     refine hK.out _ _ ?_ (fun hHeld => nx ?_)
     ·(try dsimp only); exact HB3.out
     clear hK K
     refine rd 7 fun K hK => ?_
     refine kg uh (by decide) zd1 zfx (by decide) rfl _ _ 42 rfl Tryz.underlying42 W0.heap.size v3 (S ++ [s]) rfl hr3 ad (vc - i) (l.drop i) (l.length - i) (by simp) (by rfl) (h1.out _ HB3.out) (by have := g3.out; simp; omega) HB3.out.size (fun v4 W4 hr4 hg4 => ?_)
     exact zxi
   ·obtain rfl : i = l.length := by omega
    have HFF : Hid (V.addC Lib.compareBytes l s = S ++ [s] ++ l.drop l.length) := zwg (by rw [HE.out, V.zgj hi HLT.out (fun h => absurd h (Nat.lt_irrefl _)), ← HS.out]; simp)
    have g1 := HBX
    have g4 := g7
    clear g8
    generalize wr = wx at *
    rcases h3.out with ⟨e, h0⟩ | ⟨g, off, cap, e, hg, hc⟩
    ·obtain ⟨e1, _, e3⟩ := Value.slice.inj e
     subst e1 e3
     obtain rfl : l = [] := List.eq_nil_of_length_eq_zero h0
     clear h0
     simp only [List.length_nil] at *
     go_wp2_with fail
     have g2 := zwg (GRow.below g4.out (((zwj wx.heap.size wx).drew).alloc (zwi _) (.cells #[.string ⟨s.toArray⟩] 9)))
     have HNW := zwg (zis wx.drew s)
     have g0 : Hid (Below W0.heap.size W0 (wx.drew.alloc (.cells #[.string ⟨s.toArray⟩] 9))) := zwg (g1.out.drew.alloc g1.out.size _)
     refine wp_region_held_drew (S := (fun W' => Below W0.heap.size W0 W')) (by kernel_rfl) (g1.out.drew) (fun hHeld => ?_)
     refine tk 0 ?_
     refine tk 1 ?_
     refine tk 4 ?_
     refine tk 5 ?_
     refine tk 6 ?_
     refine rd 2 fun K hK => ?_
     go_simp
     refine hK.out _ _ ?_ (fun hHeld => nx ?_)
     ·(try dsimp only); exact g0.out
     clear hK K
     refine rd 3 fun K hK => ?_
     refine ja uh (by decide) zd1 zfx (by decide) rfl _ _ 42 rfl Tryz.underlying42 W0.heap.size _ S rfl g2.out wx.heap.size s rfl HNW.out (by have := g3.out; omega) g0.out.size (fun v3 W3 hr3 hg3 => ?_)
     have HB3 := zwg (g0.out.trans (zx hg3 (GRow.block g2.out) (zwi _) g0.out.size))
     refine hK.out _ _ ?_ (fun hHeld => nx ?_)
     ·(try dsimp only); exact HB3.out
     clear hK K
     refine rd 7 fun K hK => ?_
     refine zgm rfl _ _ rfl Tryz.underlying42 zfx W0.heap.size v3 (by exact hr3) rfl rfl ?_
     refine hK.out _ _ ?_ (fun hHeld => nx ?_)
     ·(try dsimp only); exact HB3.out
     clear hK K
     refine tk 8 ?_
     refine wpAnyH_done (by kernel_rfl) ?_ _
     have HRE : Hid (GRow 9 1 sE W3 W0.heap.size v3 (V.addC Lib.compareBytes [] s)) := zwg (by rw [HFF.out, List.drop_nil, List.append_nil]; exact hr3)
     clear hr3 hg3 hHeld
     go_wp2
     go_ret
     exact ⟨_, rfl, (GRow.gsl uh HRE.out).strs, HRE.out.slok, HB3.out⟩
    ·obtain ⟨e1, _, e3⟩ := Value.slice.inj e
     subst e1 e3
     clear e
     obtain ⟨ad, h8, g5⟩ := zq4 HV.out.gsl hg h4 l.length
     have h1 : Hid (∀ W : World, Below W0.heap.size W0 W -> ∀ j u, ((l.drop l.length).flatMap sE)[j]? = some u -> W.cell? (ad.add j) = some u) := zwg (fun W hW => g5 W hW)
     have j1 : (l.length : Int) ≤ (l.length : Int) := by omega
     have j2 : (l.length : Int).toNat = l.length := by omega
     have j3 : (l.length : Int) - (l.length : Int) = ((l.length - l.length : Nat) : Int) := by omega
     clear g5
     go_wp2_with fail
     have g2 := zwg (GRow.below g4.out (((zwj wx.heap.size wx).drew).alloc (zwi _) (.cells #[.string ⟨s.toArray⟩] 9)))
     have HNW := zwg (zis wx.drew s)
     have g0 : Hid (Below W0.heap.size W0 (wx.drew.alloc (.cells #[.string ⟨s.toArray⟩] 9))) := zwg (g1.out.drew.alloc g1.out.size _)
     refine wp_region_held_drew (S := (fun W' => Below W0.heap.size W0 W')) (by kernel_rfl) (g1.out.drew) (fun hHeld => ?_)
     refine tk 0 ?_
     refine tk 1 ?_
     refine tk 4 ?_
     refine tk 5 ?_
     refine tk 6 ?_
     refine rd 2 fun K hK => ?_
     go_simp
     refine hK.out _ _ ?_ (fun hHeld => nx ?_)
     ·(try dsimp only); exact g0.out
     clear hK K
     refine rd 3 fun K hK => ?_
     refine ja uh (by decide) zd1 zfx (by decide) rfl _ _ 42 rfl Tryz.underlying42 W0.heap.size _ S rfl g2.out wx.heap.size s rfl HNW.out (by have := g3.out; omega) g0.out.size (fun v3 W3 hr3 hg3 => ?_)
     have HB3 := zwg (g0.out.trans (zx hg3 (GRow.block g2.out) (zwi _) g0.out.size))
     refine hK.out _ _ ?_ (fun hHeld => nx ?_)
     ·(try dsimp only); exact HB3.out
     clear hK K
     refine rd 7 fun K hK => ?_
     refine kg uh (by decide) zd1 zfx (by decide) rfl _ _ 42 rfl Tryz.underlying42 W0.heap.size v3 (S ++ [s]) rfl hr3 ad (vc - l.length) (l.drop l.length) 0 (by simp) (by rfl) (h1.out _ HB3.out) (by have := g3.out; simp; omega) HB3.out.size (fun v4 W4 hr4 hg4 => ?_)
     exact zxi
theorem rids_any (v : Value) (xs : List NV) (w : World) (hv : Notes w v xs) (hl : xs.length ≤ 900) :
  Calls Tryz.prog 32 #[v] w fun e w' => ∃ u, e = .returned u /\ Strs w' u (V.idsN (xs.map (·.n))) /\ SlOk w' u (V.idsN (xs.map (·.n))).length /\ Below w.heap.size w w' := by
 obtain ⟨pa, pc, rfl⟩ := hv.slice
 have HV := zwg hv
 clear hv
 go_enter Tryz.func32, Tryz.ntmps32
 go_wp2_with fail
 go_loopw [3, 4] (fun ov iv wx => ∃ k : Nat, k ≤ xs.length /\ iv = .int .i64 k /\ Strs wx ov (V.idsN ((xs.take k).map (·.n))) /\ SlOk wx ov (V.idsN ((xs.take k).map (·.n))).length /\ Below w.heap.size w wx) (fun _ iv _ => xs.length - (intOf iv).toNat)
 case atStart => exact ⟨0, Nat.zero_le _, rfl, Strs.nil _, SlOk.nil _, zwj _ _⟩
 case round =>
  obtain ⟨k, hk, rfl, g2, g0, hb⟩ := hrel
  have HB := zwg hb
  have HST := zwg g2
  have HSO := zwg g0
  have g4 : Hid ((V.idsN ((xs.take k).map (·.n))).length ≤ 900) := zwg (by
    have := V.za3 (c := Lib.compareBytes) (l := []) (xs := ((xs.take k).map (·.n)).map (·.adv.id))
    unfold V.idsN
    simp at this ⊢
    omega)
  obtain ⟨oa, oc, g5, g1⟩ := g2
  subst g5
  clear hb g0 g1
  by_cases hlt : k < xs.length
  ·obtain ⟨hok, g, off, hpa, hg, hr⟩ := (HV.out.below HB.out).at k hlt
   subst hpa
   obtain ⟨c0, _, _, _, _, _⟩ := xh hok.doc hr
   have i1 : (0 : Int) ≤ (k : Int) := by omega
   have i2 : (k : Int) < (xs.length : Int) := by omega
   have HN : Hid (V.idsN ((xs.take (k + 1)).map (·.n)) = V.addC Lib.compareBytes (V.idsN ((xs.take k).map (·.n))) xs[k].n.adv.id) := zwg (by
     unfold V.idsN
     rw [List.take_succ_eq_append_getElem hlt, List.map_append, List.map_append]
     exact V.zrt)
   clear hok hr
   generalize xs[k] = x at *
   generalize V.idsN ((xs.take k).map (·.n)) = L at *
   go_wp2_with fail
   refine (zvb (.slice oa L.length oc) L x.n.adv.id wr HST.out HSO.out (by have := g4.out; omega)).mono ?_
   rintro e w2 ⟨u, rfl, hu, g0, hb2⟩
   have HU := zwg hu
   have g3 := zwg g0
   rw [← HN.out] at HU g3
   have HB2 := zwh HB hb2
   clear hu g0 hb2 c0
   go_wp2
   go_roundw
   case rel => exact ⟨k + 1, by omega, by go_num, HU.out, g3.out, HB2.out⟩
   case measure => simp [intOf]; omega
  ·obtain rfl : k = xs.length := by omega
   rw [List.take_length] at HST HSO
   go_wp2
   go_ret
   exact ⟨_, rfl, HST.out, HSO.out, HB.out⟩
variable {F : Fence} {n : Nat} {P : Program}
def HandsP {α : Type} (F : Fence) (n : Nat) (P : Program) (g : Nat) (lb : Array Value) (encs : α -> Array Value) (Kp : World -> World -> Prop) (S Sp : List α -> Prop) (Ok : List α -> α -> Prop) (w : World) (b : Nat) : Prop :=
 ∀ (l : Nat) (J Jx : List α -> World -> Prop) (W : World), Below w.heap.size w W -> (∀ s A v, J s A -> J s (A.setCell ⟨b, 0, none⟩ v)) ->
  (∀ pre x W1, J pre W1 -> Ok pre x -> YieldAt F (n - 1) P l (encs x) W1 fun e W' =>
    (e = .returned (.bool true) /\ J (pre ++ [x]) W' /\ Kp W1 W') ∨ (e = .returned (.bool false) /\ Jx (pre ++ [x]) W')) ->
  J [] W ->
  CallsIn F n P g (#[.func (.yield l) #[] #[]] ++ lb) W fun e W' => (∃ v, e = .returned v) /\ ((∃ xs, S xs /\ J xs W') ∨ (∃ pre, Sp pre /\ Jx pre W'))
structure RoundP {α : Type} (F : Fence) (n : Nat) (P : Program) (B b : Nat) (ps : Array Tmp) (t : Array Value) (assign body : Code) (encs : α -> Array Value) (Kp : World -> World -> Prop) (Ok : List α -> α -> Prop) (I : List α -> World -> Prop) (Ix : Code -> List α -> World -> Prop) (act : α -> Act) : Prop where
 own : OwnFrom B I
 ownx : ∀ c, OwnFrom B (Ix c)
 state : ∀ s A v, I s A -> I s (A.setCell ⟨b, 0, none⟩ v)
 assigned : ∀ (l : Nat) (x : α) (W : World) (K : Act -> World -> Prop), K (act x) W ->
  assign.wpIn (F.inRound l) (n - 1 - 1) P (Exit.then K (fun _ _ _ => False)) { tmps := (ps.zip (encs x)).foldl (fun t (p, v) => t.setIfInBounds p v) t, defers := [] } W
 run : ∀ (l : Nat) (pre : List α) (x : α) (W : World), I pre W -> Ok pre x -> body.wpIn (F.inRound l) (n - 1 - 1) P (ownPostK Kp I Ix (pre ++ [x]) W) (act x) W
theorem RoundP.yields {α : Type} {B b : Nat} {ps : Array Tmp} {t : Array Value} {assign body : Code} {encs : α -> Array Value} {Kp : World -> World -> Prop} {Ok : List α -> α -> Prop} {I : List α -> World -> Prop} {Ix : Code -> List α -> World -> Prop} {act : α -> Act}
  (h : RoundP F n P B b ps t assign body encs Kp Ok I Ix act) {fn : FuncId} (hfn : F.fn fn) (hps : ∀ x, (encs x).size = ps.size)
  (hKt : ∀ {A C D : World}, Kp A C -> Kp C D -> Kp A D) (hKb : ∀ (W : World) (l : Nat) (o o' : Obj), B ≤ l -> W.heap[l]? = some o -> o.isCells = false -> o.isWalk = false -> Kp W (W.putObj l o'))
  {pre : List α} {x : α} {W : World} (hi : I pre W) (hB : Booked B (recd fn t ps assign body B .ready none) W) (hx : Ok pre x) :
  YieldAt F (n - 1 - 1) P (B + 1) (encs x) W fun e W' =>
   (e = .returned (.bool true) /\ (I (pre ++ [x]) W' /\ Booked B (recd fn t ps assign body B .ready none) W') /\ Kp W W') ∨
   (e = .returned (.bool false) /\ ∃ c, Ix c (pre ++ [x]) W' /\ Booked B (recd fn t ps assign body B .done (some c)) W') := by
 have g0 := hB.turn (recd fn t ps assign body B .busy none)
 have g1 := hKb W (B + 1) _ (.loop (recd fn t ps assign body B .busy none)) (Nat.le_succ B) hB.at1 rfl rfl
 refine ⟨fn, _, assign, body, run_yield (P := P) (args := encs x) hB.at1 (hps x), roundIn_of_wpIn hfn (h.assigned _ x W _ ⟨_, run_beginRound hB.at1 rfl, ?_⟩)⟩
 refine wpIn_mono (h.run _ pre x _ (hB.own h.own hi _) hx) fun e a3 W3 hp => ?_
 have left : ∀ c, KeepsOthers (W.putObj (B + 1) (.loop (recd fn t ps assign body B .busy none))) W3 -> Ix c (pre ++ [x]) W3 ->
   ∃ c', Ix c' (pre ++ [x]) (W3.putObj (B + 1) (.loop (recd fn t ps assign body B .done (some c)))) /\ Booked B (recd fn t ps assign body B .done (some c')) (W3.putObj (B + 1) (.loop (recd fn t ps assign body B .done (some c)))) :=
  fun c k hx => ⟨c, (g0.keep k).own (h.ownx c) hx _, (g0.keep k).turn _⟩
 cases e with
 | normal => exact ⟨_, _, (g0.keep hp.1).ends none, .inl ⟨rfl, ⟨(g0.keep hp.1).own h.own hp.2.2 _, (g0.keep hp.1).turn _⟩, hKt (hKt g1 hp.2.1) (hKb _ _ _ _ (Nat.le_succ B) (g0.keep hp.1).at1 rfl rfl)⟩⟩
 | ret => exact ⟨_, _, (g0.keep hp.1).ends (some .ret), .inr ⟨rfl, left _ hp.1 hp.2⟩⟩
 | exit id => exact ⟨_, _, (g0.keep hp.1).ends (some (.exit id)), .inr ⟨rfl, left _ hp.1 hp.2⟩⟩
 | goto c => exact ⟨_, _, (g0.keep hp.1).ends (some (.goto c)), .inr ⟨rfl, left _ hp.1 hp.2⟩⟩
 | panic ch => exact hp.elim
 | outgrown => exact hp.elim
theorem zf5 {α : Type} {g : Operand} {ps : Array Tmp} {assign body : Code} {Q : Exit -> Act -> World -> Prop} {a : Act} {w : World}
  (g3 : F.round = none) (h1 : 1 ≤ n) {gf : Nat} {lb : Array Value} (hg : a.eval g = .func (.func gf) #[] lb) (g4 : F.fn gf) (eg : ∀ args w, (callFunc gf args).run P w = .ok (.enter gf args) w)
  {encs : α -> Array Value} {Kp : World -> World -> Prop} {S Sp : List α -> Prop} {Ok : List α -> α -> Prop} {b : Nat} (hb : b < w.heap.size) (hseq : HandsP F (n - 1) P gf lb encs Kp S Sp Ok w b)
  (hKt : ∀ {A B C : World}, Kp A B -> Kp B C -> Kp A C) (hKb : ∀ (W : World) (l : Nat) (o o' : Obj), w.heap.size ≤ l -> W.heap[l]? = some o -> o.isCells = false -> o.isWalk = false -> Kp W (W.putObj l o')) (hps : ∀ x, (encs x).size = ps.size)
  {I : List α -> World -> Prop} {Ix : Code -> List α -> World -> Prop} {act : α -> Act} (hr : RoundP F n P w.heap.size b ps a.tmps assign body encs Kp Ok I Ix act) (h0 : I [] w)
  (hdone : ∀ (D : Nat) (xs : List α) (W : World), w.heap.size ≤ D -> S xs -> I xs W -> W.heap[D]? = some (.deferred (some [])) -> Q .normal { a with defers := { target := .collected D, args := #[] } :: a.defers } W)
  (hstop : ∀ (D : Nat) (c : Code) (pre : List α) (W : World), w.heap.size ≤ D -> Sp pre -> Ix c pre W -> W.heap[D]? = some (.deferred (some [])) -> c.wpIn F n P Q { a with defers := { target := .collected D, args := #[] } :: a.defers } W) :
  (Code.rangeFunc g ps assign body).wpIn F n P Q a w := by
 refine wpIn_rangeFunc fun fn hfn => ?_
 have hbk := Booked.fresh w (recd fn a.tmps ps assign body w.heap.size .ready none)
 have hbel : Below w.heap.size w ((w.alloc (.deferred (some []))).alloc (.loop (recd fn a.tmps ps assign body w.heap.size .ready none))) := ((zwj _ w).alloc (zwi _) _).alloc (by simp) _
 have hI1 := hr.own.alloc (.loop (recd fn a.tmps ps assign body w.heap.size .ready none)) (hr.own.alloc (.deferred (some [])) h0)
 rw [g3]
 have g2 := run_enterLoop_outer (P := P) (w := w) fn a.tmps ps assign body
 obtain ⟨W1, g0⟩ : ∃ W1, W1 = (w.alloc (.deferred (some []))).alloc (.loop (recd fn a.tmps ps assign body w.heap.size .ready none)) := ⟨_, rfl⟩
 rw [← g0] at hbk hbel hI1
 refine ⟨w.heap.size + 1, [{ target := .collected w.heap.size, args := #[] }], W1, { target := .fn (.func gf) lb, args := #[.func (.yield (w.heap.size + 1)) #[] #[]] }, W1, gf,
   #[.func (.yield (w.heap.size + 1)) #[] #[]] ++ lb, W1, by rw [g0]; exact g2, ?called, ?led, ?entered, fun _ => h1, ?it⟩
 case called => simp only [resolve, hg]; simp [go_sem]
 case led => intro f' g1; simp [Target.leads] at g1; exact g1 ▸ g4
 case entered => simp [invoke, go_sem, eg]
 case it =>
  exact zw1
open Go.RowKit
theorem zu5 {d : List Int} (hd : d.length = 32) (time : Int) (v : Value) : (icells d time v)[32]? = some (.int .i64 time) := by
 unfold icells zq
 simp [hd]
theorem zex {d : List Int} (hd : d.length = 32) (time : Int) (v : Value) : (icells d time v)[33]? = some v := by
 unfold icells zq
 simp [hd]
theorem zf0 {d : List Int} {time : Int} {l : List V.Comp} (h : d = zu ∨ time < 0 ∨ 1099511627776 < time ∨ 128 < l.length) : V.jo d time l = false := by
 have : V.zjl d time l = false := by
  unfold V.zjl
  rcases h with h | h | h | h
  ·have : decide (d = List.replicate 32 0) = true := decide_eq_true h
   rw [this]; rfl
  ·have : decide (0 ≤ time) = false := decide_eq_false (by omega)
   rw [this]; simp
  ·have : decide (time ≤ 1099511627776) = false := decide_eq_false (by omega)
   rw [this]; simp
  ·have : decide (l.length ≤ 128) = false := decide_eq_false (by omega)
   rw [this]; simp
 unfold V.jo; rw [this]; rfl
theorem inv_rest {d : List Int} {time : Int} {l : List V.Comp} (h1 : ¬ d = zu) (h2 : ¬ time < 0) (h3 : ¬ 1099511627776 < time) (h4 : ¬ 128 < l.length) : V.jo d time l = V.qg l l.length := by
 have : V.zjl d time l = true := by
  unfold V.zjl
  have a1 : decide (d = List.replicate 32 0) = false := decide_eq_false h1
  have a2 : decide (0 ≤ time) = true := decide_eq_true (by omega)
  have a3 : decide (time ≤ 1099511627776) = true := decide_eq_true (by omega)
  have a4 : decide (l.length ≤ 128) = true := decide_eq_true (by omega)
  rw [a1, a2, a3, a4]; rfl
 unfold V.jo; rw [this]; rfl
theorem inv_stop {l : List V.Comp} {k : Nat} (hk : k < l.length) (h : V.zdj l k l[k] = false) : V.qg l l.length = false :=
 V.zb7 (k := k + 1) (by omega) (by rw [V.yl hk, h]; simp)
theorem zw0 {P : Prop} (h : P := by
 clear c1
 go_enter Tryz.func38, Tryz.ntmps38
 go_wp2_with (first | (refine wpList_load_mid rfl 26 _ rfl w.heap.size 0 rfl (zq d) _ HR.out Tryz.underlying26 rfl HI.out ?_) | (refine zk9 rfl 26 26 _ _ rfl (dcells d) (dcells zu) rfl rfl wg false (HQ.out _) ?_) | fail)
 go_ret
 exact ⟨zg HV.out.symm, (zwj _ w).alloc (zwi _) _⟩) : P := h
theorem zic (d : List Int) (time : Int) (v : Value) (l : List V.Comp) (w : World) (hm : zj w) (hd : d.length = 32) (h1 : ∀ n ∈ d, (Lit.int .u8 n).wf = true) (hv : Comps w v l) (hl : l.length ≤ maxLen) :
  Calls Tryz.prog 38 #[.agg (icells d time v)] w fun e w' => e = .returned (.bool (V.jo d time l)) /\ Below w.heap.size w w' := by
 have HM := zwg hm
 have HL := zwg hv
 have j0 := zu5 hd time v
 have j1 := zex hd time v
 have HR := zwg (zom w 29 time v hd)
 have HI : Hid ((Tryz.prog.info? 26).map (·.size) = some (zq d).length) := zwg (by rw [vd]; unfold zq; simp [hd])
 have HQ : Hid (∀ w, (Op.equalIn 10000 26 (.agg (dcells d)) (.agg (dcells zu))).run Tryz.prog w = .ok (decide (d = zu)) w) := zwg (fun w => zrv hd h1 (by decide) (by decide) w)
 have j2 := @run_makeMap Tryz.prog
 obtain ⟨va, vc, rfl, _⟩ := hv
 unfold maxLen at hl
 clear hm hd h1
 generalize icells d time (.slice va l.length vc) = ic at *
 by_cases c1 : d = zu
 ·have HV := zwg (zf0 (time := time) (l := l) (.inl c1))
  have HD : Hid (decide (d = zu) = true) := zwg (decide_eq_true c1)
  clear c1
  rw [HD.out] at HQ
  go_enter Tryz.func38, Tryz.ntmps38
  go_wp2_with (first | (refine wpList_load_mid rfl 26 _ rfl w.heap.size 0 rfl (zq d) _ HR.out Tryz.underlying26 rfl HI.out ?_) | (refine zk9 rfl 26 26 _ _ rfl (dcells d) (dcells zu) rfl rfl wg true (HQ.out _) ?_) | fail)
  go_ret
  exact ⟨zg HV.out.symm, (zwj _ w).alloc (zwi _) _⟩
 ·have HD : Hid (decide (d = zu) = false) := zwg (decide_eq_false c1)
  rw [HD.out] at HQ
  by_cases c2 : time < 0
  ·have HV := zwg (zf0 (d := d) (l := l) (.inr (.inl c2)))
   exact zw0
  ·by_cases c3 : 1099511627776 < time
   ·have HV := zwg (zf0 (d := d) (l := l) (.inr (.inr (.inl c3))))
    exact zw0
   ·by_cases c4 : 128 < l.length
    ·have HV := zwg (zf0 (d := d) (time := time) (.inr (.inr (.inr c4))))
     exact zw0
    ·have HV := zwg (inv_rest c1 c2 c3 c4)
     have c4' : l.length ≤ 128 := by omega
     have HMP := zwg (CMap.made (w.alloc (.cells ic 29)))
     have HB0 : Hid (Below w.heap.size w ((w.alloc (.cells ic 29)).alloc (.map #[] 0))) := zwg (((zwj _ w).alloc (zwi _) _).alloc (by simp) _)
     clear c1 hl
     go_enter Tryz.func38, Tryz.ntmps38
     go_wp2_with (first | (refine wpList_load_mid rfl 26 _ rfl w.heap.size 0 rfl (zq d) _ HR.out Tryz.underlying26 rfl HI.out ?_) | (refine zk9 rfl 26 26 _ _ rfl (dcells d) (dcells zu) rfl rfl wg false (HQ.out _) ?_) | fail)
     have h2 : CMap ((w.alloc (.cells ic 29)).alloc (.map #[] 0)) (w.heap.size + 1) 0 [] := by have := HMP.out; simpa using this
     have j3 : w.heap.size + 1 < ((w.alloc (.cells ic 29)).alloc (.map #[] 0)).heap.size := by simp
     have HB1 := HB0
     clear HMP HB0 j0 j1 HR HI HQ j2 HD
     go_loopw [30] (fun i wr => ∃ k : Nat, k ≤ l.length /\ i = .int .i64 k /\ V.qg l k = true /\ CMap wr (w.heap.size + 1) k (l.take k) /\ w.heap.size + 1 < wr.heap.size /\ Below w.heap.size w wr) (fun i _ => l.length - (intOf i).toNat)
     case atStart => exact ⟨0, Nat.zero_le _, rfl, rfl, h2, j3, HB1.out⟩
     case round =>
      obtain ⟨k, hk, rfl, h3, h4, j4, h5⟩ := hrel
      have HTO := zwg h3
      have j5 := zwg h4
      have g3 := zwg h5
      clear h3 h4 h5 h2
      by_cases hlt : k < l.length
      ·obtain ⟨h6, b, off, rfl, j9, h7⟩ := HL.out.at k hlt
       have HST := zwg (V.yl hlt)
       have g0 := zwg (inv_stop hlt)
       have h0 : Hid (l.take (k + 1) = l.take k ++ [l[k]]) := zwg (List.take_succ_eq_append_getElem hlt)
       have h8 : V.zdj l k l[k] = (V.zbq l[k] && (decide (-1 ≤ l[k].par) && (decide (l[k].par < k) && !decide (l[k] ∈ l.take k)))) := rfl
       have g1 := zwg h8
       have HX := zwg h6
       have j6 := zwg (zk h7 g3.out)
       clear h6 h7 h8
       generalize l[k] = x at *
       have x0 := ccells_0 x
       go_wp2_with (first | (refine zc7 rfl _ rfl b (off + k * 36) rfl x HX.out j6.out ?_) | (refine zfw rfl _ _ rfl _ _ rfl x HX.out rfl rfl ?_) | (refine zc7 rfl _ rfl wr.heap.size 0 rfl x HX.out (zcq x wr _) ?_) | fail)
       have hb1 : Below w.heap.size w (wr.alloc (.cells (ccells x) 60)) := g3.out.alloc g3.out.size _
       have g4 : CMap (wr.alloc (.cells (ccells x) 60)) (w.heap.size + 1) k (l.take k) := j5.out.kept ((zwj _ wr).alloc (zwi _) _)
       have g5 := zcq x wr 60
       have g6 : wr.heap.size < (wr.alloc (.cells (ccells x) 60)).heap.size := by simp
       generalize wr.alloc (.cells (ccells x) 60) = w1 at *
       obtain ⟨X, h9⟩ : ∃ X, X = wr.heap.size := ⟨_, rfl⟩
       rw [← h9] at g5 g6 j4 ⊢
       clear h9 x0
       refine (zlg x _ (HM.out.below hb1) HX.out).mono ?_
       rintro e w2 ⟨rfl, hb2⟩
       have HB2 := zwg (hb1.trans (hb2.mono hb1.size))
       have g2 := zwg (g4.kept hb2)
       have g7 := zk g5 hb2
       have x0 : w2.cell? ⟨X, 0, none⟩ = some (.int .i64 x.par) := g7 0 _ rfl
       have HX2 := zwg g7
       have k0 : X < w2.heap.size := Nat.lt_of_lt_of_le g6 hb2.size
       have k1 := wf_rng HX.out.par
       clear hb1 g4 g5 g6 hb2 g7
       rcases hok : V.zbq x with _ | _
       ·have HF : Hid (V.jo d time l = false) := zwg (by rw [HV.out]; exact g0.out (by rw [g1.out, hok]; rfl))
        clear hok
        go_wp2
        go_ret
        exact ⟨zg HF.out.symm, HB2.out⟩
       ·by_cases p1 : x.par < -1
        ·have HF : Hid (V.jo d time l = false) := zwg (by rw [HV.out]; exact g0.out (by rw [g1.out, decide_eq_false (show ¬ -1 ≤ x.par by omega)]; simp))
         clear hok
         go_wp2
         go_ret
         exact ⟨zg HF.out.symm, HB2.out⟩
        ·by_cases p2 : x.par < (k : Int)
         ·have q1 : decide (x.par < -1) = false := decide_eq_false p1
          have q2 : decide ((k : Int) ≤ x.par) = false := decide_eq_false (by omega)
          by_cases p3 : x ∈ l.take k
          ·have HF : Hid (V.jo d time l = false) := zwg (by rw [HV.out]; exact g0.out (by rw [g1.out, decide_eq_true p3]; simp))
           have g8 : Hid (decide (x ∈ l.take k) = true) := zwg (decide_eq_true p3)
           clear hok p3
           go_wp2_with (first | (refine ztm rfl _ rfl X 0 rfl x HX.out HX2.out ?_) | (refine zlq rfl _ _ rfl (w.heap.size + 1) k (l.take k) rfl g2.out x HX.out rfl ?_; rw [g8.out]) | fail)
           go_ret
           exact ⟨zg HF.out.symm, HB2.out⟩
          ·have HN : Hid (V.qg l (k + 1) = true) := zwg (by
             rw [HST.out, HTO.out, g1.out, hok, decide_eq_true (show -1 ≤ x.par by omega), decide_eq_true p2, decide_eq_false p3]; rfl)
           have g8 : Hid (decide (x ∈ l.take k) = false) := zwg (decide_eq_false p3)
           clear hok p3
           go_wp2_with (first | (refine ztm rfl _ rfl X 0 rfl x HX.out HX2.out ?_) | (refine zlq rfl _ _ rfl (w.heap.size + 1) k (l.take k) rfl g2.out x HX.out rfl ?_; rw [g8.out]) | (refine zu9 rfl _ _ _ rfl (w.heap.size + 1) k (l.take k) rfl g2.out (by unfold maxLen; omega) x HX.out rfl rfl ?_; intro w3 g9 hg3) | fail)
           rw [← h0.out] at g9
           have j7 := zwg g9
           have HB3 := zwg (HB2.out.trans (qi hg3 (by omega) HB2.out.size))
           have j8 : w.heap.size + 1 < w3.heap.size := Nat.lt_of_lt_of_le (by omega) hg3.size
           clear g9 hg3
           go_wp2
           go_roundw
           case rel => exact ⟨k + 1, by omega, by go_num, HN.out, j7.out, j8, HB3.out⟩
           case measure => simp [intOf]; omega
         ·have HF : Hid (V.jo d time l = false) := zwg (by rw [HV.out]; exact g0.out (by rw [g1.out, decide_eq_false p2]; simp))
          clear hok
          go_wp2
          go_ret
          exact ⟨zg HF.out.symm, HB2.out⟩
      ·obtain rfl : k = l.length := by omega
       have HT : Hid (V.jo d time l = true) := zwg (by rw [HV.out]; exact HTO.out)
       go_wp2
       go_ret
       exact ⟨zg HT.out.symm, g3.out⟩
end Go.Proofs.YtbikeahmldobkaaGreatDoor
