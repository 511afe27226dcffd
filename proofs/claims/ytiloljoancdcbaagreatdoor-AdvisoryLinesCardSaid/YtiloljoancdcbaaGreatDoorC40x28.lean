/-
  Lemmas for the law.
-/
import Derived.Test.YtiloljoancdcbaaGreatDoorC40x17
import Derived.Test.YtiloljoancdcbaaGreatDoorC40x16
import Derived.Test.YtiloljoancdcbaaGreatDoorC40x20
import Derived.Deep.RegionHeld3
import Derived.Lib.BufferRead
set_option linter.all false
set_option maxRecDepth 100000
set_option maxHeartbeats 3200000
namespace Go.Proofs.YtiloljoancdcbaaGreatDoor
open Go.RowKit
def V.unwP (s : V.Bs) : V.Bs × Bool := match V.unwR s with | some w => (w, true) | none => ([], false)
theorem digU_val : ∀ n : Fin 256, Lib.indexByte (ByteArray.mk #[48, 49, 50, 51, 52, 53, 54, 55, 56, 57, 65, 66, 67, 68, 69, 70]).data.toList (UInt8.ofNat n.val) = (match V.hexV (UInt8.ofNat n.val) with | some x => (x : Int) | none => -1) := by decide +kernel
def dvB (bad : Int) (c : UInt8) : Int := match V.hexV c with | some x => (x : Int) | none => bad
theorem zjp (c : UInt8) (w : World) : Calls Tryz.prog 89 #[.string (ByteArray.mk #[48, 49, 50, 51, 52, 53, 54, 55, 56, 57, 65, 66, 67, 68, 69, 70]), .int .u8 c.toNat] w fun e w' => e = .returned (.int .i64 (dvB (-1) c)) /\ w' = w := by
 refine (Tryz.strings_IndexByte (ByteArray.mk #[48, 49, 50, 51, 52, 53, 54, 55, 56, 57, 65, 66, 67, 68, 69, 70]) c.toNat w).mono ?_
 rintro e w' ⟨rfl, rfl⟩
 refine ⟨?_, rfl⟩
 have h := digU_val ⟨c.toNat, c.toNat_lt⟩
 simp only [UInt8.ofNat_toNat] at h
 have e : ((c.toNat : Int)).toNat.toUInt8 = c := by simp
 rw [e, h]
 rfl
theorem zq7 {S out : V.Bs} (h1 : S ≠ [126]) (h2 : V.qv S = some out) (h3 : out ≠ []) : V.unwP S = (out, true) := by
 unfold V.unwP V.unwR
 rw [if_neg h1, h2]
 simp [h3]
theorem xy {S : V.Bs} (h1 : S ≠ [126]) (h2 : V.qv S = none) : V.unwP S = ([], false) := by
 unfold V.unwP V.unwR
 rw [if_neg h1, h2]
theorem conv_nil (w : World) : (convert 36 9 (.slice none 0 0)).run Tryz.prog w = .ok (.string ⟨#[]⟩) w :=
 Lib.run_convert_nil_bytes w _ _ _ 0 Tryz.underlying36 Tryz.underlying5 Tryz.underlying9
theorem zwo {P : Prop} (h : P := by
 rw [HVV.out] at HPL
 have HPL := zvq HPL
 go_wp2_with fail
 refine HPL.out.mono ?_
 rintro e w4 ⟨rfl, rfl⟩
 clear HPL
 rcases hp2 : V.jd v with _ | _
 ·have HNX := zvq (HA.out.2 hp2)
  have HB2 : Hid (Buf w.heap.size (.slice oa out.length oc) out w (w4.alloc (.cells #[.int .u8 (16 * (x : Int) + (y : Int))] 5))) := zvq (HBD.out.below ((zvt _ w4).alloc (zvs _) _))
  have HBN : Hid (∀ j u, (bvals [v])[j]? = some u -> (w4.alloc (.cells #[.int .u8 (16 * (x : Int) + (y : Int))] 5)).cell? ⟨w4.heap.size, j, none⟩ = some u) := zvq (by rw [← HVV.out]; exact ku [v] w4)
  clear hp2 HA
  go_wp2_with (first | (refine zai rfl _ _ rfl w.heap.size (.slice oa out.length oc) out w rfl HB2.out w4.heap.size 1 [v] rfl HBN.out (by simp; omega) ?_; intro v9 w9 hb9) | fail)
  have HB9 := zvq hb9
  clear hb9 HB2 HBN HBD
  go_wp2
  go_roundw
  case rel => exact ⟨k + 3, out ++ [v], hle, by go_num, HB9.out, HNX.out, by simp; omega, fun _ => by simp, fun h => absurd h (by omega)⟩
  case measure => simp [intOf]; omega
 ·have HUW : Hid (V.unwP s.data.toList = ([], false)) := zvq (xy HN.out (HA.out.1 hp2))
  have HBE := zvq HBD.out.2.1
  clear hp2 HA
  go_wp2
  go_ret2
  exact ⟨by rw [HUW.out]; rfl, HBE.out⟩) : P := h
theorem zw6 {P : Prop} (h : P := by
 have HNX := zvq (HAT.out.1 hp)
 clear hp HAT
 have HB2 : Hid (Buf w.heap.size (.slice oa out.length oc) out w (w2.alloc (.cells #[.int .u8 s[k].toNat] 5))) := zvq (HB.out.below ((zvt _ w2).alloc (zvs _) _))
 have HBN : Hid (∀ j u, (bvals [c])[j]? = some u -> (w2.alloc (.cells #[.int .u8 s[k].toNat] 5)).cell? ⟨w2.heap.size, j, none⟩ = some u) := zvq (by rw [← HC.out]; exact ku [c] w2)
 go_wp2_with (first | (refine zai rfl _ _ rfl w.heap.size (.slice oa out.length oc) out w rfl HB2.out w2.heap.size 1 [c] rfl HBN.out (by simp; omega) ?_; intro v9 w9 hb9) | fail)
 have HB9 := zvq hb9
 clear hb9 HB2 HBN HB HC
 go_wp2
 go_roundw
 case rel => exact ⟨k + 1, out ++ [c], by omega, by go_num, HB9.out, HNX.out, by simp; omega, fun _ => by simp, fun h => absurd h (by omega)⟩
 case measure => simp [intOf]; omega) : P := h
theorem zxh {P : Prop} (h : P := by
 have HUW : Hid (V.unwP s.data.toList = ([], false)) := zvq (xy HN.out (HAT.out.2.2.1 hc37 (by omega)))
 have hq1 : IntKind.i64.wrap ((k : Int) + 2) = (k : Int) + 2 := by unfold IntKind.wrap; simp [IntKind.signed, IntKind.bits]; omega
 have hq2 : (s.size : Int) ≤ (k : Int) + 2 := by omega
 have hq3 : IntKind.i64.wrap ((s.size : Int) - (k : Int)) = (s.size : Int) - (k : Int) := by unfold IntKind.wrap; simp [IntKind.signed, IntKind.bits]; omega
 have hq4 : (s.size : Int) - (k : Int) < 3 := by omega
 subst hc37
 have hq5 : s[k] = 37 := HC.out.symm
 have HBE := zvq HB.out.2.1
 clear hp HAT HC hq37
 go_wp2
 go_ret2
 exact ⟨by rw [HUW.out]; rfl, HBE.out⟩) : P := h
theorem zxv {P : Prop} (h : P := by
 have HUW : Hid (V.unwP s.data.toList = ([], false)) := zvq (xy HN.out (HAT.out.2.1 hp hc37))
 have hq1 : ¬ ((c.toNat : Int) = 37) := fun e => hc37 (by apply UInt8.toNat_inj.1; have : c.toNat = 37 := by omega
                                                          rw [this]; rfl)
 have hq2 : ((c.toNat : Int) == 37) = false := zvu.2 hq1
 have HBE := zvq HB.out.2.1
 rw [HC.out] at hq1 hq2
 clear hp HAT
 go_wp2
 go_ret2
 exact ⟨by rw [HUW.out]; rfl, HBE.out⟩) : P := h
theorem zx7 {P : Prop} (h : P := by
 have HUW : Hid (V.unwP s.data.toList = (out, true)) := zvq (zq7 HN.out HOUT.out (hpos (by omega)))
 have hcv := zcn HB.out (List.length_pos_iff.2 (hpos (by omega)))
 have hop := List.length_pos_iff.2 (hpos (by omega))
 have hop2 : (0 : Int) < (out.length : Int) := by omega
 have HBL := zvq HB.out.2.1
 go_wp2
 go_ret2
 exact ⟨by rw [HUW.out]; rfl, HBL.out⟩) : P := h
theorem zyk {P : Prop} (h : P := by
 go_wp2
 go_ret2
 exact ⟨by rw [HUW.out]; rfl, HBE.out⟩) : P := h
theorem zl9 (s : ByteArray) (w : World) (hs : s.size ≤ 1000000) : Calls Tryz.prog 67 #[.string s] w fun e w' => e = .returned (.tuple #[.string ⟨(V.unwP s.data.toList).1.toArray⟩, .bool (V.unwP s.data.toList).2]) /\ Below w.heap.size w w' := by
 by_cases h126 : s.data.toList = [126]
 ·have hs1 : s = ⟨#[126]⟩ := jj (by rw [h126])
  subst hs1
  go_enter Tryz.func67, Tryz.ntmps67
  go_wp2
  go_ret2
  exact ⟨rfl, zvt _ _⟩
 ·have HN := zvq h126
  have hne : (s.data.toList == [126]) = false := zvu.2 h126
  have hne4 : (s.toList == [126]) = false := by rw [Lib.toList_data]; exact hne
  clear h126
  go_enter Tryz.func67, Tryz.ntmps67
  go_wp2
  go_loopw [4, 5] (fun ov iv wx => ∃ (k : Nat) (out : V.Bs), k ≤ s.size /\ iv = .int .i64 k /\ Buf w.heap.size ov out w wx /\ V.qv s.data.toList = (V.qv (s.data.toList.drop k)).map (out ++ ·) /\ out.length ≤ k /\ (0 < k -> out ≠ []) /\ (k = 0 -> ov = .slice none 0 0)) (fun _ iv _ => s.size - (intOf iv).toNat)
  case atStart => exact ⟨0, [], Nat.zero_le _, rfl, Buf.nil (zvt _ _) (zvs _), by simp, zvs _, fun h => absurd h (by omega), fun _ => rfl⟩
  case round =>
   obtain ⟨k, out, hk, rfl, hb, hg, hol, hpos, hk0⟩ := hrel
   have HB := zvq hb
   obtain ⟨oa, oc, rfl⟩ := hb.slice
   have hl := zf s
   clear hb
   by_cases hlt : k < s.size
   ·have hk0c := hk0
    clear hk0 hpos
    have HAT := zvq (V.unw_at hg (k := k) (by omega))
    have he : s.data.toList[k]'(by omega) = s[k] := by simp; rfl
    have hs1 : (0 : Int) ≤ (k : Int) := by omega
    have hs2 : (k : Int) < (s.size : Int) := by omega
    obtain ⟨c, hc⟩ : ∃ c, c = s[k] := ⟨_, rfl⟩
    rw [he, ← hc] at HAT
    have HC := zvq hc
    have hc256 := c.toNat_lt
    clear he hc hg hk0c
    go_wp2_with fail
    rw [← HC.out]
    refine (zaz c wr).mono ?_
    rintro e w2 ⟨rfl, rfl⟩
    rcases hp : V.jd c with _ | _
    ·by_cases hc37 : c = 37
     ·have hq37 : ((c.toNat : Int) == 37) = true := by rw [hc37]; rfl
      by_cases hsh : s.size < k + 3
      ·exact zxh
      ·have he1 : s.data.toList[k + 1]'(by omega) = s[k + 1]'(by omega) := by simp; rfl
       have he2 : s.data.toList[k + 2]'(by omega) = s[k + 2]'(by omega) := by simp; rfl
       obtain ⟨c1, hc1⟩ : ∃ c1, c1 = s[k + 1]'(by omega) := ⟨_, rfl⟩
       obtain ⟨c2, hc2⟩ : ∃ c2, c2 = s[k + 2]'(by omega) := ⟨_, rfl⟩
       have HC1 : Hid (s.data.toList[((k : Int) + 1).toNat]? = some c1) := zvq (by rw [show ((k : Int) + 1).toNat = k + 1 by omega, List.getElem?_eq_getElem (by omega), he1, ← hc1])
       have HC2 : Hid (s.data.toList[((k : Int) + 2).toNat]? = some c2) := zvq (by rw [show ((k : Int) + 2).toNat = k + 2 by omega, List.getElem?_eq_getElem (by omega), he2, ← hc2])
       have A1 : Hid (V.hexV c1 = none ∨ V.hexV c2 = none -> V.qv s.data.toList = none) := zvq (fun h => HAT.out.2.2.2.1 (by omega) hc37 (by rw [he1, he2, ← hc1, ← hc2]; exact h))
       have h3 : k + 2 < s.data.toList.length := by omega
       have A2 := zvq (fun (x y : Nat) (hx : V.hexV c1 = some x) (hy : V.hexV c2 = some y) => HAT.out.2.2.2.2 h3 x y hc37 (by rw [he1, ← hc1]; exact hx) (by rw [he2, ← hc2]; exact hy))
       have hq1 : IntKind.i64.wrap ((k : Int) + 1) = (k : Int) + 1 := by unfold IntKind.wrap; simp [IntKind.signed, IntKind.bits]; omega
       have hq2 : IntKind.i64.wrap ((k : Int) + 2) = (k : Int) + 2 := by unfold IntKind.wrap; simp [IntKind.signed, IntKind.bits]; omega
       have hq3 : IntKind.i64.wrap ((s.size : Int) - (k : Int)) = (s.size : Int) - (k : Int) := by unfold IntKind.wrap; simp [IntKind.signed, IntKind.bits]; omega
       have hq4 : ¬ (s.size : Int) - (k : Int) < 3 := by omega
       have hq6 : ¬ (s.size : Int) ≤ (k : Int) + 2 := by omega
       have hle : k + 3 ≤ s.size := by omega
       subst hc37
       have hq5 : s[k] = 37 := HC.out.symm
       clear hp HAT HC hq37 hc1 hc2 he1 he2 hsh h3
       go_wp2_with fail
       refine wp_region_held_drew (S := (fun W' => Below w2.heap.size w2 W')) (by kernel_rfl) (by (try dsimp only); exact (zvt _ w2).drew) (fun hHeld => ?_)
       refine tk 0 ?_
       refine tk 1 ?_
       refine wpAnyH_take (i := 2) (v := (.int .i64 ((k : Int) + 1))) rfl (by kernel_rfl) (by kernel_rfl) (by kernel_rfl) (fun _ _ _ h => h) (Or.inl ⟨by rfl, fun w' hSw => by go_simp; try rfl⟩) (by assumption) ?_
       try simp only [zvl, zvm, zvn, Act.put, zvo, List.set_cons_succ, List.set_cons_zero]
       refine wpAnyH_take (i := 3) (v := (.int .u8 c1.toNat)) rfl (by kernel_rfl) (by kernel_rfl) (by kernel_rfl) (fun _ _ _ h => h) (Or.inl ⟨by rfl, fun w' hSw => xu rfl rfl rfl (by omega) HC1.out⟩) (by assumption) ?_
       try simp only [zvl, zvm, zvn, Act.put, zvo, List.set_cons_succ, List.set_cons_zero]
       refine tk 5 ?_
       refine tk 6 ?_
       refine wpAnyH_take (i := 7) (v := (.int .i64 ((k : Int) + 2))) rfl (by kernel_rfl) (by kernel_rfl) (by kernel_rfl) (fun _ _ _ h => h) (Or.inl ⟨by rfl, fun w' hSw => by go_simp; try rfl⟩) (by assumption) ?_
       try simp only [zvl, zvm, zvn, Act.put, zvo, List.set_cons_succ, List.set_cons_zero]
       refine wpAnyH_take (i := 8) (v := (.int .u8 c2.toNat)) rfl (by kernel_rfl) (by kernel_rfl) (by kernel_rfl) (fun _ _ _ h => h) (Or.inl ⟨by rfl, fun w' hSw => xu rfl rfl rfl (by omega) HC2.out⟩) (by assumption) ?_
       try simp only [zvl, zvm, zvn, Act.put, zvo, List.set_cons_succ, List.set_cons_zero]
       refine rd 4 fun K hK => ?_
       go_simp
       refine (zjp c1 _).mono ?_
       rintro e wA ⟨rfl, rfl⟩
       try dsimp only
       refine hK.out _ _ ?_ (fun hHeld => nx ?_)
       ·(try dsimp only); exact (zvt _ w2).drew
       clear hK K
       refine rd 9 fun K hK => ?_
       go_simp
       refine (zjp c2 _).mono ?_
       rintro e wB ⟨rfl, rfl⟩
       try dsimp only
       refine hK.out _ _ ?_ (fun hHeld => nx ?_)
       ·(try dsimp only); exact (zvt _ w2).drew
       clear hK K
       refine tk 10 ?_
       refine tk 11 ?_
       refine wpAnyH_done (by kernel_rfl) ?_ _
       have HBD := zvq (HB.out.below (zvt _ w2).drew)
       clear hHeld HB HC1 HC2
       generalize w2.drew = w3 at *
       rcases hx : V.hexV c1 with _ | x
       ·have HUW : Hid (V.unwP s.data.toList = ([], false)) := zvq (xy HN.out (A1.out (.inl hx)))
        have hd1 : dvB (-1) c1 = (-1) := by unfold dvB; rw [hx]
        have HBE := zvq HBD.out.2.1
        clear hx A1 A2
        exact zyk
       ·have hd1 : dvB (-1) c1 = (x : Int) := by unfold dvB; rw [hx]
        have hx16 := V.zeg hx
        have hxn : ¬ (x : Int) < 0 := by omega
        have hxe : ((x : Int) == 16) = false := by rw [zvu]; omega
        rcases hy : V.hexV c2 with _ | y
        ·have HUW : Hid (V.unwP s.data.toList = ([], false)) := zvq (xy HN.out (A1.out (.inr hy)))
         have hd2 : dvB (-1) c2 = (-1) := by unfold dvB; rw [hy]
         have HBE := zvq HBD.out.2.1
         clear hx hy A1 A2
         exact zyk
        ·have hd2 : dvB (-1) c2 = (y : Int) := by unfold dvB; rw [hy]
         have hy16 := V.zeg hy
         have hyn : ¬ (y : Int) < 0 := by omega
         have hye : ((y : Int) == 16) = false := by rw [zvu]; omega
         have HA := zvq (A2.out x y hx hy)
         clear hx hy A1 A2
         obtain ⟨v, hv⟩ : ∃ v, v = UInt8.ofNat (16 * x + y) := ⟨_, rfl⟩
         have hvv : (v.toNat : Int) = 16 * (x : Int) + (y : Int) := by rw [hv]; simp; omega
         rw [← hv] at HA
         clear hv
         have hw1 : IntKind.i64.wrap (16 * (x : Int)) = 16 * (x : Int) := by unfold IntKind.wrap; simp [IntKind.signed, IntKind.bits]; omega
         have hw2 : IntKind.i64.wrap (16 * (x : Int) + (y : Int)) = 16 * (x : Int) + (y : Int) := by unfold IntKind.wrap; simp [IntKind.signed, IntKind.bits]; omega
         have hw3 : IntKind.u8.wrap (16 * (x : Int) + (y : Int)) = 16 * (x : Int) + (y : Int) := by unfold IntKind.wrap; simp [IntKind.signed, IntKind.bits]; omega
         have HVV := zvq hvv
         clear hvv
         have HPL := zaz v w3
         exact zwo
     ·exact zxv
    ·exact zw6
   ·obtain rfl : k = s.size := by omega
    have hg2 : V.qv s.data.toList = some out := by
     rw [hg, List.drop_of_length_le (by omega)]
     simp [V.qv]
    clear hg
    have HOUT := zvq hg2
    by_cases hs0 : s.size = 0
    ·have hov := hk0 hs0
     have hcv := conv_nil wr
     have HUW : Hid (V.unwP s.data.toList = ([], false)) := zvq (by
       have : s.data.toList = [] := List.length_eq_zero_iff.1 (by rw [zf]; exact hs0)
       rw [this]; rfl)
     have HBE := zvq HB.out.2.1
     obtain rfl : out = [] := List.length_eq_zero_iff.1 (by omega)
     simp only [List.length_nil, Value.slice.injEq] at hov
     obtain ⟨rfl, -, rfl⟩ := hov
     exact zyk
    ·exact zx7
theorem zz7 {P : Prop} (h : P := by
 go_enter Tryz.func100, Tryz.ntmps100
 go_wp2
 go_ret
 exact ⟨by rw [HD.out]; rfl, rfl⟩) : P := h
theorem zj2 (c : UInt8) (w : World) : Calls Tryz.prog 100 #[.int .u8 c.toNat] w fun e w' => e = .returned (.int .i64 (dvB 16 c)) /\ w' = w := by
 have hc := c.toNat_lt
 have hdv : dvB 16 c = if 48 ≤ c.toNat /\ c.toNat ≤ 57 then ((c.toNat : Int) - 48) else if 65 ≤ c.toNat /\ c.toNat ≤ 70 then ((c.toNat : Int) - 65 + 10) else 16 := by
  unfold dvB V.hexV
  by_cases h1 : 48 ≤ c.toNat /\ c.toNat ≤ 57
  ·rw [if_pos h1, if_pos h1]
   show ((c.toNat - 48 : Nat) : Int) = _
   omega
  ·rw [if_neg h1, if_neg h1]
   by_cases h2 : 65 ≤ c.toNat /\ c.toNat ≤ 70
   ·rw [if_pos h2, if_pos h2]
    show ((c.toNat - 55 : Nat) : Int) = _
    omega
   ·rw [if_neg h2, if_neg h2]
 obtain ⟨m, hm⟩ : ∃ m, m = c.toNat := ⟨_, rfl⟩
 rw [← hm] at hdv hc ⊢
 clear hm
 have HDV := zvq hdv
 clear hdv
 by_cases h1 : 48 ≤ m /\ m ≤ 57
 ·obtain ⟨h2, h3⟩ := h1
  have HD : Hid (dvB 16 c = (m : Int) - 48) := zvq (by rw [HDV.out, if_pos ⟨h2, h3⟩])
  have q1 : (48 : Int) ≤ (m : Int) := by omega
  have q2 : (m : Int) ≤ 57 := by omega
  have q3 : IntKind.u8.wrap ((m : Int) - 48) = (m : Int) - 48 := by unfold IntKind.wrap; simp [IntKind.signed, IntKind.bits]; omega
  have q4 : IntKind.i64.wrap ((m : Int) - 48) = (m : Int) - 48 := by unfold IntKind.wrap; simp [IntKind.signed, IntKind.bits]; omega
  exact zz7
 ·by_cases h4 : 65 ≤ m /\ m ≤ 70
  ·obtain ⟨h2, h3⟩ := h4
   have HD : Hid (dvB 16 c = (m : Int) - 65 + 10) := zvq (by rw [HDV.out, if_neg h1, if_pos ⟨h2, h3⟩])
   have q1 : (48 : Int) ≤ (m : Int) := by omega
   have q2 : ¬ (m : Int) ≤ 57 := by omega
   have q5 : (65 : Int) ≤ (m : Int) := by omega
   have q6 : (m : Int) ≤ 70 := by omega
   have q3 : IntKind.u8.wrap ((m : Int) - 65) = (m : Int) - 65 := by unfold IntKind.wrap; simp [IntKind.signed, IntKind.bits]; omega
   have q4 : IntKind.i64.wrap ((m : Int) - 65) = (m : Int) - 65 := by unfold IntKind.wrap; simp [IntKind.signed, IntKind.bits]; omega
   have q7 : IntKind.i64.wrap ((m : Int) - 65 + 10) = (m : Int) - 65 + 10 := by unfold IntKind.wrap; simp [IntKind.signed, IntKind.bits]; omega
   exact zz7
  ·have HD : Hid (dvB 16 c = 16) := zvq (by rw [HDV.out, if_neg h1, if_neg h4])
   have hcase : (¬ (48 : Int) ≤ (m : Int) /\ ¬ (65 : Int) ≤ (m : Int)) ∨ ((48 : Int) ≤ (m : Int) /\ ¬ (m : Int) ≤ 57 /\ ¬ (65 : Int) ≤ (m : Int)) ∨ ((48 : Int) ≤ (m : Int) /\ ¬ (m : Int) ≤ 57 /\ (65 : Int) ≤ (m : Int) /\ ¬ (m : Int) ≤ 70) := by omega
   clear h1 h4 HDV
   rcases hcase with ⟨q1, q2⟩ | ⟨q1, q2, q3⟩ | ⟨q1, q2, q3, q4⟩
   all_goals
    go_enter Tryz.func100, Tryz.ntmps100
    go_wp2
    go_ret
    exact ⟨by rw [HD.out]; rfl, rfl⟩
theorem z0h {P : Prop} (h : P := by
 go_enter Tryz.func70, Tryz.ntmps70
 go_wp2
 go_ret2
 exact ⟨rfl, zvt _ _⟩) : P := h
theorem zjk (s : ByteArray) (w : World) (hs : s.size ≤ 1000000) : Calls Tryz.prog 70 #[.string s] w fun e w' => e = .returned (.tuple #[.string ⟨(V.unwP s.data.toList).1.toArray⟩, .bool (V.unwP s.data.toList).2]) /\ Below w.heap.size w w' := by
 by_cases h126 : s.data.toList = [126]
 ·have hs1 : s = ⟨#[126]⟩ := jj (by rw [h126])
  subst hs1
  exact z0h
 ·by_cases h00 : s.data.toList = []
  ·have hs0 : s = ⟨#[]⟩ := jj (by rw [h00])
   subst hs0
   exact z0h
  ·have HN := zvq h126
   have hne : (s.data.toList == [126]) = false := zvu.2 h126
   have hne4 : (s.toList == [126]) = false := by rw [Lib.toList_data]; exact hne
   clear h126
   have hse : s.toList.isEmpty = false := by
    rw [Lib.toList_data]
    cases hq : s.data.toList with
    | nil => exact absurd hq h00
    | cons c r => rfl
   have HN0 := zvq h00
   clear h00
   go_enter Tryz.func70, Tryz.ntmps70
   go_wp2
   go_loopw [4, 5] (fun ov iv wx => ∃ (k : Nat) (out : V.Bs), k ≤ s.size /\ iv = .int .i64 k /\ Buf w.heap.size ov out w wx /\ V.qv s.data.toList = (V.qv (s.data.toList.drop k)).map (out ++ ·) /\ out.length ≤ k /\ (0 < k -> out ≠ []) /\ (k = 0 -> ov = .slice none 0 0)) (fun _ iv _ => s.size - (intOf iv).toNat)
   case atStart => exact ⟨0, [], Nat.zero_le _, rfl, Buf.nil (zvt _ _) (zvs _), by simp, zvs _, fun h => absurd h (by omega), fun _ => rfl⟩
   case round =>
    obtain ⟨k, out, hk, rfl, hb, hg, hol, hpos, hk0⟩ := hrel
    have HB := zvq hb
    obtain ⟨oa, oc, rfl⟩ := hb.slice
    have hl := zf s
    clear hb
    by_cases hlt : k < s.size
    ·have hk0c := hk0
     clear hk0 hpos
     have HAT := zvq (V.unw_at hg (k := k) (by omega))
     have he : s.data.toList[k]'(by omega) = s[k] := by simp; rfl
     have hs1 : (0 : Int) ≤ (k : Int) := by omega
     have hs2 : (k : Int) < (s.size : Int) := by omega
     obtain ⟨c, hc⟩ : ∃ c, c = s[k] := ⟨_, rfl⟩
     rw [he, ← hc] at HAT
     have HC := zvq hc
     have hc256 := c.toNat_lt
     clear he hc hg hk0c
     go_wp2_with fail
     rw [← HC.out]
     refine (zcc c wr).mono ?_
     rintro e w2 ⟨rfl, rfl⟩
     rcases hp : V.jd c with _ | _
     ·by_cases hc37 : c = 37
      ·have hq37 : ((c.toNat : Int) == 37) = true := by rw [hc37]; rfl
       by_cases hsh : s.size < k + 3
       ·exact zxh
       ·have he1 : s.data.toList[k + 1]'(by omega) = s[k + 1]'(by omega) := by simp; rfl
        have he2 : s.data.toList[k + 2]'(by omega) = s[k + 2]'(by omega) := by simp; rfl
        obtain ⟨c1, hc1⟩ : ∃ c1, c1 = s[k + 1]'(by omega) := ⟨_, rfl⟩
        obtain ⟨c2, hc2⟩ : ∃ c2, c2 = s[k + 2]'(by omega) := ⟨_, rfl⟩
        have HC1 : Hid (s.data.toList[((k : Int) + 1).toNat]? = some c1) := zvq (by rw [show ((k : Int) + 1).toNat = k + 1 by omega, List.getElem?_eq_getElem (by omega), he1, ← hc1])
        have HC2 : Hid (s.data.toList[((k : Int) + 2).toNat]? = some c2) := zvq (by rw [show ((k : Int) + 2).toNat = k + 2 by omega, List.getElem?_eq_getElem (by omega), he2, ← hc2])
        have A1 : Hid (V.hexV c1 = none ∨ V.hexV c2 = none -> V.qv s.data.toList = none) := zvq (fun h => HAT.out.2.2.2.1 (by omega) hc37 (by rw [he1, he2, ← hc1, ← hc2]; exact h))
        have h3 : k + 2 < s.data.toList.length := by omega
        have A2 := zvq (fun (x y : Nat) (hx : V.hexV c1 = some x) (hy : V.hexV c2 = some y) => HAT.out.2.2.2.2 h3 x y hc37 (by rw [he1, ← hc1]; exact hx) (by rw [he2, ← hc2]; exact hy))
        have hq1 : IntKind.i64.wrap ((k : Int) + 1) = (k : Int) + 1 := by unfold IntKind.wrap; simp [IntKind.signed, IntKind.bits]; omega
        have hq2 : IntKind.i64.wrap ((k : Int) + 2) = (k : Int) + 2 := by unfold IntKind.wrap; simp [IntKind.signed, IntKind.bits]; omega
        have hq3 : IntKind.i64.wrap ((s.size : Int) - (k : Int)) = (s.size : Int) - (k : Int) := by unfold IntKind.wrap; simp [IntKind.signed, IntKind.bits]; omega
        have hq4 : ¬ (s.size : Int) - (k : Int) < 3 := by omega
        have hq6 : ¬ (s.size : Int) ≤ (k : Int) + 2 := by omega
        have hle : k + 3 ≤ s.size := by omega
        subst hc37
        have hq5 : s[k] = 37 := HC.out.symm
        clear hp HAT HC hq37 hc1 hc2 he1 he2 hsh h3
        go_wp2_with fail
        refine wp_region_held_drew (S := (fun W' => Below w2.heap.size w2 W')) (by kernel_rfl) (by (try dsimp only); exact (zvt _ w2).drew) (fun hHeld => ?_)
        refine tk 0 ?_
        refine tk 1 ?_
        refine wpAnyH_take (i := 2) (v := (.int .i64 ((k : Int) + 1))) rfl (by kernel_rfl) (by kernel_rfl) (by kernel_rfl) (fun _ _ _ h => h) (Or.inl ⟨by rfl, fun w' hSw => by go_simp; try rfl⟩) (by assumption) ?_
        try simp only [zvl, zvm, zvn, Act.put, zvo, List.set_cons_succ, List.set_cons_zero]
        refine wpAnyH_take (i := 3) (v := (.int .u8 c1.toNat)) rfl (by kernel_rfl) (by kernel_rfl) (by kernel_rfl) (fun _ _ _ h => h) (Or.inl ⟨by rfl, fun w' hSw => xu rfl rfl rfl (by omega) HC1.out⟩) (by assumption) ?_
        try simp only [zvl, zvm, zvn, Act.put, zvo, List.set_cons_succ, List.set_cons_zero]
        refine tk 5 ?_
        refine tk 6 ?_
        refine wpAnyH_take (i := 7) (v := (.int .i64 ((k : Int) + 2))) rfl (by kernel_rfl) (by kernel_rfl) (by kernel_rfl) (fun _ _ _ h => h) (Or.inl ⟨by rfl, fun w' hSw => by go_simp; try rfl⟩) (by assumption) ?_
        try simp only [zvl, zvm, zvn, Act.put, zvo, List.set_cons_succ, List.set_cons_zero]
        refine wpAnyH_take (i := 8) (v := (.int .u8 c2.toNat)) rfl (by kernel_rfl) (by kernel_rfl) (by kernel_rfl) (fun _ _ _ h => h) (Or.inl ⟨by rfl, fun w' hSw => xu rfl rfl rfl (by omega) HC2.out⟩) (by assumption) ?_
        try simp only [zvl, zvm, zvn, Act.put, zvo, List.set_cons_succ, List.set_cons_zero]
        refine rd 4 fun K hK => ?_
        go_simp
        refine (zj2 c1 _).mono ?_
        rintro e wA ⟨rfl, rfl⟩
        try dsimp only
        refine hK.out _ _ ?_ (fun hHeld => nx ?_)
        ·(try dsimp only); exact (zvt _ w2).drew
        clear hK K
        refine rd 9 fun K hK => ?_
        go_simp
        refine (zj2 c2 _).mono ?_
        rintro e wB ⟨rfl, rfl⟩
        try dsimp only
        refine hK.out _ _ ?_ (fun hHeld => nx ?_)
        ·(try dsimp only); exact (zvt _ w2).drew
        clear hK K
        refine tk 10 ?_
        refine tk 11 ?_
        refine wpAnyH_done (by kernel_rfl) ?_ _
        have HBD := zvq (HB.out.below (zvt _ w2).drew)
        clear hHeld HB HC1 HC2
        generalize w2.drew = w3 at *
        rcases hx : V.hexV c1 with _ | x
        ·have HUW : Hid (V.unwP s.data.toList = ([], false)) := zvq (xy HN.out (A1.out (.inl hx)))
         have hd1 : dvB 16 c1 = 16 := by unfold dvB; rw [hx]
         have HBE := zvq HBD.out.2.1
         clear hx A1 A2
         exact zyk
        ·have hd1 : dvB 16 c1 = (x : Int) := by unfold dvB; rw [hx]
         have hx16 := V.zeg hx
         have hxn : ¬ (x : Int) < 0 := by omega
         have hxe : ((x : Int) == 16) = false := by rw [zvu]; omega
         rcases hy : V.hexV c2 with _ | y
         ·have HUW : Hid (V.unwP s.data.toList = ([], false)) := zvq (xy HN.out (A1.out (.inr hy)))
          have hd2 : dvB 16 c2 = 16 := by unfold dvB; rw [hy]
          have HBE := zvq HBD.out.2.1
          clear hx hy A1 A2
          exact zyk
         ·have hd2 : dvB 16 c2 = (y : Int) := by unfold dvB; rw [hy]
          have hy16 := V.zeg hy
          have hyn : ¬ (y : Int) < 0 := by omega
          have hye : ((y : Int) == 16) = false := by rw [zvu]; omega
          have HA := zvq (A2.out x y hx hy)
          clear hx hy A1 A2
          obtain ⟨v, hv⟩ : ∃ v, v = UInt8.ofNat (16 * x + y) := ⟨_, rfl⟩
          have hvv : (v.toNat : Int) = 16 * (x : Int) + (y : Int) := by rw [hv]; simp; omega
          rw [← hv] at HA
          clear hv
          have hw1 : IntKind.i64.wrap (16 * (x : Int)) = 16 * (x : Int) := by unfold IntKind.wrap; simp [IntKind.signed, IntKind.bits]; omega
          have hw2 : IntKind.i64.wrap (16 * (x : Int) + (y : Int)) = 16 * (x : Int) + (y : Int) := by unfold IntKind.wrap; simp [IntKind.signed, IntKind.bits]; omega
          have hw3 : IntKind.u8.wrap (16 * (x : Int) + (y : Int)) = 16 * (x : Int) + (y : Int) := by unfold IntKind.wrap; simp [IntKind.signed, IntKind.bits]; omega
          have HVV := zvq hvv
          clear hvv
          have HPL := zcc v w3
          exact zwo
      ·exact zxv
     ·exact zw6
    ·obtain rfl : k = s.size := by omega
     have hg2 : V.qv s.data.toList = some out := by
      rw [hg, List.drop_of_length_le (by omega)]
      simp [V.qv]
     clear hg
     have HOUT := zvq hg2
     by_cases hs0 : s.size = 0
     ·exact absurd (List.length_eq_zero_iff.1 (by rw [zf]; exact hs0)) HN0.out
     ·exact zx7
end Go.Proofs.YtiloljoancdcbaaGreatDoor
