/-
  Lemmas for the law.
-/
import Derived.Test.YtnhfaincdabdkaaGreatDoorC36x19
import Derived.Test.YtnhfaincdabdkaaGreatDoorC36x16
import Derived.Test.YtnhfaincdabdkaaGreatDoorC36x18
import Derived.Test.YtnhfaincdabdkaaGreatDoorC36x37
import Derived.Test.YtnhfaincdabdkaaGreatDoorC36x33
import Derived.Deep.RegionHeld3
import Derived.Lib.BufferRead
set_option linter.all false
set_option maxRecDepth 100000
set_option maxHeartbeats 3200000
namespace Go.Proofs.YtnhfaincdabdkaaGreatDoor
open Go.RowKit
def V.unwP (s : V.Bs) : V.Bs × Bool := match V.unwR s with | some w => (w, true) | none => ([], false)
theorem digU_val : ∀ n : Fin 256, Lib.indexByte (ByteArray.mk #[48, 49, 50, 51, 52, 53, 54, 55, 56, 57, 65, 66, 67, 68, 69, 70]).data.toList (UInt8.ofNat n.val) = (match V.hexV (UInt8.ofNat n.val) with | some x => (x : Int) | none => -1) := by decide +kernel
def dvB (bad : Int) (c : UInt8) : Int := match V.hexV c with | some x => (x : Int) | none => bad
theorem zij (c : UInt8) (w : World) : Calls Tryz.prog 131 #[.string (ByteArray.mk #[48, 49, 50, 51, 52, 53, 54, 55, 56, 57, 65, 66, 67, 68, 69, 70]), .int .u8 c.toNat] w fun e w' => e = .returned (.int .i64 (dvB (-1) c)) /\ w' = w := by
 refine (Tryz.strings_IndexByte (ByteArray.mk #[48, 49, 50, 51, 52, 53, 54, 55, 56, 57, 65, 66, 67, 68, 69, 70]) c.toNat w).mono ?_
 rintro e w' ⟨rfl, rfl⟩
 refine ⟨?_, rfl⟩
 have h := digU_val ⟨c.toNat, c.toNat_lt⟩
 simp only [UInt8.ofNat_toNat] at h
 have e : ((c.toNat : Int)).toNat.toUInt8 = c := by simp
 rw [e, h]
 rfl
theorem unwP_end {S out : V.Bs} (h1 : S ≠ [126]) (h2 : V.qw S = some out) (h3 : out ≠ []) : V.unwP S = (out, true) := by
 unfold V.unwP V.unwR
 rw [if_neg h1, h2]
 simp [h3]
theorem zb4 {S : V.Bs} (h1 : S ≠ [126]) (h2 : V.qw S = none) : V.unwP S = ([], false) := by
 unfold V.unwP V.unwR
 rw [if_neg h1, h2]
theorem conv_nil (w : World) : (convert 22 9 (.slice none 0 0)).run Tryz.prog w = .ok (.string ⟨#[]⟩) w :=
 Lib.run_convert_nil_bytes w _ _ _ 0 Tryz.underlying22 Tryz.underlying5 Tryz.underlying9
theorem zxt {P : Prop} (h : P := by
 go_wp2
 go_ret2
 exact ⟨by rw [HUW.out]; rfl, HBE.out⟩) : P := h
theorem zk8 (s : ByteArray) (w : World) (hs : s.size ≤ 1000000) : Calls Tryz.prog 91 #[.string s] w fun e w' => e = .returned (.tuple #[.string ⟨(V.unwP s.data.toList).1.toArray⟩, .bool (V.unwP s.data.toList).2]) /\ Below w.heap.size w w' := by
 by_cases h126 : s.data.toList = [126]
 ·have hs1 : s = ⟨#[126]⟩ := kq (by rw [h126])
  subst hs1
  go_enter Tryz.func91, Tryz.ntmps91
  go_wp2
  go_ret2
  exact ⟨rfl, zu1 _ _⟩
 ·have HN := zuy h126
  have hne : (s.data.toList == [126]) = false := zu2.2 h126
  have hne4 : (s.toList == [126]) = false := by rw [Lib.toList_data]; exact hne
  clear h126
  go_enter Tryz.func91, Tryz.ntmps91
  go_wp2
  go_loopw [4, 5] (fun ov iv wx => ∃ (k : Nat) (out : V.Bs), k ≤ s.size /\ iv = .int .i64 k /\ Buf w.heap.size ov out w wx /\ V.qw s.data.toList = (V.qw (s.data.toList.drop k)).map (out ++ ·) /\ out.length ≤ k /\ (0 < k -> out ≠ []) /\ (k = 0 -> ov = .slice none 0 0)) (fun _ iv _ => s.size - (intOf iv).toNat)
  case atStart => exact ⟨0, [], Nat.zero_le _, rfl, Buf.nil (zu1 _ _) (zu0 _), by simp, zu0 _, fun h => absurd h (by omega), fun _ => rfl⟩
  case round =>
   obtain ⟨k, out, hk, rfl, hb, hg, hol, hpos, hk0⟩ := hrel
   have HB := zuy hb
   obtain ⟨oa, oc, rfl⟩ := hb.slice
   have hl := zf s
   clear hb
   by_cases hlt : k < s.size
   ·have hk0c := hk0
    clear hk0 hpos
    have HAT := zuy (V.unw_at hg (k := k) (by omega))
    have he : s.data.toList[k]'(by omega) = s[k] := by simp; rfl
    have hs1 : (0 : Int) ≤ (k : Int) := by omega
    have hs2 : (k : Int) < (s.size : Int) := by omega
    obtain ⟨c, hc⟩ : ∃ c, c = s[k] := ⟨_, rfl⟩
    rw [he, ← hc] at HAT
    have HC := zuy hc
    have hc256 := c.toNat_lt
    clear he hc hg hk0c
    go_wp2_with fail
    rw [← HC.out]
    refine (zae c wr).mono ?_
    rintro e w2 ⟨rfl, rfl⟩
    rcases hp : V.jq c with _ | _
    ·by_cases hc37 : c = 37
     ·have hq37 : ((c.toNat : Int) == 37) = true := by rw [hc37]; rfl
      by_cases hsh : s.size < k + 3
      ·have HUW : Hid (V.unwP s.data.toList = ([], false)) := zuy (zb4 HN.out (HAT.out.2.2.1 hc37 (by omega)))
       have hq1 : IntKind.i64.wrap ((k : Int) + 2) = (k : Int) + 2 := by unfold IntKind.wrap; simp [IntKind.signed, IntKind.bits]; omega
       have hq2 : (s.size : Int) ≤ (k : Int) + 2 := by omega
       have hq3 : IntKind.i64.wrap ((s.size : Int) - (k : Int)) = (s.size : Int) - (k : Int) := by unfold IntKind.wrap; simp [IntKind.signed, IntKind.bits]; omega
       have hq4 : (s.size : Int) - (k : Int) < 3 := by omega
       subst hc37
       have hq5 : s[k] = 37 := HC.out.symm
       have HBE := zuy HB.out.2.1
       clear hp HAT HC hq37
       exact zxt
      ·have he1 : s.data.toList[k + 1]'(by omega) = s[k + 1]'(by omega) := by simp; rfl
       have he2 : s.data.toList[k + 2]'(by omega) = s[k + 2]'(by omega) := by simp; rfl
       obtain ⟨c1, hc1⟩ : ∃ c1, c1 = s[k + 1]'(by omega) := ⟨_, rfl⟩
       obtain ⟨c2, hc2⟩ : ∃ c2, c2 = s[k + 2]'(by omega) := ⟨_, rfl⟩
       have HC1 : Hid (s.data.toList[((k : Int) + 1).toNat]? = some c1) := zuy (by rw [show ((k : Int) + 1).toNat = k + 1 by omega, List.getElem?_eq_getElem (by omega), he1, ← hc1])
       have HC2 : Hid (s.data.toList[((k : Int) + 2).toNat]? = some c2) := zuy (by rw [show ((k : Int) + 2).toNat = k + 2 by omega, List.getElem?_eq_getElem (by omega), he2, ← hc2])
       have A1 : Hid (V.hexV c1 = none ∨ V.hexV c2 = none -> V.qw s.data.toList = none) := zuy (fun h => HAT.out.2.2.2.1 (by omega) hc37 (by rw [he1, he2, ← hc1, ← hc2]; exact h))
       have h3 : k + 2 < s.data.toList.length := by omega
       have A2 := zuy (fun (x y : Nat) (hx : V.hexV c1 = some x) (hy : V.hexV c2 = some y) => HAT.out.2.2.2.2 h3 x y hc37 (by rw [he1, ← hc1]; exact hx) (by rw [he2, ← hc2]; exact hy))
       have hq1 : IntKind.i64.wrap ((k : Int) + 1) = (k : Int) + 1 := by unfold IntKind.wrap; simp [IntKind.signed, IntKind.bits]; omega
       have hq2 : IntKind.i64.wrap ((k : Int) + 2) = (k : Int) + 2 := by unfold IntKind.wrap; simp [IntKind.signed, IntKind.bits]; omega
       have hq3 : IntKind.i64.wrap ((s.size : Int) - (k : Int)) = (s.size : Int) - (k : Int) := by unfold IntKind.wrap; simp [IntKind.signed, IntKind.bits]; omega
       have hq4 : ¬ (s.size : Int) - (k : Int) < 3 := by omega
       have hq6 : ¬ (s.size : Int) ≤ (k : Int) + 2 := by omega
       have hle : k + 3 ≤ s.size := by omega
       subst hc37
       have hq5 : s[k] = 37 := HC.out.symm
       clear hp HAT HC hq37 hc1 hc2 he1 he2 hsh h3
       go_wp2_with fail
       refine wp_region_held_drew (S := (fun W' => Below w2.heap.size w2 W')) (by kernel_rfl) (by (try dsimp only); exact (zu1 _ w2).drew) (fun hHeld => ?_)
       refine tk 0 ?_
       refine tk 1 ?_
       refine wpAnyH_take (i := 2) (v := (.int .i64 ((k : Int) + 1))) rfl (by kernel_rfl) (by kernel_rfl) (by kernel_rfl) (fun _ _ _ h => h) (Or.inl ⟨by rfl, fun w' hSw => by go_simp; try rfl⟩) (by assumption) ?_
       try simp only [zut, zuu, zuv, Act.put, zuw, List.set_cons_succ, List.set_cons_zero]
       refine wpAnyH_take (i := 3) (v := (.int .u8 c1.toNat)) rfl (by kernel_rfl) (by kernel_rfl) (by kernel_rfl) (fun _ _ _ h => h) (Or.inl ⟨by rfl, fun w' hSw => zb6 rfl rfl rfl (by omega) HC1.out⟩) (by assumption) ?_
       try simp only [zut, zuu, zuv, Act.put, zuw, List.set_cons_succ, List.set_cons_zero]
       refine tk 5 ?_
       refine tk 6 ?_
       refine wpAnyH_take (i := 7) (v := (.int .i64 ((k : Int) + 2))) rfl (by kernel_rfl) (by kernel_rfl) (by kernel_rfl) (fun _ _ _ h => h) (Or.inl ⟨by rfl, fun w' hSw => by go_simp; try rfl⟩) (by assumption) ?_
       try simp only [zut, zuu, zuv, Act.put, zuw, List.set_cons_succ, List.set_cons_zero]
       refine wpAnyH_take (i := 8) (v := (.int .u8 c2.toNat)) rfl (by kernel_rfl) (by kernel_rfl) (by kernel_rfl) (fun _ _ _ h => h) (Or.inl ⟨by rfl, fun w' hSw => zb6 rfl rfl rfl (by omega) HC2.out⟩) (by assumption) ?_
       try simp only [zut, zuu, zuv, Act.put, zuw, List.set_cons_succ, List.set_cons_zero]
       refine rd 4 fun K hK => ?_
       go_simp
       refine (zij c1 _).mono ?_
       rintro e wA ⟨rfl, rfl⟩
       try dsimp only
       refine hK.out _ _ ?_ (fun hHeld => nx ?_)
       ·(try dsimp only); exact (zu1 _ w2).drew
       clear hK K
       refine rd 9 fun K hK => ?_
       go_simp
       refine (zij c2 _).mono ?_
       rintro e wB ⟨rfl, rfl⟩
       try dsimp only
       refine hK.out _ _ ?_ (fun hHeld => nx ?_)
       ·(try dsimp only); exact (zu1 _ w2).drew
       clear hK K
       refine tk 10 ?_
       refine tk 11 ?_
       refine wpAnyH_done (by kernel_rfl) ?_ _
       have HBD := zuy (HB.out.below (zu1 _ w2).drew)
       clear hHeld HB HC1 HC2
       generalize w2.drew = w3 at *
       rcases hx : V.hexV c1 with _ | x
       ·have HUW : Hid (V.unwP s.data.toList = ([], false)) := zuy (zb4 HN.out (A1.out (.inl hx)))
        have hd1 : dvB (-1) c1 = (-1) := by unfold dvB; rw [hx]
        have HBE := zuy HBD.out.2.1
        clear hx A1 A2
        exact zxt
       ·have hd1 : dvB (-1) c1 = (x : Int) := by unfold dvB; rw [hx]
        have hx16 := V.zhx hx
        have hxn : ¬ (x : Int) < 0 := by omega
        have hxe : ((x : Int) == 16) = false := by rw [zu2]; omega
        rcases hy : V.hexV c2 with _ | y
        ·have HUW : Hid (V.unwP s.data.toList = ([], false)) := zuy (zb4 HN.out (A1.out (.inr hy)))
         have hd2 : dvB (-1) c2 = (-1) := by unfold dvB; rw [hy]
         have HBE := zuy HBD.out.2.1
         clear hx hy A1 A2
         exact zxt
        ·have hd2 : dvB (-1) c2 = (y : Int) := by unfold dvB; rw [hy]
         have hy16 := V.zhx hy
         have hyn : ¬ (y : Int) < 0 := by omega
         have hye : ((y : Int) == 16) = false := by rw [zu2]; omega
         have HA := zuy (A2.out x y hx hy)
         clear hx hy A1 A2
         obtain ⟨v, hv⟩ : ∃ v, v = UInt8.ofNat (16 * x + y) := ⟨_, rfl⟩
         have hvv : (v.toNat : Int) = 16 * (x : Int) + (y : Int) := by rw [hv]; simp; omega
         rw [← hv] at HA
         clear hv
         have hw1 : IntKind.i64.wrap (16 * (x : Int)) = 16 * (x : Int) := by unfold IntKind.wrap; simp [IntKind.signed, IntKind.bits]; omega
         have hw2 : IntKind.i64.wrap (16 * (x : Int) + (y : Int)) = 16 * (x : Int) + (y : Int) := by unfold IntKind.wrap; simp [IntKind.signed, IntKind.bits]; omega
         have hw3 : IntKind.u8.wrap (16 * (x : Int) + (y : Int)) = 16 * (x : Int) + (y : Int) := by unfold IntKind.wrap; simp [IntKind.signed, IntKind.bits]; omega
         have HVV := zuy hvv
         clear hvv
         have HPL := zae v w3
         rw [HVV.out] at HPL
         have HPL := zuy HPL
         go_wp2_with fail
         refine HPL.out.mono ?_
         rintro e w4 ⟨rfl, rfl⟩
         clear HPL
         rcases hp2 : V.jq v with _ | _
         ·have HNX := zuy (HA.out.2 hp2)
          have HB2 : Hid (Buf w.heap.size (.slice oa out.length oc) out w (w4.alloc (.cells #[.int .u8 (16 * (x : Int) + (y : Int))] 5))) := zuy (HBD.out.below ((zu1 _ w4).alloc (zu0 _) _))
          have HBN : Hid (∀ j u, (bvals [v])[j]? = some u -> (w4.alloc (.cells #[.int .u8 (16 * (x : Int) + (y : Int))] 5)).cell? ⟨w4.heap.size, j, none⟩ = some u) := zuy (by rw [← HVV.out]; exact zau [v] w4)
          clear hp2 HA
          go_wp2_with (first | (refine zda rfl _ _ rfl w.heap.size (.slice oa out.length oc) out w rfl HB2.out w4.heap.size 1 [v] rfl HBN.out (by simp; omega) ?_; intro v9 w9 hb9) | fail)
          have HB9 := zuy hb9
          clear hb9 HB2 HBN HBD
          go_wp2
          go_roundw
          case rel => exact ⟨k + 3, out ++ [v], hle, by go_num, HB9.out, HNX.out, by simp; omega, fun _ => by simp, fun h => absurd h (by omega)⟩
          case measure => simp [intOf]; omega
         ·have HUW : Hid (V.unwP s.data.toList = ([], false)) := zuy (zb4 HN.out (HA.out.1 hp2))
          have HBE := zuy HBD.out.2.1
          clear hp2 HA
          exact zxt
     ·have HUW : Hid (V.unwP s.data.toList = ([], false)) := zuy (zb4 HN.out (HAT.out.2.1 hp hc37))
      have hq1 : ¬ ((c.toNat : Int) = 37) := fun e => hc37 (by apply UInt8.toNat_inj.1; have : c.toNat = 37 := by omega
                                                               rw [this]; rfl)
      have hq2 : ((c.toNat : Int) == 37) = false := zu2.2 hq1
      have HBE := zuy HB.out.2.1
      rw [HC.out] at hq1 hq2
      clear hp HAT
      exact zxt
    ·have HNX := zuy (HAT.out.1 hp)
     clear hp HAT
     have HB2 : Hid (Buf w.heap.size (.slice oa out.length oc) out w (w2.alloc (.cells #[.int .u8 s[k].toNat] 5))) := zuy (HB.out.below ((zu1 _ w2).alloc (zu0 _) _))
     have HBN : Hid (∀ j u, (bvals [c])[j]? = some u -> (w2.alloc (.cells #[.int .u8 s[k].toNat] 5)).cell? ⟨w2.heap.size, j, none⟩ = some u) := zuy (by rw [← HC.out]; exact zau [c] w2)
     go_wp2_with (first | (refine zda rfl _ _ rfl w.heap.size (.slice oa out.length oc) out w rfl HB2.out w2.heap.size 1 [c] rfl HBN.out (by simp; omega) ?_; intro v9 w9 hb9) | fail)
     have HB9 := zuy hb9
     clear hb9 HB2 HBN HB HC
     go_wp2
     go_roundw
     case rel => exact ⟨k + 1, out ++ [c], by omega, by go_num, HB9.out, HNX.out, by simp; omega, fun _ => by simp, fun h => absurd h (by omega)⟩
     case measure => simp [intOf]; omega
   ·obtain rfl : k = s.size := by omega
    have hg2 : V.qw s.data.toList = some out := by
     rw [hg, List.drop_of_length_le (by omega)]
     simp [V.qw]
    clear hg
    have HOUT := zuy hg2
    by_cases hs0 : s.size = 0
    ·have hov := hk0 hs0
     have hcv := conv_nil wr
     have HUW : Hid (V.unwP s.data.toList = ([], false)) := zuy (by
       have : s.data.toList = [] := List.length_eq_zero_iff.1 (by rw [zf]; exact hs0)
       rw [this]; rfl)
     have HBE := zuy HB.out.2.1
     obtain rfl : out = [] := List.length_eq_zero_iff.1 (by omega)
     simp only [List.length_nil, Value.slice.injEq] at hov
     obtain ⟨rfl, -, rfl⟩ := hov
     exact zxt
    ·have HUW : Hid (V.unwP s.data.toList = (out, true)) := zuy (unwP_end HN.out HOUT.out (hpos (by omega)))
     have hcv := zi3 HB.out (List.length_pos_iff.2 (hpos (by omega)))
     have hop := List.length_pos_iff.2 (hpos (by omega))
     have hop2 : (0 : Int) < (out.length : Int) := by omega
     have HBL := zuy HB.out.2.1
     go_wp2
     go_ret2
     exact ⟨by rw [HUW.out]; rfl, HBL.out⟩
open Go.RowKit
namespace V
theorem ziq (s : Bs) : unwP s = ([], false) ∨ ∃ w, unwP s = (w, true) /\ unwR s = some w := by
 unfold unwP
 cases unwR s with
 | none => exact .inl rfl
 | some w => exact .inr ⟨w, rfl, rfl⟩
theorem unwR_len {s w : Bs} (h : unwR s = some w) : w.length ≤ s.length := by
 have h1 := zbo w
 rw [zlw h] at h1
 rw [h1]
 unfold zaa
 have := le_sum w
 omega
theorem zrx (c : UInt8) {s x : Bs} (h : x ∈ ze c s) : x.length ≤ s.length := by
 have h1 := zic c s
 have h2 : ∀ {l : List Bs} {x : Bs}, x ∈ l -> x.length + 1 ≤ (l.map fun x => x.length + 1).sum := by
  intro l x hx
  induction l with
  | nil => cases hx
  | cons y l ih =>
   rw [List.map_cons, List.sum_cons]
   rcases List.mem_cons.1 hx with rfl | hx
   ·omega
   ·have := ih hx; omega
 have := h2 h
 omega
theorem zr6 (c : UInt8) (s : Bs) : (ze c s).length ≤ s.length + 1 := by
 have h1 := zic c s
 have h2 : ∀ l : List Bs, l.length ≤ (l.map fun x => x.length + 1).sum := by
  intro l
  induction l with
  | nil => simp
  | cons y l ih => rw [List.map_cons, List.sum_cons, List.length_cons]; omega
 have := h2 (ze c s)
 omega
theorem zl6 : ∀ {P l : List Bs} {M : Nat}, qz P = some l -> (∀ s ∈ P, s.length ≤ M) -> ∀ w ∈ l, w.length ≤ M
 | [], l, M, h, _ => by cases h; intro w hw; cases hw
 | s :: P, l, M, h, hm => by
  rw [qz] at h
  cases hs : unwR s with
  | none => rw [hs] at h; cases h
  | some w =>
   rw [hs] at h
   simp only at h
   cases hr : qz P with
   | none => rw [hr] at h; cases h
   | some l' =>
    rw [hr] at h
    cases h
    intro x hx
    rcases List.mem_cons.1 hx with rfl | hx
    ·have := unwR_len hs
     have := hm s (List.mem_cons_self ..)
     omega
    ·exact zl6 hr (fun s hs => hm s (List.mem_cons_of_mem _ hs)) x hx
end V
def zba (w : World) (v : Value) (bs : V.Bs) : Prop :=
 ∃ a cap, v = .slice a bs.length cap /\ bs.length ≤ cap /\ ∀ j (h : j < bs.length), ∃ b off, a = some ⟨b, off, none⟩ /\ b < w.heap.size /\ w.cell? ⟨b, off + j, none⟩ = some (.int .u8 (bs[j]).toNat)
theorem zba.below {w w' : World} {v : Value} {bs : V.Bs} (h : zba w v bs) (hb : Below w.heap.size w w') : zba w' v bs := by
 obtain ⟨a, cap, e, hc, hat⟩ := h
 refine ⟨a, cap, e, hc, fun j hj => ?_⟩
 obtain ⟨b, off, ea, hlt, hr⟩ := hat j hj
 exact zy6
theorem zi9 (w : World) (g off n cap : Nat) (bs : V.Bs) (hn : bs.length = n) (hc : ∀ j (h : j < bs.length), w.cell? ⟨g, off + j, none⟩ = some (.int .u8 (bs[j]).toNat)) :
  (convert 22 9 (.slice (some ⟨g, off, none⟩) n cap)).run Tryz.prog w = .ok (.string ⟨bs.toArray⟩) w := by
 subst hn
 have r := run_convert_bytes_arg (P := Tryz.prog) w 22 5 Tryz.underlying22 Tryz.underlying5 g off bs.length cap (bs.map fun b => (b.toNat : Int)) (by simp) (fun i hi => by
   rw [hc i hi, List.getD_eq_getElem?_getD, List.getElem?_map, List.getElem?_eq_getElem hi]
   rfl) 9 Tryz.underlying9
 refine r.trans (congrArg (fun x => Result.ok (Value.string x) w) (kq ?_))
 rw [strOfNums_data, List.map_map]
 simp only [zad]
 conv => rhs; rw [← List.map_id bs]
 apply List.map_congr_left
 intro b _
 simp
def wrdE (s : V.Bs) : List Value := [.string ⟨s.toArray⟩]
theorem wrdE_len (s : V.Bs) : (wrdE s).length = 1 := rfl
theorem wrdE_one (s : V.Bs) : ∀ u ∈ wrdE s, u.oneCell' = true := by
 intro u hu
 simp [wrdE] at hu
 subst hu
 rfl
theorem wrdInfo : xh 9 1 16 := by
 have h : (match Tryz.prog.info? 9 with | some i => i.size == 1 && (i.bytes == 16 && (match i.zero with | some z => z.cells.size == 1 | none => false)) | none => false) = true := by kernel_rfl
 unfold xh
 cases hq : Tryz.prog.info? 9 with
 | none => rw [hq] at h; cases h
 | some i =>
  exact zve
theorem wrd_strs {w : World} {N : Nat} {v : Value} {l : List V.Bs} (h : GRow 9 1 wrdE w N v l) : Strs w v l := by
 obtain ⟨a, cap, rfl⟩ := GRow.slice h
 refine ⟨a, cap, rfl, fun j hj => ?_⟩
 obtain ⟨g, cap2, e, hN, hg, hc⟩ := GRow.at wrdE_len h j hj
 cases e
 exact ⟨g, 0, rfl, hg, by simpa using hc 0 _ rfl⟩
theorem Lines.nil (w : World) : Lines w (.slice none 0 0) [] := ⟨none, 0, rfl, fun j h => by simp at h⟩
def CapOk (v : Value) : Prop := ∃ a n c, v = .slice a n c /\ n ≤ c
theorem LRow.cap {N : Nat} {w : World} {v : Value} {us : List Lsl} {ls : List (List V.Bs)} (h : LRow N w v us ls) : CapOk v := by
 rcases h.row.2 with ⟨rfl, hn⟩ | ⟨g, cap, cur, rfl, _, _, hc, _⟩
 ·exact ⟨_, _, _, rfl, zu0 _⟩
 ·exact ⟨_, _, _, rfl, hc⟩
def zam (bs : V.Bs) (w : World) (e : Ending) (w' : World) : Prop :=
 ∃ u, e = .returned (.tuple #[u, .int .i64 (V.decP bs).2]) /\ Lines w' u (V.decP bs).1 /\ CapOk u /\ Below w.heap.size w w'
theorem zam.err {bs : V.Bs} {w w' : World} {c : Int} (h : V.decP bs = ([], c)) (hb : Below w.heap.size w w') : zam bs w (.returned (.tuple #[.slice none 0 0, .int .i64 c])) w' :=
 ⟨_, by rw [h], by rw [h]; exact Lines.nil _, ⟨_, _, _, rfl, zu0 _⟩, hb⟩
open Go.RowKit
theorem Lines.at {w : World} {a : Option Addr} {n cap : Nat} {ls : List (List V.Bs)} (h : Lines w (.slice a n cap) ls) (j : Nat) (hj : j < ls.length) : ∃ b off u, a = some ⟨b, off, none⟩ /\ b < w.heap.size /\ w.cell? ⟨b, off + j, none⟩ = some u /\ Strs w u ls[j] := by
 obtain ⟨a', c, e, hc⟩ := h
 cases e
 exact hc j hj
theorem zq2 {w : World} {B off cap m : Nat} {l0 : List V.Bs} {rest : List (List V.Bs)} (h : Lines w (.slice (some ⟨B, off, none⟩) m cap) (l0 :: rest)) (hm : m = rest.length + 1) (hc : m ≤ cap) :
  ∃ o', (if cap = 1 then some (⟨B, off, none⟩ : Addr) else some ⟨B, off + 1, none⟩) = some ⟨B, o', none⟩ /\ ∀ j (hj : j < rest.length), ∃ u, w.cell? ⟨B, o' + j, none⟩ = some u /\ Strs w u rest[j] := by
 by_cases h1 : cap = 1
 ·refine ⟨off, if_pos h1, fun j hj => by omega⟩
 ·refine ⟨off + 1, if_neg h1, fun j hj => ?_⟩
  obtain ⟨b, o, u, e, _, hu, hs⟩ := h.at (j + 1) (by simp; omega)
  cases e
  refine ⟨u, ?_, by simpa using hs⟩
  rw [Nat.add_assoc, Nat.add_comm 1 j]
  exact hu
theorem V.decP_words {bs : V.Bs} : ∀ l ∈ (V.decP bs).1, ∀ x ∈ l, x.length ≤ 32768 := by
 intro l hl x hx
 unfold V.decP at hl
 split at hl
 ·simp at hl
 ·split at hl
  ·rename_i ls hls
   split at hl
   ·simp only at hl
    have hp : ∀ (r : List V.Bs) (ls : List (List V.Bs)), V.ji r = some ls -> ∀ l ∈ ls, V.chk l = 0 := by
     intro r
     induction r with
     | nil => intro ls h; simp [V.ji] at h
     | cons x t ih =>
      intro ls h
      by_cases ht : t = []
      ·subst ht
       unfold V.ji at h
       split at h
       ·cases h; intro l hl; simp at hl
       ·cases h
      ·rw [V.zdj ht] at h
       split at h
       ·cases h
       ·rename_i l0 _
        split at h
        ·rename_i hc
         rw [Option.map_eq_some_iff] at h
         obtain ⟨ls', h1, rfl⟩ := h
         intro l hl
         rcases List.mem_cons.1 hl with rfl | hl
         ·exact hc
         ·exact ih _ h1 l hl
        ·cases h
    exact (V.zdn.1 (hp _ _ hls l hl)).2.2 x hx
   ·simp at hl
  ·simp at hl
theorem V.decP_len (bs : V.Bs) : (V.decP bs).1.length ≤ 1000 := by
 unfold V.decP
 split
 ·simp
 ·split
  ·split
   ·assumption
   ·simp
  ·simp
end Go.Proofs.YtnhfaincdabdkaaGreatDoor
