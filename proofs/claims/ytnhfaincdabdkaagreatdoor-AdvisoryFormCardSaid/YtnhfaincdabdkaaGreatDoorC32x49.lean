/-
  Lemmas for the law.
-/
import Derived.Test.YtnhfaincdabdkaaGreatDoorC32x39
import Derived.Test.YtnhfaincdabdkaaGreatDoorC32x42
import Derived.Test.YtnhfaincdabdkaaGreatDoorC32x41
set_option linter.all false
set_option maxRecDepth 100000
set_option maxHeartbeats 6400000
namespace Go.Proofs.YtnhfaincdabdkaaGreatDoor
open Go.RowKit
theorem zgb (a : Option Addr) (m cap : Nat) (w : World) (hm : zg w) (hp : zai w) (ht : Nums w a m) (hmc : m ≤ cap) :
  Calls Tryz.prog 12 #[.slice a m cap] w fun e w' => e = .returned (.bool true) /\ Below w.heap.size w w' := by
 have HM := zuq hm
 have HP := zuq hp
 have HT := zuq (And.intro ht hmc)
 clear hm hp ht hmc
 go_enter Tryz.func12, Tryz.ntmps12
 go_wp2_with fail
 refine (zg0 a m cap 60 w HT.out.1 HT.out.2 (by decide)).mono ?_
 rintro e w1 ⟨rfl, ht1, hb1, hz1⟩
 have HT1 := zuq ht1
 have HB1 := zuq hb1
 clear ht1 hb1 hz1
 go_wp2_with fail
 refine (zdc w.heap.size 0 w1 (HM.out.below HB1.out) HT1.out (by decide)).mono ?_
 rintro e w2 ⟨x, u, rfl, hx, hu, ht2, hg2⟩
 have HB2 := zuq (HB1.out.trans (wj hg2 (zus _) HB1.out.size))
 have HL : Hid (x.id.length ≤ maxLen /\ x.aff.length ≤ maxLen) := zuq (by have := hx.idl; have := hx.len; unfold maxLen; omega)
 have HE := zuq hx.encV
 have HL3 := zuq hx.len
 have HPG : Hid (V.pkgs x = x.aff.map V.pk) := zuq (by unfold V.pkgs; rw [if_pos hx.ok])
 obtain ⟨pa, pc, rfl⟩ := hu.slice
 obtain ⟨hb3, c0, c1, c2, c3⟩ := zau x (.slice pa x.aff.length pc) w2
 have HB3 := zur HB2 hb3
 have HU3 := zuq (hu.below hb3)
 have HDP : Hid (V.decP (V.encV x).1 = (V.qk x, 0)) := zuq (by rw [HE.out]; exact V.zp9 (V.zd9 hx.enc))
 have HLN := zuq (V.encV_len (x := x) (by rw [HE.out]))
 clear hx hu ht2 hg2 hb3 HB2 HT1
 unfold advV
 go_wp2_with fail
 generalize w2.alloc (.cells #[.string ⟨x.id.toArray⟩, .int .i64 x.rev, .int .i64 x.sev, .slice pa x.aff.length pc] 41) = w3 at *
 refine (vz x (.slice pa x.aff.length pc) w3 (HM.out.below HB3.out) (HP.out.below HB3.out) HU3.out HL.out.1 HL.out.2).mono ?_
 intro e w4 he
 obtain ⟨u4, N4, W4, rfl, hbuf⟩ := he.1 (by rw [HE.out])
 have hb4 := he.2.2
 have HB4 := zur HB3 hb4
 have HU4 := zuq (HU3.out.below hb4)
 have HBI := zuq hbuf.bytesInA
 replace c0 := zb hb4 c0
 replace c1 := zb hb4 c1
 replace c2 := zb hb4 c2
 replace c3 := zb hb4 c3
 clear he hb4 HB3 HU3 hbuf HE
 generalize (V.encV x).1 = D at *
 obtain ⟨ua, uc, hue, hj⟩ := HBI.out
 subst hue
 clear hj
 go_wp2_with fail
 refine (zeq (.slice ua D.length uc) D w4 (HM.out.below HB4.out) HBI.out (by have := HLN.out; unfold maxLen; omega)).mono ?_
 rintro e w5 ⟨u5, rfl, hu5, hcap5, hb5⟩
 rw [HDP.out] at hu5 ⊢
 simp only at hu5 ⊢
 have HB5 := zur HB4 hb5
 have HU5 := zuq (HU4.out.below hb5)
 have HLS := zuq hu5
 replace c0 := zb hb5 c0
 replace c1 := zb hb5 c1
 replace c2 := zb hb5 c2
 replace c3 := zb hb5 c3
 clear hb5 hu5 hcap5 HB4 HU4 HBI HDP
 go_wp2_with fail
 refine (zcx x (.slice pa x.aff.length pc) w5 (HM.out.below HB5.out) HU5.out HL.out.1 HL.out.2).mono ?_
 rintro e w6 ⟨u6, rfl, hu6, hb6⟩
 rw [HPG.out] at hu6
 have HB6 := zur HB5 hb6
 have HPK := zuq hu6
 have HLS6 := zuq (HLS.out.below hb6)
 replace c3 := zb hb6 c3
 clear hb6 hu6 HB5 HU5 HLS c0 c1 c2
 obtain ⟨la, lc, hul⟩ : ∃ la lc, u5 = .slice la (V.qk x).length lc := by obtain ⟨a', c', e', _⟩ := HLS6.out; exact ⟨a', c', e'⟩
 have hal : (V.qk x).length = x.aff.length + 1 := by unfold V.qk V.js; rw [List.take_length, List.length_cons, List.length_map]
 obtain ⟨ka, kc, huk⟩ := HPK.out.slice
 rw [List.length_map] at huk
 rw [hal] at hul
 rw [hul] at HLS6 ⊢
 rw [huk] at HPK ⊢
 clear hul huk
 have HAL := zuq hal
 clear hal
 obtain ⟨n, hn⟩ : ∃ n, n = x.aff.length := ⟨_, rfl⟩
 rw [← hn] at c3 HLS6 HPK HAL ⊢
 have HN := zuq hn
 have hn3 : n ≤ 3 := by rw [hn]; exact HL3.out
 clear hn
 have wr0 : IntKind.i64.wrap (1 + (n : Int)) = 1 + (n : Int) := IntWalk.i64_in _ (by omega)
 have q1 : (((n + 1 : Nat) : Int) != 1 + (n : Int)) = false := by simp; omega
 have q2 : ((n : Int) != (n : Int)) = false := by simp
 have q3 : ((n + 1 : Nat) : Int) = 1 + (n : Int) := by omega
 obtain ⟨n1, hn1⟩ : ∃ n1, n1 = n + 1 := ⟨_, rfl⟩
 rw [← hn1] at q1 q3 HLS6 HAL ⊢
 have HN1 := zuq hn1
 clear hn1
 go_wp2_with fail
 clear wr0 q1 q2 q3
 go_loopw [9] (fun iv W => ∃ k : Nat, k ≤ n /\ iv = .int .i64 k /\ Below w6.heap.size w6 W) (fun iv _ => n - (intOf iv).toNat)
 case atStart => exact ⟨0, Nat.zero_le _, rfl, zut _ _⟩
 case round =>
  obtain ⟨k, hk, rfl, hbr⟩ := hrel
  have HBR := zuq hbr
  have HBE := zur HB6 hbr
  clear hbr
  by_cases hlt : k < n
  ·have hk2 : k < x.aff.length := by have := HN.out; omega
   have hk3 : k + 1 < (V.qk x).length := by have := HAL.out; have := HN1.out; omega
   obtain ⟨B, off, ul, hle, hBlt, hcl, hsl⟩ := (show Lines w6 (.slice la n1 lc) (V.qk x) from HLS6.out).at (k + 1) hk3
   subst hle
   have hline : (V.qk x)[k + 1] = V.ya x.aff[k] := by
    unfold V.qk V.js
    simp
   rw [hline] at hsl
   unfold V.ya at hsl
   obtain ⟨b, o, cc, hule, hblt, s0, s1, s2, s3⟩ := zkk hsl
   subst hule
   obtain ⟨g, og, hke, hglt, p0, p1⟩ := HPK.out.pk k (by rw [List.length_map]; exact hk2)
   subst hke
   have hpe : ((x.aff.map V.pk)[k]'(by rw [List.length_map]; exact hk2)) = V.pk x.aff[k] := by rw [List.getElem_map]
   rw [hpe] at p1
   have y0 := zb HBR.out hcl
   have y2 := zb HBR.out s2
   have z1 := zb HBR.out p1
   unfold V.pk at z1
   simp only at z1
   rw [← Nat.add_assoc] at y0
   have y0b : wr.cell? ⟨B, off + (k + 1), none⟩ = some (.slice (some ⟨b, o, none⟩) 4 cc) := by rw [← Nat.add_assoc]; exact y0
   have hn1 := HN1.out
   have i1 : (0 : Int) ≤ (k : Int) + 1 := by omega
   have i2 : (k : Int) + 1 < (n1 : Int) := by omega
   have i3 : ((k : Int) + 1).toNat = k + 1 := by omega
   have i4 : (0 : Int) ≤ (k : Int) := by omega
   have i5 : (k : Int) < (n : Int) := by omega
   have wr1 : IntKind.i64.wrap ((k : Int) + 1) = (k : Int) + 1 := IntWalk.i64_in _ (by omega)
   generalize x.aff[k] = f at *
   clear hcl s0 s1 s2 s3 p0 p1 hpe hline hsl hBlt hblt hglt hk2 hk3 HLS6 HPK hn1
   go_wp2_with fail
   go_quiet (fail)
   go_wp2
   go_roundw
   case rel => exact ⟨k + 1, by omega, by go_num, below_drewN HBR.out nq⟩
   case measure => simp [intOf]; omega
  ·obtain rfl : k = n := by omega
   go_wp2_with fail
   refine (zc3 wr (HM.out.below HBE.out) (HP.out.below HBE.out)).mono ?_
   rintro e w7 ⟨rfl, hb7⟩
   have HB7 := zur HBE hb7
   go_wp2
   go_ret
   exact ⟨zd rfl, HB7.out⟩
end Go.Proofs.YtnhfaincdabdkaaGreatDoor
