/-
  Lemmas for the law.
-/
import Derived.Test.YtnhfaincdabdkaaGreatDoorC32x39
import Derived.Test.YtnhfaincdabdkaaGreatDoorC32x42
import Derived.Test.YtnhfaincdabdkaaGreatDoorC32x41
set_option linter.all false
set_option maxRecDepth 100000
set_option maxHeartbeats 6400000
namespace Go.Proofs.YtnhfaincdabdkaaGreatDoor
open Go.RowKit
theorem V.cov_bad {x : V.Adv} {n : Int} {s v : V.Bs} (h : V.jk x = false) : V.covP x n s v = false := by
 unfold V.covP
 split
 ·rfl
 ·rw [h, Bool.and_false]
theorem V.noId (x : V.Adv) : V.jk ⟨[], x.rev, x.sev, x.aff⟩ = false := by
 unfold V.jk V.zf7
 rw [show V.zab [] = false by decide]
 rfl
theorem zgj (a : Option Addr) (m cap : Nat) (s : ByteArray) (w : World) (hm : zg w) (hp : zai w) (ht : Nums w a m) (hmc : m ≤ cap) (_hs : s.size ≤ maxLen) :
  Calls Tryz.prog 13 #[.slice a m cap, .string s] w fun e w' => e = .returned (.bool true) /\ Below w.heap.size w w' := by
 have HM := zuq hm
 have HP := zuq hp
 have HT := zuq (And.intro ht hmc)
 clear hm hp ht hmc
 go_enter Tryz.func13, Tryz.ntmps13
 go_wp2_with fail
 refine (zg0 a m cap 60 w HT.out.1 HT.out.2 (by decide)).mono ?_
 rintro e w1 ⟨rfl, ht1, hb1, hz1⟩
 have HT1 := zuq ht1
 have HB1 := zuq hb1
 clear ht1 hb1 hz1
 go_wp2_with fail
 refine (zdc w.heap.size 0 w1 (HM.out.below HB1.out) HT1.out (by decide)).mono ?_
 rintro e w2 ⟨x, u, rfl, hx, hu, ht2, hg2⟩
 have HB2 := zuq (HB1.out.trans (wj hg2 (zus _) HB1.out.size))
 have HLA : Hid (x.aff.length ≤ maxLen) := zuq (by have := hx.len; unfold maxLen; omega)
 have HL3 := zuq hx.len
 have HSN : Hid (∀ f ∈ x.aff, V.scheme f.sch = true) := zuq (fun f hf => (V.vl (V.xw (hx.snd f hf)).2.2.2).sch)
 have HBAD := zuq (V.noId x)
 obtain ⟨pa, pc, rfl⟩ := hu.slice
 have HB4 : Hid (Below w2.heap.size w2 (w2.alloc (.cells #[.string ⟨#[]⟩, .int .i64 x.rev, .int .i64 x.sev, .slice pa x.aff.length pc] 41))) := zuq ((zut _ w2).alloc (zus _) _)
 have HG4 : Hid ((w2.alloc (.cells #[.string ⟨#[]⟩, .int .i64 x.rev, .int .i64 x.sev, .slice pa x.aff.length pc] 41)).heap[w2.heap.size]? = some (.cells #[.string ⟨#[]⟩, .int .i64 x.rev, .int .i64 x.sev, .slice pa x.aff.length pc] 41 (0, 0))) := zuq (heap_alloc_new w2 _)
 have HU2 := zuq hu
 clear hx hu ht2 hg2 HT1 HB1
 unfold advV
 go_wp2_with fail
 generalize w2.alloc (.cells #[.string ⟨#[]⟩, .int .i64 x.rev, .int .i64 x.sev, .slice pa x.aff.length pc] 41) = w4 at *
 have HBW := zuq (HB2.out.trans (HB4.out.mono HB2.out.size))
 have HA4 := zuq (HU2.out.below HB4.out)
 have HX4 : Hid (w2.heap.size < w4.heap.size) := zuq (Array.getElem?_eq_some_iff.1 HG4.out).1
 generalize w2.heap.size = X at *
 clear HB4 HU2 HB2
 go_loopw [7] (fun iv W => ∃ k : Nat, k ≤ x.aff.length /\ iv = .int .i64 k /\ Below w4.heap.size w4 W) (fun iv _ => x.aff.length - (intOf iv).toNat)
 case atStart => exact ⟨0, Nat.zero_le _, rfl, zut _ _⟩
 case round =>
  obtain ⟨k, hk, rfl, hbr⟩ := hrel
  have HBR := zuq hbr
  have HBE := zur HBW hbr
  have hG := (hbr.block X HX4.out).trans HG4.out
  obtain ⟨x0, x1, x2, x3⟩ := yx hG
  have HAR := zuq (HA4.out.below hbr)
  have HMR := zuq (HM.out.below HBE.out)
  have hXr : X < wr.heap.size := Nat.lt_of_lt_of_le HX4.out hbr.size
  clear hbr hG
  by_cases hlt : k < x.aff.length
  ·obtain ⟨hwf, b, off, ua, uc, rfl, hblt, ha⟩ := HAR.out.at k hlt
   have HSC := zuq (HSN.out x.aff[k] (List.getElem_mem hlt))
   have i1 : (0 : Int) ≤ (k : Int) := by omega
   have i2 : (k : Int) < (x.aff.length : Int) := by omega
   have wr1 : IntKind.i64.wrap ((k : Int) + 1) = (k : Int) + 1 := IntWalk.i64_in _ (by have := HL3.out; omega)
   generalize x.aff[k] = f at *
   have e0 := ha.c0
   have e1 := ha.c1
   have e2 := ha.c2
   have e3 := ha.c3
   obtain ⟨hbY, y0, y1, y2, y3⟩ := zcn f (.slice ua f.its.length uc) wr
   have q0 := zb hbY x0
   have q1 := zb hbY x1
   have q2 := zb hbY x2
   have q3 := zb hbY x3
   have HBY := zur HBR hbY
   have HAY := zuq (HAR.out.below hbY)
   have HMY := zuq (HMR.out.below hbY)
   have HNY0 := zuq ((HT.out.1.below2A HBE.out).below2A hbY)
   have hzY : wr.heap.size < (wr.alloc (.cells #[.int .i64 f.sch, .string ⟨f.name.toArray⟩, .int .i64 f.rs, .slice ua f.its.length uc] 50)).heap.size := by simp
   clear hwf hblt ha hbY HAR HMR HBR HBE
   go_wp2_with fail
   clear e0 e1 e2 e3
   generalize wr.alloc (.cells #[.int .i64 f.sch, .string ⟨f.name.toArray⟩, .int .i64 f.rs, .slice ua f.its.length uc] 50) = wq at *
   generalize wr.heap.size = Y at *
   have hbD : Below wq.heap.size wq wq.drew := (zut _ wq).drew
   have HND := zuq (HNY0.out.below2A hbD)
   have HNX : Hid (some wq.drew.heap.size ≠ some X) := zuq (fun e => by cases e; exact absurd hXr (by show ¬ wq.heap.size < _; omega))
   have HNY : Hid (some wq.drew.heap.size ≠ some Y) := zuq (fun e => by cases e; exact absurd hzY (by show ¬ wq.heap.size < wq.heap.size; omega))
   have HZD : Hid (wq.heap.size ≤ wq.drew.heap.size) := zuq (zus _)
   replace x0 := zb hbD q0
   replace x1 := zb hbD q1
   replace x2 := zb hbD q2
   replace x3 := zb hbD q3
   replace y0 := zb hbD y0
   replace y1 := zb hbD y1
   replace y2 := zb hbD y2
   replace y3 := zb hbD y3
   clear q0 q1 q2 q3
   have HMR := HMY
   have HAR := HAY
   clear hbD HNY0 HMY HAY
   refine wp_region_held_drew (S := (fun W' => Below wq.heap.size wq W' /\ W'.cell? ⟨X, 0, none⟩ = some (.string ⟨#[]⟩) /\ W'.cell? ⟨X, 1, none⟩ = some (.int .i64 x.rev) /\ W'.cell? ⟨X, 2, none⟩ = some (.int .i64 x.sev) /\ W'.cell? ⟨X, 3, none⟩ = some (.slice (some ⟨b, off, none⟩) x.aff.length pc) /\ W'.cell? ⟨Y, 0, none⟩ = some (.int .i64 f.sch) /\ W'.cell? ⟨Y, 1, none⟩ = some (.string ⟨f.name.toArray⟩) /\ W'.cell? ⟨Y, 2, none⟩ = some (.int .i64 f.rs) /\ W'.cell? ⟨Y, 3, none⟩ = some (.slice ua f.its.length uc))) (by kernel_rfl) (⟨(zut _ _).drew, x0, x1, x2, x3, y0, y1, y2, y3⟩) (fun hHeld => ?_)
   generalize wq.drew = wd at *
   refine tk 0 ?_
   refine tk 1 ?_
   refine tk 2 ?_
   refine tk 3 ?_
   refine tk 4 ?_
   refine tk 5 ?_
   refine tk 6 ?_
   refine tk 8 ?_
   refine tk 9 ?_
   refine rd 7 fun K hK => ?_
   go_simp
   refine hK.out _ _ ?_ (fun hHeld => nx ?_)
   ·(try dsimp only); exact ⟨hHeld.1.alloc hHeld.1.size _, zb ((zut _ _).alloc (zus _) _) hHeld.2.1, zb ((zut _ _).alloc (zus _) _) hHeld.2.2.1, zb ((zut _ _).alloc (zus _) _) hHeld.2.2.2.1, zb ((zut _ _).alloc (zus _) _) hHeld.2.2.2.2.1, zb ((zut _ _).alloc (zus _) _) hHeld.2.2.2.2.2.1, zb ((zut _ _).alloc (zus _) _) hHeld.2.2.2.2.2.2.1, zb ((zut _ _).alloc (zus _) _) hHeld.2.2.2.2.2.2.2.1, zb ((zut _ _).alloc (zus _) _) hHeld.2.2.2.2.2.2.2.2⟩
   clear hK K
   refine rd 10 fun K hK => ?_
   go_simp
   have hbt : Below wd.heap.size wd (wd.alloc (.cells #[.slice a m cap, .int .i64 0] 81)) := ((zut _ _).alloc (zus _) _)
   have htp : Tape (wd.alloc (.cells #[.slice a m cap, .int .i64 0] 81)) wd.heap.size 0 := Tape.made HND.out hbt (zus _) (by rw [World.cell?_alloc_new]; rfl) (by rw [World.cell?_alloc_new]; rfl) (by rw [zu, if_pos rfl])
   refine (zdg wd.heap.size 0 f.sch _ htp (by decide) HSC.out).mono ?_
   rintro e w7 ⟨ver, hver, rfl, ht7, hg7⟩
   have hb7 := wj hg7 HZD.out hHeld.1.size
   try dsimp only
   refine hK.out _ _ ?_ (fun hHeld => nx ?_)
   ·(try dsimp only); exact ⟨hHeld.1.trans hb7, zw hg7 HNX.out hHeld.2.1, zw hg7 HNX.out hHeld.2.2.1, zw hg7 HNX.out hHeld.2.2.2.1, zw hg7 HNX.out hHeld.2.2.2.2.1, zw hg7 HNY.out hHeld.2.2.2.2.2.1, zw hg7 HNY.out hHeld.2.2.2.2.2.2.1, zw hg7 HNY.out hHeld.2.2.2.2.2.2.2.1, zw hg7 HNY.out hHeld.2.2.2.2.2.2.2.2⟩
   clear hK K
   refine rd 11 fun K hK => ?_
   go_simp
   refine (zeo ⟨[], x.rev, x.sev, x.aff⟩ (.slice (some ⟨b, off, none⟩) x.aff.length pc) f.sch f.name ver w7 (HMR.out.below hHeld.1) (HAR.out.below hHeld.1) (Nat.zero_le _) HLA.out (by have := (V.valid_len hver).2; unfold maxLen; omega)).mono ?_
   rintro e w8 ⟨rfl, hb8⟩
   rw [V.cov_bad HBAD.out]
   try dsimp only
   refine hK.out _ _ ?_ (fun hHeld => nx ?_)
   ·(try dsimp only); exact ⟨hHeld.1.trans (hb8.mono hHeld.1.size), zb hb8 hHeld.2.1, zb hb8 hHeld.2.2.1, zb hb8 hHeld.2.2.2.1, zb hb8 hHeld.2.2.2.2.1, zb hb8 hHeld.2.2.2.2.2.1, zb hb8 hHeld.2.2.2.2.2.2.1, zb hb8 hHeld.2.2.2.2.2.2.2.1, zb hb8 hHeld.2.2.2.2.2.2.2.2⟩
   clear hK K
   refine wpAnyH_done (by kernel_rfl) ?_ _
   have HBF := zuq (HBY.out.trans (hHeld.1.mono HBY.out.size))
   clear hHeld hb8 hb7 hg7 ht7 hver x0 x1 x2 x3 y0 y1 y2 y3
   go_wp2
   go_roundw
   case rel => exact ⟨k + 1, by omega, by go_num, HBF.out⟩
   case measure => simp [intOf]; omega
  ·obtain rfl : k = x.aff.length := by omega
   go_wp2_with fail
   refine (zcx ⟨[], x.rev, x.sev, x.aff⟩ (.slice pa x.aff.length pc) wr HMR.out HAR.out (Nat.zero_le _) HLA.out).mono ?_
   rintro e w5 ⟨u5, rfl, hu5, hb5⟩
   rw [show V.pkgs ⟨[], x.rev, x.sev, x.aff⟩ = [] by unfold V.pkgs; rw [if_neg (by rw [HBAD.out]; decide)]] at hu5
   obtain ⟨p5, c5, rfl⟩ := hu5.slice
   replace x0 := zb hb5 x0
   replace x1 := zb hb5 x1
   replace x2 := zb hb5 x2
   replace x3 := zb hb5 x3
   have HB5 := zur HBE hb5
   have HA5 := zuq (HAR.out.below hb5)
   clear hu5 hb5 HBE HAR HMR
   go_wp2_with fail
   refine (uo ⟨[], x.rev, x.sev, x.aff⟩ (.slice pa x.aff.length pc) w5 (HM.out.below HB5.out) HA5.out (Nat.zero_le _) HLA.out).mono ?_
   rintro e w6 ⟨rfl, hb6⟩
   rw [HBAD.out]
   have HB6 := zur HB5 hb6
   clear hb6 HB5 HA5 x0 x1 x2 x3
   go_wp2_with fail
   refine (zc3 w6 (HM.out.below HB6.out) (HP.out.below HB6.out)).mono ?_
   rintro e w7 ⟨rfl, hb7⟩
   have HB7 := zur HB6 hb7
   go_wp2
   go_ret
   exact ⟨zd rfl, HB7.out⟩
end Go.Proofs.YtnhfaincdabdkaaGreatDoor
