/-
  Lemmas for the law.
-/
import Derived.Test.YtbikeahmldobkaaGreatDoorC42x20
import Derived.Test.YtbikeahmldobkaaGreatDoorC42x25
import Derived.Test.YtbikeahmldobkaaGreatDoorC42x21
import Derived.Test.YtbikeahmldobkaaGreatDoorC42x22
set_option linter.all false
set_option maxRecDepth 100000
set_option maxHeartbeats 3200000
namespace Go.Proofs.YtbikeahmldobkaaGreatDoor
open Go.RowKit
theorem zyd {P : Prop} (h : P := by
 (try dsimp only); go_split_ands; exact ⟨zk.below (by assumption) hbc5, zv8 hbc5, zv8 hbc5, zv8 hbc5, zv8 hbc5, zv8 hbc5, zv8 hbc5, zv8 hbc5, zv8 hbc5, zv8 hbc5, zv8 hbc5, zv8 hbc5⟩) : P := h
theorem zye {P : Prop} (h : P := by
 (try dsimp only); go_split_ands; exact ⟨zk.below (by assumption) hbc3, zv8 hbc3, zv8 hbc3, zv8 hbc3, zv8 hbc3, zv8 hbc3, zv8 hbc3, zv8 hbc3, zv8 hbc3, zv8 hbc3, zv8 hbc3, zv8 hbc3⟩) : P := h
theorem zzr {P : Prop} (h : P := by
 go_wp2
 go_roundw
 case rel => exact ⟨k + 1, by omega, by go_num, HY.out, HBZ.out⟩
 case measure => simp [intOf]; omega) : P := h
theorem zak (n : Int) (v : Value) (l : List V.Itv) (a b : V.Ec) (w : World) (hm : zk w) (hn : V.scheme n = true) (hv : Itvs w v l) (hB : ∀ x ∈ l, V.zr n x = true) (ha : V.EcOk n a) (hb : V.EcOk n b) (hl : l.length ≤ 1000) :
  Calls Tryz.prog 205 #[setV n v, ecV a, ecV b] w fun e w' => e = .returned (.bool (V.ju n l a b)) /\ Below w.heap.size w w' := by
 have HV := zv2 hv
 obtain ⟨va, vc, rfl⟩ := hv.slice
 have HA := zv2 ha
 have HBE := zv2 hb
 have HSC := zv2 hn
 have h8 := zv2 hB
 obtain ⟨p, hp⟩ : ∃ p : V.Itv -> Bool, p = fun x => decide (V.ecmp n (V.eLow x) a ≤ 0) && decide (V.ecmp n b (V.kr x) ≤ 0) := ⟨_, rfl⟩
 have HF : Hid (V.ju n l a b = l.any p) := zv2 (by rw [hp]; rfl)
 have HP := zv2 hp
 have g4 : Below w.heap.size w (((w.alloc (.cells #[.int .i64 n, .slice va l.length vc] 68)).alloc (.cells #[.int .i64 a.e, .string ⟨a.v.toArray⟩, .int .i64 a.s] 168)).alloc (.cells #[.int .i64 b.e, .string ⟨b.v.toArray⟩, .int .i64 b.s] 168)) := (((zv5 _ _).alloc (zv4 _) _).alloc (by simp) _).alloc (by simp; omega) _
 have HB0 := zv2 g4
 have HM := zv2 (hm.below g4)
 have c0 : (((w.alloc (.cells #[.int .i64 n, .slice va l.length vc] 68)).alloc (.cells #[.int .i64 a.e, .string ⟨a.v.toArray⟩, .int .i64 a.s] 168)).alloc (.cells #[.int .i64 b.e, .string ⟨b.v.toArray⟩, .int .i64 b.s] 168)).cell? ⟨w.heap.size, 0, none⟩ = some (.int .i64 n) := by simp [zh]; try omega
 have c1 : (((w.alloc (.cells #[.int .i64 n, .slice va l.length vc] 68)).alloc (.cells #[.int .i64 a.e, .string ⟨a.v.toArray⟩, .int .i64 a.s] 168)).alloc (.cells #[.int .i64 b.e, .string ⟨b.v.toArray⟩, .int .i64 b.s] 168)).cell? ⟨w.heap.size, 1, none⟩ = some (.slice va l.length vc) := by simp [zh]; try omega
 have a0 : (((w.alloc (.cells #[.int .i64 n, .slice va l.length vc] 68)).alloc (.cells #[.int .i64 a.e, .string ⟨a.v.toArray⟩, .int .i64 a.s] 168)).alloc (.cells #[.int .i64 b.e, .string ⟨b.v.toArray⟩, .int .i64 b.s] 168)).cell? ⟨w.heap.size + 1, 0, none⟩ = some (.int .i64 a.e) := by simp [zh]
 have a1 : (((w.alloc (.cells #[.int .i64 n, .slice va l.length vc] 68)).alloc (.cells #[.int .i64 a.e, .string ⟨a.v.toArray⟩, .int .i64 a.s] 168)).alloc (.cells #[.int .i64 b.e, .string ⟨b.v.toArray⟩, .int .i64 b.s] 168)).cell? ⟨w.heap.size + 1, 1, none⟩ = some (.string ⟨a.v.toArray⟩) := by simp [zh]
 have a2 : (((w.alloc (.cells #[.int .i64 n, .slice va l.length vc] 68)).alloc (.cells #[.int .i64 a.e, .string ⟨a.v.toArray⟩, .int .i64 a.s] 168)).alloc (.cells #[.int .i64 b.e, .string ⟨b.v.toArray⟩, .int .i64 b.s] 168)).cell? ⟨w.heap.size + 1, 2, none⟩ = some (.int .i64 a.s) := by simp [zh]
 have b0 : (((w.alloc (.cells #[.int .i64 n, .slice va l.length vc] 68)).alloc (.cells #[.int .i64 a.e, .string ⟨a.v.toArray⟩, .int .i64 a.s] 168)).alloc (.cells #[.int .i64 b.e, .string ⟨b.v.toArray⟩, .int .i64 b.s] 168)).cell? ⟨w.heap.size + 1 + 1, 0, none⟩ = some (.int .i64 b.e) := by simp [zh]
 have b1 : (((w.alloc (.cells #[.int .i64 n, .slice va l.length vc] 68)).alloc (.cells #[.int .i64 a.e, .string ⟨a.v.toArray⟩, .int .i64 a.s] 168)).alloc (.cells #[.int .i64 b.e, .string ⟨b.v.toArray⟩, .int .i64 b.s] 168)).cell? ⟨w.heap.size + 1 + 1, 1, none⟩ = some (.string ⟨b.v.toArray⟩) := by simp [zh]
 have b2 : (((w.alloc (.cells #[.int .i64 n, .slice va l.length vc] 68)).alloc (.cells #[.int .i64 a.e, .string ⟨a.v.toArray⟩, .int .i64 a.s] 168)).alloc (.cells #[.int .i64 b.e, .string ⟨b.v.toArray⟩, .int .i64 b.s] 168)).cell? ⟨w.heap.size + 1 + 1, 2, none⟩ = some (.int .i64 b.s) := by simp [zh]
 have HC := zv2 (And.intro c0 (And.intro c1 (And.intro a0 (And.intro a1 (And.intro a2 (And.intro b0 (And.intro b1 b2)))))))
 clear hv g4 hm c0 a0 a1 a2 b0 b1 b2 ha hb hn hB
 unfold setV ecV
 go_enter Tryz.func205, Tryz.ntmps205
 go_wp2
 clear c1
 generalize ((w.alloc (.cells #[.int .i64 n, .slice va l.length vc] 68)).alloc (.cells #[.int .i64 a.e, .string ⟨a.v.toArray⟩, .int .i64 a.s] 168)).alloc (.cells #[.int .i64 b.e, .string ⟨b.v.toArray⟩, .int .i64 b.s] 168) = w0 at *
 go_loopw [7] (fun iv wx => ∃ k : Nat, k ≤ l.length /\ iv = .int .i64 k /\ (l.take k).any p = false /\ Below w0.heap.size w0 wx) (fun iv _ => l.length - (intOf iv).toNat)
 case atStart => exact ⟨0, Nat.zero_le _, rfl, rfl, zv5 _ _⟩
 case round =>
  obtain ⟨k, hk, rfl, hz, g5⟩ := hrel
  have HZ := zv2 hz
  have HBX := zv2 g5
  have HBF := zv3 HB0 g5
  have d1 := ze HBX.out HC.out.2.1
  clear hz g5
  by_cases hlt : k < l.length
  ·obtain ⟨g, off, rfl, g4, hx⟩ := HV.out.at k hlt
   obtain ⟨h0, h1, h2, h3⟩ := hx.below g4 HBF.out
   have j0 : (0 : Int) ≤ (k : Int) := by omega
   have j1 : (k : Int) < (l.length : Int) := by omega
   have HBK : Hid (V.zr n l[k] = true) := zv2 (h8.out _ (List.getElem_mem hlt))
   have HYES := zv2 (fun hb => zjp (p := p) HZ.out hlt hb)
   have HNO := zv2 (fun hb => znr (p := p) hlt hb)
   clear hx
   generalize l[k] = x at *
   have g6 : Hid (p x = (decide (V.ecmp n (V.eLow x) a ≤ 0) && decide (V.ecmp n b (V.kr x) ≤ 0))) := zv2 (by rw [HP.out])
   have hbA : Below wr.heap.size wr (wr.alloc (.cells #[.string ⟨x.lo.toArray⟩, .int .i64 x.lk, .string ⟨x.hi.toArray⟩, .int .i64 x.hk] 83)) := (zv5 _ wr).alloc (zv4 _) _
   have h5 := zv2 ((HM.out.below HBX.out).below hbA)
   have g2 := zv3 HBX hbA
   have e0 := ze g2.out HC.out.1
   have a0 := ze g2.out HC.out.2.2.1
   have a1 := ze g2.out HC.out.2.2.2.1
   have a2 := ze g2.out HC.out.2.2.2.2.1
   have b0 := ze g2.out HC.out.2.2.2.2.2.1
   have b1 := ze g2.out HC.out.2.2.2.2.2.2.1
   have b2 := ze g2.out HC.out.2.2.2.2.2.2.2
   have h6 : zbz (wr.alloc (.cells #[.string ⟨x.lo.toArray⟩, .int .i64 x.lk, .string ⟨x.hi.toArray⟩, .int .i64 x.hk] 83)) wr.heap.size 0 x := by
    exact zz6
   have h9 := zv2 h6
   clear hbA h6
   go_wp2_with fail
   generalize wr.alloc (.cells #[.string ⟨x.lo.toArray⟩, .int .i64 x.lk, .string ⟨x.hi.toArray⟩, .int .i64 x.hk] 83) = W1 at *
   obtain ⟨f0, f1, f2, f3⟩ := h9.out
   rw [Nat.zero_add] at f1 f2 f3
   clear h0 h1 h2 h3 d1
   obtain ⟨z, hz⟩ : ∃ z, z = V.ecmp n (V.eLow x) a := ⟨_, rfl⟩
   obtain ⟨z2, g7⟩ : ∃ z, z = V.ecmp n b (V.kr x) := ⟨_, rfl⟩
   have g8 := zv2 (yk n (V.eLow x) a)
   have h7 := zv2 (yk n b (V.kr x))
   rw [← hz, ← g7] at g6
   rw [← hz] at g8
   rw [← g7] at h7
   clear hz g7
   by_cases hz0 : z ≤ 0
   ·have hd : decide (z ≤ 0) = true := decide_eq_true hz0
    have g9 : Hid (p x = decide (z2 ≤ 0)) := zv2 (by rw [g6.out, hd]; rfl)
    clear hz0
    refine wp_region_held_drew (S := (fun W' => zk W' /\ W'.cell? ⟨w.heap.size, 0, none⟩ = some (.int .i64 n) /\ W'.cell? ⟨wr.heap.size, 0, none⟩ = some (.string ⟨x.lo.toArray⟩) /\ W'.cell? ⟨wr.heap.size, 1, none⟩ = some (.int .i64 x.lk) /\ W'.cell? ⟨wr.heap.size, 2, none⟩ = some (.string ⟨x.hi.toArray⟩) /\ W'.cell? ⟨wr.heap.size, 3, none⟩ = some (.int .i64 x.hk) /\ W'.cell? ⟨w.heap.size + 1, 0, none⟩ = some (.int .i64 a.e) /\ W'.cell? ⟨w.heap.size + 1, 1, none⟩ = some (.string ⟨a.v.toArray⟩) /\ W'.cell? ⟨w.heap.size + 1, 2, none⟩ = some (.int .i64 a.s) /\ W'.cell? ⟨w.heap.size + 1 + 1, 0, none⟩ = some (.int .i64 b.e) /\ W'.cell? ⟨w.heap.size + 1 + 1, 1, none⟩ = some (.string ⟨b.v.toArray⟩) /\ W'.cell? ⟨w.heap.size + 1 + 1, 2, none⟩ = some (.int .i64 b.s))) (by kernel_rfl) (by (try dsimp only); (try simp only [World.cell?_drew]); exact ⟨h5.out.below (zv5 _ _).drew, e0, f0, f1, f2, f3, a0, a1, a2, b0, b1, b2⟩) (fun hHeld => ?_)
    refine tk 0 ?_
    refine tk 1 ?_
    refine tk 2 ?_
    refine tk 4 ?_
    refine rd 3 fun K hK => ?_
    go_simp
    refine (vg x _).mono ?_
    rintro e wc3 ⟨rfl, hbc3⟩
    try dsimp only
    refine hK.out _ _ ?_ (fun hHeld => ?_)
    ·exact zye
    clear hK K
    try simp only [zvx, zvy, zvz, Act.put, zv0, List.set_cons_succ, List.set_cons_zero]
    refine rd 5 fun K hK => ?_
    go_simp
    refine (g8.out _ (by first | assumption | exact And.left (by assumption)) HSC.out (V.zai HBK.out) HA.out).mono ?_
    rintro e wc5 ⟨rfl, hbc5⟩
    try dsimp only
    refine hK.out _ _ ?_ (fun hHeld => ?_)
    ·exact zyd
    clear hK K
    try simp only [zvx, zvy, zvz, Act.put, zv0, List.set_cons_succ, List.set_cons_zero]
    refine tk 6 ?_
    refine tk 7 ?_
    refine tk 8 ?_
    refine tk 9 ?_
    refine tk 10 ?_
    refine tk 11 ?_
    refine rd 12 fun K hK => ?_
    go_simp
    refine (vp x _).mono ?_
    rintro e wc12 ⟨rfl, g0⟩
    try dsimp only
    refine hK.out _ _ ?_ (fun hHeld => ?_)
    ·(try dsimp only); go_split_ands; exact ⟨zk.below (by assumption) g0, zv8 g0, zv8 g0, zv8 g0, zv8 g0, zv8 g0, zv8 g0, zv8 g0, zv8 g0, zv8 g0, zv8 g0, zv8 g0⟩
    clear hK K
    try simp only [zvx, zvy, zvz, Act.put, zv0, List.set_cons_succ, List.set_cons_zero]
    refine rd 13 fun K hK => ?_
    go_simp
    refine (h7.out _ (by first | assumption | exact And.left (by assumption)) HSC.out HBE.out (V.zav HBK.out)).mono ?_
    rintro e wc13 ⟨rfl, g1⟩
    try dsimp only
    refine hK.out _ _ ?_ (fun hHeld => ?_)
    ·(try dsimp only); go_split_ands; exact ⟨zk.below (by assumption) g1, zv8 g1, zv8 g1, zv8 g1, zv8 g1, zv8 g1, zv8 g1, zv8 g1, zv8 g1, zv8 g1, zv8 g1, zv8 g1⟩
    clear hK K
    try simp only [zvx, zvy, zvz, Act.put, zv0, List.set_cons_succ, List.set_cons_zero]
    refine tk 14 ?_
    refine tk 15 ?_
    refine wpAnyH_done (by kernel_rfl) ?_ _
    have g3 : Below W1.heap.size W1 wc5 := ((zv5 W1.heap.size W1).drew.trans (show Below W1.heap.size W1.drew wc3 from hbc3)).trans (hbc5.mono (show W1.heap.size ≤ wc3.heap.size from hbc3.size))
    have h4 : Below wc5.heap.size wc5 wc13 := g0.trans (g1.mono g0.size)
    have HBZ := zv2 (g2.out.trans ((g3.trans (h4.mono g3.size)).mono g2.out.size))
    clear hbc3 hbc5 g0 g1 hHeld g3 h4
    by_cases hz3 : z2 ≤ 0
    ·have HR : Hid (V.ju n l a b = true) := zv2 (by rw [HF.out]; exact HNO.out (by rw [g9.out]; exact decide_eq_true hz3))
     go_wp2
     go_ret
     exact ⟨zf HR.out.symm, HB0.out.trans (HBZ.out.mono HB0.out.size)⟩
    ·have HY := zv2 (HYES.out (by rw [g9.out]; exact decide_eq_false hz3))
     exact zzr
   ·have hd : decide (z ≤ 0) = false := decide_eq_false hz0
    have HY := zv2 (HYES.out (by rw [g6.out, hd]; rfl))
    clear hz0
    refine wp_region_held_drew (S := (fun W' => zk W' /\ W'.cell? ⟨w.heap.size, 0, none⟩ = some (.int .i64 n) /\ W'.cell? ⟨wr.heap.size, 0, none⟩ = some (.string ⟨x.lo.toArray⟩) /\ W'.cell? ⟨wr.heap.size, 1, none⟩ = some (.int .i64 x.lk) /\ W'.cell? ⟨wr.heap.size, 2, none⟩ = some (.string ⟨x.hi.toArray⟩) /\ W'.cell? ⟨wr.heap.size, 3, none⟩ = some (.int .i64 x.hk) /\ W'.cell? ⟨w.heap.size + 1, 0, none⟩ = some (.int .i64 a.e) /\ W'.cell? ⟨w.heap.size + 1, 1, none⟩ = some (.string ⟨a.v.toArray⟩) /\ W'.cell? ⟨w.heap.size + 1, 2, none⟩ = some (.int .i64 a.s) /\ W'.cell? ⟨w.heap.size + 1 + 1, 0, none⟩ = some (.int .i64 b.e) /\ W'.cell? ⟨w.heap.size + 1 + 1, 1, none⟩ = some (.string ⟨b.v.toArray⟩) /\ W'.cell? ⟨w.heap.size + 1 + 1, 2, none⟩ = some (.int .i64 b.s))) (by kernel_rfl) (by (try dsimp only); (try simp only [World.cell?_drew]); exact ⟨h5.out.below (zv5 _ _).drew, e0, f0, f1, f2, f3, a0, a1, a2, b0, b1, b2⟩) (fun hHeld => ?_)
    refine tk 0 ?_
    refine tk 1 ?_
    refine tk 2 ?_
    refine tk 4 ?_
    refine rd 3 fun K hK => ?_
    go_simp
    refine (vg x _).mono ?_
    rintro e wc3 ⟨rfl, hbc3⟩
    try dsimp only
    refine hK.out _ _ ?_ (fun hHeld => ?_)
    ·exact zye
    clear hK K
    try simp only [zvx, zvy, zvz, Act.put, zv0, List.set_cons_succ, List.set_cons_zero]
    refine rd 5 fun K hK => ?_
    go_simp
    refine (g8.out _ (by first | assumption | exact And.left (by assumption)) HSC.out (V.zai HBK.out) HA.out).mono ?_
    rintro e wc5 ⟨rfl, hbc5⟩
    try dsimp only
    refine hK.out _ _ ?_ (fun hHeld => ?_)
    ·exact zyd
    clear hK K
    try simp only [zvx, zvy, zvz, Act.put, zv0, List.set_cons_succ, List.set_cons_zero]
    refine tk 6 ?_
    refine tk 7 ?_
    refine tu 8 ?_
    refine tu 9 ?_
    refine tu 10 ?_
    refine tu 11 ?_
    refine tu 12 ?_
    refine tu 13 ?_
    refine tu 14 ?_
    refine tk 15 ?_
    refine wpAnyH_done (by kernel_rfl) ?_ _
    have g3 : Below W1.heap.size W1 wc5 := ((zv5 W1.heap.size W1).drew.trans (show Below W1.heap.size W1.drew wc3 from hbc3)).trans (hbc5.mono (show W1.heap.size ≤ wc3.heap.size from hbc3.size))
    have HBZ := zv3 g2 g3
    clear hbc3 hbc5 hHeld g3
    exact zzr
  ·obtain rfl : k = l.length := by omega
   have HR : Hid (V.ju n l a b = false) := zv2 (by rw [HF.out]; have := HZ.out; rwa [List.take_length] at this)
   go_wp2
   go_ret
   exact ⟨zf HR.out.symm, HBF.out⟩
def kj (o : Int) (a b : Bool) : Bool := if o = 0 then !a else if o = 1 then a || b else if o = 2 then a && b else a && !b
theorem zw7 {P : Prop} (h : P := by
 rcases a with _ | _ <;> rcases b with _ | _
 all_goals
  go_enter Tryz.func204, Tryz.ntmps204
  go_wp2
  go_ret
  exact ⟨rfl, zv5 _ _⟩) : P := h
theorem zg5 (o : Int) (a b : Bool) (w : World) : Calls Tryz.prog 204 #[.int .i64 o, .bool a, .bool b] w fun e w' => e = .returned (.bool (kj o a b)) /\ Below w.heap.size w w' := by
 have HF : Hid (∀ a b, kj o a b = if o = 0 then !a else if o = 1 then a || b else if o = 2 then a && b else a && !b) := zv2 (fun _ _ => rfl)
 by_cases h0 : o = 0
 ·subst h0
  exact zw7
 ·by_cases h1 : o = 1
  ·subst h1
   exact zw7
  ·by_cases h2 : o = 2
   ·subst h2
    exact zw7
   ·have b0 : (o == 0) = false := by simpa using h0
    have b1 : (o == 1) = false := by simpa using h1
    have b2 : (o == 2) = false := by simpa using h2
    have HG : Hid (∀ a b, kj o a b = (a && !b)) := zv2 (fun a b => by rw [HF.out, if_neg h0, if_neg h1, if_neg h2])
    clear h0 h1 h2 HF
    rcases a with _ | _ <;> rcases b with _ | _
    all_goals
     go_enter Tryz.func204, Tryz.ntmps204
     go_wp2
     go_ret
     exact ⟨zf (by rw [HG.out]; rfl), zv5 _ _⟩
theorem zbw (w : World) (a b c d : Obj) : Below w.heap.size w ((((w.alloc a).alloc b).alloc c).alloc d) := ((((zv5 _ _).alloc (zv4 _) _).alloc (by simp) _).alloc (by simp; omega) _).alloc (by simp; omega) _
theorem zvh (a b : V.Ec) : itvV (V.btw a b) = .agg #[.string ⟨(if a.e = 0 then a.v else []).toArray⟩, .int .i64 (if a.e = 0 then 1 + a.s else 0), .string ⟨(if b.e = 0 then b.v else []).toArray⟩, .int .i64 (if b.e = 0 then 2 - b.s else 0)] := rfl
theorem zw6 {P : Prop} (h : P := by
 go_enter Tryz.func206, Tryz.ntmps206
 go_wp2
 go_region
 all_goals rename_i hK
 all_goals refine hK _ _ ?_
 all_goals clear hK
 go_wp2
 all_goals exact bodyPost_ret (v := .agg #[_, _, _, _]) (by simp [results, Tryz.results206, go_sem]) rfl ⟨rfl, (zbw _ _ _ _ _).drew⟩) : P := h
theorem zem (a b : V.Ec) (w : World) (ha : 0 ≤ a.s /\ a.s ≤ 1) (hb : 0 ≤ b.s /\ b.s ≤ 1) :
  Calls Tryz.prog 206 #[ecV a, ecV b] w fun e w' => e = .returned (itvV (V.btw a b)) /\ Below w.heap.size w w' := by
 rw [zvh]
 obtain ⟨ae, av, asd⟩ := a
 obtain ⟨be, bv, bs⟩ := b
 obtain ⟨g0, g1⟩ := ha
 obtain ⟨hb1, hb2⟩ := hb
 simp only at g0 g1 hb1 hb2 ⊢
 have g2 : IntKind.i64.wrap (1 + asd) = 1 + asd := by rw [IntKind.wrap_i64]; omega
 have g3 : IntKind.i64.wrap (2 - bs) = 2 - bs := by rw [IntKind.wrap_i64]; omega
 unfold ecV
 by_cases h1 : ae = 0
 ·by_cases h2 : be = 0
  ·subst h1 h2
   rw [if_pos rfl, if_pos rfl, if_pos rfl, if_pos rfl]
   go_enter Tryz.func206, Tryz.ntmps206
   go_wp2
   go_region
   all_goals rename_i hK
   all_goals refine hK _ _ ?_
   all_goals clear hK
   go_wp2
   go_region
   all_goals rename_i hK
   all_goals refine hK _ _ ?_
   all_goals clear hK
   go_wp2
   all_goals exact bodyPost_ret (v := .agg #[_, _, _, _]) (by simp [results, Tryz.results206, go_sem]) rfl ⟨rfl, (zbw _ _ _ _ _).drew.drew⟩
  ·have b0 : (be == 0) = false := by simpa using h2
   subst h1
   rw [if_pos rfl, if_pos rfl, if_neg h2, if_neg h2]
   clear h2
   exact zw6
 ·have a0 : (ae == 0) = false := by simpa using h1
  rw [if_neg h1, if_neg h1]
  clear h1
  by_cases h2 : be = 0
  ·subst h2
   rw [if_pos rfl, if_pos rfl]
   exact zw6
  ·have b0 : (be == 0) = false := by simpa using h2
   rw [if_neg h2, if_neg h2]
   clear h2
   go_enter Tryz.func206, Tryz.ntmps206
   go_wp2
   exact bodyPost_ret (v := .agg #[_, _, _, _]) (by simp [results, Tryz.results206, go_sem]) rfl ⟨rfl, zbw _ _ _ _ _⟩
end Go.Proofs.YtbikeahmldobkaaGreatDoor
