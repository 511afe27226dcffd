/-
  Lemmas for the law.
-/
import Derived.Test.YtbikeahmldobkaaGreatDoorC51x21
import Derived.Test.YtbikeahmldobkaaGreatDoorC51x25
import Derived.Test.YtbikeahmldobkaaGreatDoorC51x23
set_option linter.all false
set_option maxRecDepth 100000
set_option maxHeartbeats 3200000
namespace Go.Proofs.YtbikeahmldobkaaGreatDoor
open Go.RowKit
theorem zxa {P : Prop} (h : P := by
 (try dsimp only); go_split_ands; exact ⟨zj.below (by assumption) hbc5, zve hbc5, zve hbc5, zve hbc5, zve hbc5, zve hbc5, zve hbc5, zve hbc5, zve hbc5, zve hbc5, zve hbc5, zve hbc5⟩) : P := h
theorem zxb {P : Prop} (h : P := by
 (try dsimp only); go_split_ands; exact ⟨zj.below (by assumption) hbc3, zve hbc3, zve hbc3, zve hbc3, zve hbc3, zve hbc3, zve hbc3, zve hbc3, zve hbc3, zve hbc3, zve hbc3, zve hbc3⟩) : P := h
theorem zyj {P : Prop} (h : P := by
 go_wp2
 go_roundw
 case rel => exact ⟨k + 1, by omega, by go_num, HY.out, HBZ.out⟩
 case measure => simp [intOf]; omega) : P := h
theorem zac (n : Int) (v : Value) (l : List V.Itv) (a b : V.Ec) (w : World) (hm : zj w) (hn : V.scheme n = true) (hv : Itvs w v l) (hB : ∀ x ∈ l, V.zt n x = true) (ha : V.EcOk n a) (hb : V.EcOk n b) (hl : l.length ≤ 1000) :
  Calls Tryz.prog 205 #[setV n v, ecV a, ecV b] w fun e w' => e = .returned (.bool (V.jl n l a b)) /\ Below w.heap.size w w' := by
 have HV := zu8 hv
 obtain ⟨va, vc, rfl⟩ := hv.slice
 have HA := zu8 ha
 have HBE := zu8 hb
 have HSC := zu8 hn
 have h9 := zu8 hB
 obtain ⟨p, hp⟩ : ∃ p : V.Itv -> Bool, p = fun x => decide (V.ecmp n (V.eLow x) a ≤ 0) && decide (V.ecmp n b (V.km x) ≤ 0) := ⟨_, rfl⟩
 have HF : Hid (V.jl n l a b = l.any p) := zu8 (by rw [hp]; rfl)
 have HP := zu8 hp
 have g4 : Below w.heap.size w (((w.alloc (.cells #[.int .i64 n, .slice va l.length vc] 68)).alloc (.cells #[.int .i64 a.e, .string ⟨a.v.toArray⟩, .int .i64 a.s] 168)).alloc (.cells #[.int .i64 b.e, .string ⟨b.v.toArray⟩, .int .i64 b.s] 168)) := (((zvb _ _).alloc (zva _) _).alloc (by simp) _).alloc (by simp; omega) _
 have HB0 := zu8 g4
 have HM := zu8 (hm.below g4)
 have c0 : (((w.alloc (.cells #[.int .i64 n, .slice va l.length vc] 68)).alloc (.cells #[.int .i64 a.e, .string ⟨a.v.toArray⟩, .int .i64 a.s] 168)).alloc (.cells #[.int .i64 b.e, .string ⟨b.v.toArray⟩, .int .i64 b.s] 168)).cell? ⟨w.heap.size, 0, none⟩ = some (.int .i64 n) := by simp [zg]; try omega
 have c1 : (((w.alloc (.cells #[.int .i64 n, .slice va l.length vc] 68)).alloc (.cells #[.int .i64 a.e, .string ⟨a.v.toArray⟩, .int .i64 a.s] 168)).alloc (.cells #[.int .i64 b.e, .string ⟨b.v.toArray⟩, .int .i64 b.s] 168)).cell? ⟨w.heap.size, 1, none⟩ = some (.slice va l.length vc) := by simp [zg]; try omega
 have a0 : (((w.alloc (.cells #[.int .i64 n, .slice va l.length vc] 68)).alloc (.cells #[.int .i64 a.e, .string ⟨a.v.toArray⟩, .int .i64 a.s] 168)).alloc (.cells #[.int .i64 b.e, .string ⟨b.v.toArray⟩, .int .i64 b.s] 168)).cell? ⟨w.heap.size + 1, 0, none⟩ = some (.int .i64 a.e) := by simp [zg]
 have a1 : (((w.alloc (.cells #[.int .i64 n, .slice va l.length vc] 68)).alloc (.cells #[.int .i64 a.e, .string ⟨a.v.toArray⟩, .int .i64 a.s] 168)).alloc (.cells #[.int .i64 b.e, .string ⟨b.v.toArray⟩, .int .i64 b.s] 168)).cell? ⟨w.heap.size + 1, 1, none⟩ = some (.string ⟨a.v.toArray⟩) := by simp [zg]
 have a2 : (((w.alloc (.cells #[.int .i64 n, .slice va l.length vc] 68)).alloc (.cells #[.int .i64 a.e, .string ⟨a.v.toArray⟩, .int .i64 a.s] 168)).alloc (.cells #[.int .i64 b.e, .string ⟨b.v.toArray⟩, .int .i64 b.s] 168)).cell? ⟨w.heap.size + 1, 2, none⟩ = some (.int .i64 a.s) := by simp [zg]
 have b0 : (((w.alloc (.cells #[.int .i64 n, .slice va l.length vc] 68)).alloc (.cells #[.int .i64 a.e, .string ⟨a.v.toArray⟩, .int .i64 a.s] 168)).alloc (.cells #[.int .i64 b.e, .string ⟨b.v.toArray⟩, .int .i64 b.s] 168)).cell? ⟨w.heap.size + 1 + 1, 0, none⟩ = some (.int .i64 b.e) := by simp [zg]
 have b1 : (((w.alloc (.cells #[.int .i64 n, .slice va l.length vc] 68)).alloc (.cells #[.int .i64 a.e, .string ⟨a.v.toArray⟩, .int .i64 a.s] 168)).alloc (.cells #[.int .i64 b.e, .string ⟨b.v.toArray⟩, .int .i64 b.s] 168)).cell? ⟨w.heap.size + 1 + 1, 1, none⟩ = some (.string ⟨b.v.toArray⟩) := by simp [zg]
 have b2 : (((w.alloc (.cells #[.int .i64 n, .slice va l.length vc] 68)).alloc (.cells #[.int .i64 a.e, .string ⟨a.v.toArray⟩, .int .i64 a.s] 168)).alloc (.cells #[.int .i64 b.e, .string ⟨b.v.toArray⟩, .int .i64 b.s] 168)).cell? ⟨w.heap.size + 1 + 1, 2, none⟩ = some (.int .i64 b.s) := by simp [zg]
 have HC := zu8 (And.intro c0 (And.intro c1 (And.intro a0 (And.intro a1 (And.intro a2 (And.intro b0 (And.intro b1 b2)))))))
 clear hv g4 hm c0 a0 a1 a2 b0 b1 b2 ha hb hn hB
 unfold setV ecV
 go_enter Tryz.func205, Tryz.ntmps205
 go_wp2
 clear c1
 generalize ((w.alloc (.cells #[.int .i64 n, .slice va l.length vc] 68)).alloc (.cells #[.int .i64 a.e, .string ⟨a.v.toArray⟩, .int .i64 a.s] 168)).alloc (.cells #[.int .i64 b.e, .string ⟨b.v.toArray⟩, .int .i64 b.s] 168) = w0 at *
 go_loopw [7] (fun iv wx => ∃ k : Nat, k ≤ l.length /\ iv = .int .i64 k /\ (l.take k).any p = false /\ Below w0.heap.size w0 wx) (fun iv _ => l.length - (intOf iv).toNat)
 case atStart => exact ⟨0, Nat.zero_le _, rfl, rfl, zvb _ _⟩
 case round =>
  obtain ⟨k, hk, rfl, hz, g5⟩ := hrel
  have HZ := zu8 hz
  have HBX := zu8 g5
  have HBF := zu9 HB0 g5
  have d1 := zb HBX.out HC.out.2.1
  clear hz g5
  by_cases hlt : k < l.length
  ·obtain ⟨g, off, rfl, g4, hx⟩ := HV.out.at k hlt
   obtain ⟨h0, h1, h2, h3⟩ := hx.below g4 HBF.out
   have j1 : (0 : Int) ≤ (k : Int) := by omega
   have j2 : (k : Int) < (l.length : Int) := by omega
   have g6 : Hid (V.zt n l[k] = true) := zu8 (h9.out _ (List.getElem_mem hlt))
   have HYES := zu8 (fun hb => zpk (p := p) HZ.out hlt hb)
   have HNO := zu8 (fun hb => zsx (p := p) hlt hb)
   clear hx
   generalize l[k] = x at *
   have g7 : Hid (p x = (decide (V.ecmp n (V.eLow x) a ≤ 0) && decide (V.ecmp n b (V.km x) ≤ 0))) := zu8 (by rw [HP.out])
   have hbA : Below wr.heap.size wr (wr.alloc (.cells #[.string ⟨x.lo.toArray⟩, .int .i64 x.lk, .string ⟨x.hi.toArray⟩, .int .i64 x.hk] 83)) := (zvb _ wr).alloc (zva _) _
   have h6 := zu8 ((HM.out.below HBX.out).below hbA)
   have g2 := zu9 HBX hbA
   have e0 := zb g2.out HC.out.1
   have a0 := zb g2.out HC.out.2.2.1
   have a1 := zb g2.out HC.out.2.2.2.1
   have a2 := zb g2.out HC.out.2.2.2.2.1
   have b0 := zb g2.out HC.out.2.2.2.2.2.1
   have b1 := zb g2.out HC.out.2.2.2.2.2.2.1
   have b2 := zb g2.out HC.out.2.2.2.2.2.2.2
   have h7 : zcv (wr.alloc (.cells #[.string ⟨x.lo.toArray⟩, .int .i64 x.lk, .string ⟨x.hi.toArray⟩, .int .i64 x.hk] 83)) wr.heap.size 0 x := by
    refine ⟨?_, ?_, ?_, ?_⟩ <;> simp [zg]
   have j0 := zu8 h7
   clear hbA h7
   go_wp2_with fail
   generalize wr.alloc (.cells #[.string ⟨x.lo.toArray⟩, .int .i64 x.lk, .string ⟨x.hi.toArray⟩, .int .i64 x.hk] 83) = W1 at *
   obtain ⟨f0, f1, f2, f3⟩ := j0.out
   rw [Nat.zero_add] at f1 f2 f3
   clear h0 h1 h2 h3 d1
   obtain ⟨z, hz⟩ : ∃ z, z = V.ecmp n (V.eLow x) a := ⟨_, rfl⟩
   obtain ⟨z2, g8⟩ : ∃ z, z = V.ecmp n b (V.km x) := ⟨_, rfl⟩
   have g9 := zu8 (ye n (V.eLow x) a)
   have h8 := zu8 (ye n b (V.km x))
   rw [← hz, ← g8] at g7
   rw [← hz] at g9
   rw [← g8] at h8
   clear hz g8
   by_cases hz0 : z ≤ 0
   ·have hd : decide (z ≤ 0) = true := decide_eq_true hz0
    have h4 : Hid (p x = decide (z2 ≤ 0)) := zu8 (by rw [g7.out, hd]; rfl)
    clear hz0
    refine wp_region_held_drew (S := (fun W' => zj W' /\ W'.cell? ⟨w.heap.size, 0, none⟩ = some (.int .i64 n) /\ W'.cell? ⟨wr.heap.size, 0, none⟩ = some (.string ⟨x.lo.toArray⟩) /\ W'.cell? ⟨wr.heap.size, 1, none⟩ = some (.int .i64 x.lk) /\ W'.cell? ⟨wr.heap.size, 2, none⟩ = some (.string ⟨x.hi.toArray⟩) /\ W'.cell? ⟨wr.heap.size, 3, none⟩ = some (.int .i64 x.hk) /\ W'.cell? ⟨w.heap.size + 1, 0, none⟩ = some (.int .i64 a.e) /\ W'.cell? ⟨w.heap.size + 1, 1, none⟩ = some (.string ⟨a.v.toArray⟩) /\ W'.cell? ⟨w.heap.size + 1, 2, none⟩ = some (.int .i64 a.s) /\ W'.cell? ⟨w.heap.size + 1 + 1, 0, none⟩ = some (.int .i64 b.e) /\ W'.cell? ⟨w.heap.size + 1 + 1, 1, none⟩ = some (.string ⟨b.v.toArray⟩) /\ W'.cell? ⟨w.heap.size + 1 + 1, 2, none⟩ = some (.int .i64 b.s))) (by kernel_rfl) (by (try dsimp only); (try simp only [World.cell?_drew]); exact ⟨h6.out.below (zvb _ _).drew, e0, f0, f1, f2, f3, a0, a1, a2, b0, b1, b2⟩) (fun hHeld => ?_)
    refine tk 0 ?_
    refine tk 1 ?_
    refine tk 2 ?_
    refine tk 4 ?_
    refine rd 3 fun K hK => ?_
    go_simp
    refine (uu x _).mono ?_
    rintro e wc3 ⟨rfl, hbc3⟩
    try dsimp only
    refine hK.out _ _ ?_ (fun hHeld => ?_)
    ·exact zxb
    clear hK K
    try simp only [zu3, zu4, zu5, Act.put, zu6, List.set_cons_succ, List.set_cons_zero]
    refine rd 5 fun K hK => ?_
    go_simp
    refine (g9.out _ (by first | assumption | exact And.left (by assumption)) HSC.out (V.zaa g6.out) HA.out).mono ?_
    rintro e wc5 ⟨rfl, hbc5⟩
    try dsimp only
    refine hK.out _ _ ?_ (fun hHeld => ?_)
    ·exact zxa
    clear hK K
    try simp only [zu3, zu4, zu5, Act.put, zu6, List.set_cons_succ, List.set_cons_zero]
    refine tk 6 ?_
    refine tk 7 ?_
    refine tk 8 ?_
    refine tk 9 ?_
    refine tk 10 ?_
    refine tk 11 ?_
    refine rd 12 fun K hK => ?_
    go_simp
    refine (vi x _).mono ?_
    rintro e wc12 ⟨rfl, g0⟩
    try dsimp only
    refine hK.out _ _ ?_ (fun hHeld => ?_)
    ·(try dsimp only); go_split_ands; exact ⟨zj.below (by assumption) g0, zve g0, zve g0, zve g0, zve g0, zve g0, zve g0, zve g0, zve g0, zve g0, zve g0, zve g0⟩
    clear hK K
    try simp only [zu3, zu4, zu5, Act.put, zu6, List.set_cons_succ, List.set_cons_zero]
    refine rd 13 fun K hK => ?_
    go_simp
    refine (h8.out _ (by first | assumption | exact And.left (by assumption)) HSC.out HBE.out (V.zam g6.out)).mono ?_
    rintro e wc13 ⟨rfl, g1⟩
    try dsimp only
    refine hK.out _ _ ?_ (fun hHeld => ?_)
    ·(try dsimp only); go_split_ands; exact ⟨zj.below (by assumption) g1, zve g1, zve g1, zve g1, zve g1, zve g1, zve g1, zve g1, zve g1, zve g1, zve g1, zve g1⟩
    clear hK K
    try simp only [zu3, zu4, zu5, Act.put, zu6, List.set_cons_succ, List.set_cons_zero]
    refine tk 14 ?_
    refine tk 15 ?_
    refine wpAnyH_done (by kernel_rfl) ?_ _
    have g3 : Below W1.heap.size W1 wc5 := ((zvb W1.heap.size W1).drew.trans (show Below W1.heap.size W1.drew wc3 from hbc3)).trans (hbc5.mono (show W1.heap.size ≤ wc3.heap.size from hbc3.size))
    have h5 : Below wc5.heap.size wc5 wc13 := g0.trans (g1.mono g0.size)
    have HBZ := zu8 (g2.out.trans ((g3.trans (h5.mono g3.size)).mono g2.out.size))
    clear hbc3 hbc5 g0 g1 hHeld g3 h5
    by_cases hz3 : z2 ≤ 0
    ·have HR : Hid (V.jl n l a b = true) := zu8 (by rw [HF.out]; exact HNO.out (by rw [h4.out]; exact decide_eq_true hz3))
     go_wp2
     go_ret
     exact ⟨ze HR.out.symm, HB0.out.trans (HBZ.out.mono HB0.out.size)⟩
    ·have HY := zu8 (HYES.out (by rw [h4.out]; exact decide_eq_false hz3))
     exact zyj
   ·have hd : decide (z ≤ 0) = false := decide_eq_false hz0
    have HY := zu8 (HYES.out (by rw [g7.out, hd]; rfl))
    clear hz0
    refine wp_region_held_drew (S := (fun W' => zj W' /\ W'.cell? ⟨w.heap.size, 0, none⟩ = some (.int .i64 n) /\ W'.cell? ⟨wr.heap.size, 0, none⟩ = some (.string ⟨x.lo.toArray⟩) /\ W'.cell? ⟨wr.heap.size, 1, none⟩ = some (.int .i64 x.lk) /\ W'.cell? ⟨wr.heap.size, 2, none⟩ = some (.string ⟨x.hi.toArray⟩) /\ W'.cell? ⟨wr.heap.size, 3, none⟩ = some (.int .i64 x.hk) /\ W'.cell? ⟨w.heap.size + 1, 0, none⟩ = some (.int .i64 a.e) /\ W'.cell? ⟨w.heap.size + 1, 1, none⟩ = some (.string ⟨a.v.toArray⟩) /\ W'.cell? ⟨w.heap.size + 1, 2, none⟩ = some (.int .i64 a.s) /\ W'.cell? ⟨w.heap.size + 1 + 1, 0, none⟩ = some (.int .i64 b.e) /\ W'.cell? ⟨w.heap.size + 1 + 1, 1, none⟩ = some (.string ⟨b.v.toArray⟩) /\ W'.cell? ⟨w.heap.size + 1 + 1, 2, none⟩ = some (.int .i64 b.s))) (by kernel_rfl) (by (try dsimp only); (try simp only [World.cell?_drew]); exact ⟨h6.out.below (zvb _ _).drew, e0, f0, f1, f2, f3, a0, a1, a2, b0, b1, b2⟩) (fun hHeld => ?_)
    refine tk 0 ?_
    refine tk 1 ?_
    refine tk 2 ?_
    refine tk 4 ?_
    refine rd 3 fun K hK => ?_
    go_simp
    refine (uu x _).mono ?_
    rintro e wc3 ⟨rfl, hbc3⟩
    try dsimp only
    refine hK.out _ _ ?_ (fun hHeld => ?_)
    ·exact zxb
    clear hK K
    try simp only [zu3, zu4, zu5, Act.put, zu6, List.set_cons_succ, List.set_cons_zero]
    refine rd 5 fun K hK => ?_
    go_simp
    refine (g9.out _ (by first | assumption | exact And.left (by assumption)) HSC.out (V.zaa g6.out) HA.out).mono ?_
    rintro e wc5 ⟨rfl, hbc5⟩
    try dsimp only
    refine hK.out _ _ ?_ (fun hHeld => ?_)
    ·exact zxa
    clear hK K
    try simp only [zu3, zu4, zu5, Act.put, zu6, List.set_cons_succ, List.set_cons_zero]
    refine tk 6 ?_
    refine tk 7 ?_
    refine tu 8 ?_
    refine tu 9 ?_
    refine tu 10 ?_
    refine tu 11 ?_
    refine tu 12 ?_
    refine tu 13 ?_
    refine tu 14 ?_
    refine tk 15 ?_
    refine wpAnyH_done (by kernel_rfl) ?_ _
    have g3 : Below W1.heap.size W1 wc5 := ((zvb W1.heap.size W1).drew.trans (show Below W1.heap.size W1.drew wc3 from hbc3)).trans (hbc5.mono (show W1.heap.size ≤ wc3.heap.size from hbc3.size))
    have HBZ := zu9 g2 g3
    clear hbc3 hbc5 hHeld g3
    exact zyj
  ·obtain rfl : k = l.length := by omega
   have HR : Hid (V.jl n l a b = false) := zu8 (by rw [HF.out]; have := HZ.out; rwa [List.take_length] at this)
   go_wp2
   go_ret
   exact ⟨ze HR.out.symm, HBF.out⟩
def ke (o : Int) (a b : Bool) : Bool := if o = 0 then !a else if o = 1 then a || b else if o = 2 then a && b else a && !b
theorem zv7 {P : Prop} (h : P := by
 rcases a with _ | _ <;> rcases b with _ | _
 all_goals
  go_enter Tryz.func204, Tryz.ntmps204
  go_wp2
  go_ret
  exact ⟨rfl, zvb _ _⟩) : P := h
theorem zg1 (o : Int) (a b : Bool) (w : World) : Calls Tryz.prog 204 #[.int .i64 o, .bool a, .bool b] w fun e w' => e = .returned (.bool (ke o a b)) /\ Below w.heap.size w w' := by
 have HF : Hid (∀ a b, ke o a b = if o = 0 then !a else if o = 1 then a || b else if o = 2 then a && b else a && !b) := zu8 (fun _ _ => rfl)
 by_cases h0 : o = 0
 ·subst h0
  exact zv7
 ·by_cases h1 : o = 1
  ·subst h1
   exact zv7
  ·by_cases h2 : o = 2
   ·subst h2
    exact zv7
   ·have b0 : (o == 0) = false := by simpa using h0
    have b1 : (o == 1) = false := by simpa using h1
    have b2 : (o == 2) = false := by simpa using h2
    have HG : Hid (∀ a b, ke o a b = (a && !b)) := zu8 (fun a b => by rw [HF.out, if_neg h0, if_neg h1, if_neg h2])
    clear h0 h1 h2 HF
    rcases a with _ | _ <;> rcases b with _ | _
    all_goals
     go_enter Tryz.func204, Tryz.ntmps204
     go_wp2
     go_ret
     exact ⟨ze (by rw [HG.out]; rfl), zvb _ _⟩
theorem zbk (w : World) (a b c d : Obj) : Below w.heap.size w ((((w.alloc a).alloc b).alloc c).alloc d) := ((((zvb _ _).alloc (zva _) _).alloc (by simp) _).alloc (by simp; omega) _).alloc (by simp; omega) _
theorem zuq (a b : V.Ec) : itvV (V.btw a b) = .agg #[.string ⟨(if a.e = 0 then a.v else []).toArray⟩, .int .i64 (if a.e = 0 then 1 + a.s else 0), .string ⟨(if b.e = 0 then b.v else []).toArray⟩, .int .i64 (if b.e = 0 then 2 - b.s else 0)] := rfl
theorem zv6 {P : Prop} (h : P := by
 go_enter Tryz.func206, Tryz.ntmps206
 go_wp2
 go_region
 all_goals rename_i hK
 all_goals refine hK _ _ ?_
 all_goals clear hK
 go_wp2
 all_goals exact bodyPost_ret (v := .agg #[_, _, _, _]) (by simp [results, Tryz.results206, go_sem]) rfl ⟨rfl, (zbk _ _ _ _ _).drew⟩) : P := h
theorem zej (a b : V.Ec) (w : World) (ha : 0 ≤ a.s /\ a.s ≤ 1) (hb : 0 ≤ b.s /\ b.s ≤ 1) :
  Calls Tryz.prog 206 #[ecV a, ecV b] w fun e w' => e = .returned (itvV (V.btw a b)) /\ Below w.heap.size w w' := by
 rw [zuq]
 obtain ⟨ae, av, asd⟩ := a
 obtain ⟨be, bv, bs⟩ := b
 obtain ⟨g0, g1⟩ := ha
 obtain ⟨hb1, hb2⟩ := hb
 simp only at g0 g1 hb1 hb2 ⊢
 have g2 : IntKind.i64.wrap (1 + asd) = 1 + asd := by rw [IntKind.wrap_i64]; omega
 have g3 : IntKind.i64.wrap (2 - bs) = 2 - bs := by rw [IntKind.wrap_i64]; omega
 unfold ecV
 by_cases h1 : ae = 0
 ·by_cases h2 : be = 0
  ·subst h1 h2
   rw [if_pos rfl, if_pos rfl, if_pos rfl, if_pos rfl]
   go_enter Tryz.func206, Tryz.ntmps206
   go_wp2
   go_region
   all_goals rename_i hK
   all_goals refine hK _ _ ?_
   all_goals clear hK
   go_wp2
   go_region
   all_goals rename_i hK
   all_goals refine hK _ _ ?_
   all_goals clear hK
   go_wp2
   all_goals exact bodyPost_ret (v := .agg #[_, _, _, _]) (by simp [results, Tryz.results206, go_sem]) rfl ⟨rfl, (zbk _ _ _ _ _).drew.drew⟩
  ·have b0 : (be == 0) = false := by simpa using h2
   subst h1
   rw [if_pos rfl, if_pos rfl, if_neg h2, if_neg h2]
   clear h2
   exact zv6
 ·have a0 : (ae == 0) = false := by simpa using h1
  rw [if_neg h1, if_neg h1]
  clear h1
  by_cases h2 : be = 0
  ·subst h2
   rw [if_pos rfl, if_pos rfl]
   exact zv6
  ·have b0 : (be == 0) = false := by simpa using h2
   rw [if_neg h2, if_neg h2]
   clear h2
   go_enter Tryz.func206, Tryz.ntmps206
   go_wp2
   exact bodyPost_ret (v := .agg #[_, _, _, _]) (by simp [results, Tryz.results206, go_sem]) rfl ⟨rfl, zbk _ _ _ _ _⟩
end Go.Proofs.YtbikeahmldobkaaGreatDoor
