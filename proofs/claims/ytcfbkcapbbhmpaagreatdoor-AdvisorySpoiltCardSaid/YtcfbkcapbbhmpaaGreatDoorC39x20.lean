import Derived.Test.YtcfbkcapbbhmpaaGreatDoorC39x11
import Derived.Test.YtcfbkcapbbhmpaaGreatDoorC39x16
import Derived.Test.YtcfbkcapbbhmpaaGreatDoorC39x13
import Derived.Test.YtcfbkcapbbhmpaaGreatDoorC39x17
set_option linter.all false
set_option maxRecDepth 100000
set_option maxHeartbeats 6400000
namespace Go.Proofs.YtcfbkcapbbhmpaaGreatDoor
open Go.RowKit
theorem zz4 {P : Prop} (h : P := by
 (try dsimp only); go_split_ands; exact ⟨zg.below (by assumption) hbc5, zwk hbc5, zwk hbc5, zwk hbc5, zwk hbc5, zwk hbc5, zwk hbc5, zwk hbc5, zwk hbc5, zwk hbc5, zwk hbc5, zwk hbc5⟩) : P := h
theorem zz5 {P : Prop} (h : P := by
 (try dsimp only); go_split_ands; exact ⟨zg.below (by assumption) hbc3, zwk hbc3, zwk hbc3, zwk hbc3, zwk hbc3, zwk hbc3, zwk hbc3, zwk hbc3, zwk hbc3, zwk hbc3, zwk hbc3, zwk hbc3⟩) : P := h
theorem z1p {P : Prop} (h : P := by
 go_wp2
 go_roundw
 case rel => exact ⟨k + 1, by omega, by go_num, HY.out, HBZ.out⟩
 case measure => simp [intOf]; omega) : P := h
theorem zbe (n : Int) (v : Value) (l : List V.Itv) (a b : V.Ec) (w : World) (hm : zg w) (hn : V.scheme n = true) (hv : Itvs w v l) (hB : ∀ x ∈ l, V.zj n x = true) (ha : V.EcOk n a) (hb : V.EcOk n b) (hl : l.length ≤ 1000) :
  Calls Tryz.prog 149 #[setV n v, ecV a, ecV b] w fun e w' => e = .returned (.bool (V.kf n l a b)) /\ Below w.heap.size w w' := by
 have HV := zwe hv
 obtain ⟨va, vc, rfl⟩ := hv.slice
 have HA := zwe ha
 have HBE := zwe hb
 have HSC := zwe hn
 have HBND := zwe hB
 obtain ⟨p, hp⟩ : ∃ p : V.Itv -> Bool, p = fun x => decide (V.ecmp n (V.eLow x) a ≤ 0) && decide (V.ecmp n b (V.ky x) ≤ 0) := ⟨_, rfl⟩
 have HF : Hid (V.kf n l a b = l.any p) := zwe (by rw [hp]; rfl)
 have HP := zwe hp
 have hb0 : Below w.heap.size w (((w.alloc (.cells #[.int .i64 n, .slice va l.length vc] 45)).alloc (.cells #[.int .i64 a.e, .string ⟨a.v.toArray⟩, .int .i64 a.s] 108)).alloc (.cells #[.int .i64 b.e, .string ⟨b.v.toArray⟩, .int .i64 b.s] 108)) := (((zwh _ _).alloc (zwg _) _).alloc (by simp) _).alloc (by simp; omega) _
 have HB0 := zwe hb0
 have HM := zwe (hm.below hb0)
 have c0 : (((w.alloc (.cells #[.int .i64 n, .slice va l.length vc] 45)).alloc (.cells #[.int .i64 a.e, .string ⟨a.v.toArray⟩, .int .i64 a.s] 108)).alloc (.cells #[.int .i64 b.e, .string ⟨b.v.toArray⟩, .int .i64 b.s] 108)).cell? ⟨w.heap.size, 0, none⟩ = some (.int .i64 n) := by simp [ze]; try omega
 have c1 : (((w.alloc (.cells #[.int .i64 n, .slice va l.length vc] 45)).alloc (.cells #[.int .i64 a.e, .string ⟨a.v.toArray⟩, .int .i64 a.s] 108)).alloc (.cells #[.int .i64 b.e, .string ⟨b.v.toArray⟩, .int .i64 b.s] 108)).cell? ⟨w.heap.size, 1, none⟩ = some (.slice va l.length vc) := by simp [ze]; try omega
 have a0 : (((w.alloc (.cells #[.int .i64 n, .slice va l.length vc] 45)).alloc (.cells #[.int .i64 a.e, .string ⟨a.v.toArray⟩, .int .i64 a.s] 108)).alloc (.cells #[.int .i64 b.e, .string ⟨b.v.toArray⟩, .int .i64 b.s] 108)).cell? ⟨w.heap.size + 1, 0, none⟩ = some (.int .i64 a.e) := by simp [ze]
 have a1 : (((w.alloc (.cells #[.int .i64 n, .slice va l.length vc] 45)).alloc (.cells #[.int .i64 a.e, .string ⟨a.v.toArray⟩, .int .i64 a.s] 108)).alloc (.cells #[.int .i64 b.e, .string ⟨b.v.toArray⟩, .int .i64 b.s] 108)).cell? ⟨w.heap.size + 1, 1, none⟩ = some (.string ⟨a.v.toArray⟩) := by simp [ze]
 have a2 : (((w.alloc (.cells #[.int .i64 n, .slice va l.length vc] 45)).alloc (.cells #[.int .i64 a.e, .string ⟨a.v.toArray⟩, .int .i64 a.s] 108)).alloc (.cells #[.int .i64 b.e, .string ⟨b.v.toArray⟩, .int .i64 b.s] 108)).cell? ⟨w.heap.size + 1, 2, none⟩ = some (.int .i64 a.s) := by simp [ze]
 have b0 : (((w.alloc (.cells #[.int .i64 n, .slice va l.length vc] 45)).alloc (.cells #[.int .i64 a.e, .string ⟨a.v.toArray⟩, .int .i64 a.s] 108)).alloc (.cells #[.int .i64 b.e, .string ⟨b.v.toArray⟩, .int .i64 b.s] 108)).cell? ⟨w.heap.size + 1 + 1, 0, none⟩ = some (.int .i64 b.e) := by simp [ze]
 have b1 : (((w.alloc (.cells #[.int .i64 n, .slice va l.length vc] 45)).alloc (.cells #[.int .i64 a.e, .string ⟨a.v.toArray⟩, .int .i64 a.s] 108)).alloc (.cells #[.int .i64 b.e, .string ⟨b.v.toArray⟩, .int .i64 b.s] 108)).cell? ⟨w.heap.size + 1 + 1, 1, none⟩ = some (.string ⟨b.v.toArray⟩) := by simp [ze]
 have b2 : (((w.alloc (.cells #[.int .i64 n, .slice va l.length vc] 45)).alloc (.cells #[.int .i64 a.e, .string ⟨a.v.toArray⟩, .int .i64 a.s] 108)).alloc (.cells #[.int .i64 b.e, .string ⟨b.v.toArray⟩, .int .i64 b.s] 108)).cell? ⟨w.heap.size + 1 + 1, 2, none⟩ = some (.int .i64 b.s) := by simp [ze]
 have HC := zwe (And.intro c0 (And.intro c1 (And.intro a0 (And.intro a1 (And.intro a2 (And.intro b0 (And.intro b1 b2)))))))
 clear hv hb0 hm c0 a0 a1 a2 b0 b1 b2 ha hb hn hB
 unfold setV ecV
 go_enter Tryz.func149, Tryz.ntmps149
 go_wp2
 clear c1
 generalize ((w.alloc (.cells #[.int .i64 n, .slice va l.length vc] 45)).alloc (.cells #[.int .i64 a.e, .string ⟨a.v.toArray⟩, .int .i64 a.s] 108)).alloc (.cells #[.int .i64 b.e, .string ⟨b.v.toArray⟩, .int .i64 b.s] 108) = w0 at *
 go_loopw [7] (fun iv wx => ∃ k : Nat, k ≤ l.length /\ iv = .int .i64 k /\ (l.take k).any p = false /\ Below w0.heap.size w0 wx) (fun iv _ => l.length - (intOf iv).toNat)
 case atStart => exact ⟨0, Nat.zero_le _, rfl, rfl, zwh _ _⟩
 case round =>
  obtain ⟨k, hk, rfl, hz, hbx⟩ := hrel
  have HZ := zwe hz
  have HBX := zwe hbx
  have HBF := zwf HB0 hbx
  have d1 := za HBX.out HC.out.2.1
  clear hz hbx
  by_cases hlt : k < l.length
  ·obtain ⟨g, off, rfl, hb0, hx⟩ := HV.out.at k hlt
   obtain ⟨h0, h1, h2, h3⟩ := hx.below hb0 HBF.out
   have hi1 : (0 : Int) ≤ (k : Int) := by omega
   have hi2 : (k : Int) < (l.length : Int) := by omega
   have HBK : Hid (V.zj n l[k] = true) := zwe (HBND.out _ (List.getElem_mem hlt))
   have HYES := zwe (fun hb => zrt (p := p) HZ.out hlt hb)
   have HNO := zwe (fun hb => zuk (p := p) hlt hb)
   clear hx
   generalize l[k] = x at *
   have HPX : Hid (p x = (decide (V.ecmp n (V.eLow x) a ≤ 0) && decide (V.ecmp n b (V.ky x) ≤ 0))) := zwe (by rw [HP.out])
   have hbA : Below wr.heap.size wr (wr.alloc (.cells #[.string ⟨x.lo.toArray⟩, .int .i64 x.lk, .string ⟨x.hi.toArray⟩, .int .i64 x.hk] 82)) := (zwh _ wr).alloc (zwg _) _
   have HM1 := zwe ((HM.out.below HBX.out).below hbA)
   have HBA := zwf HBX hbA
   have e0 := za HBA.out HC.out.1
   have a0 := za HBA.out HC.out.2.2.1
   have a1 := za HBA.out HC.out.2.2.2.1
   have a2 := za HBA.out HC.out.2.2.2.2.1
   have b0 := za HBA.out HC.out.2.2.2.2.2.1
   have b1 := za HBA.out HC.out.2.2.2.2.2.2.1
   have b2 := za HBA.out HC.out.2.2.2.2.2.2.2
   have hx4 : zca (wr.alloc (.cells #[.string ⟨x.lo.toArray⟩, .int .i64 x.lk, .string ⟨x.hi.toArray⟩, .int .i64 x.hk] 82)) wr.heap.size 0 x := by
    exact z11
   have HX4 := zwe hx4
   clear hbA hx4
   go_wp2_with fail
   generalize wr.alloc (.cells #[.string ⟨x.lo.toArray⟩, .int .i64 x.lk, .string ⟨x.hi.toArray⟩, .int .i64 x.hk] 82) = W1 at *
   obtain ⟨f0, f1, f2, f3⟩ := HX4.out
   rw [Nat.zero_add] at f1 f2 f3
   clear h0 h1 h2 h3 d1
   obtain ⟨z, hz⟩ : ∃ z, z = V.ecmp n (V.eLow x) a := ⟨_, rfl⟩
   obtain ⟨z2, hz2⟩ : ∃ z, z = V.ecmp n b (V.ky x) := ⟨_, rfl⟩
   have HC1 := zwe (um n (V.eLow x) a)
   have HC2 := zwe (um n b (V.ky x))
   rw [← hz, ← hz2] at HPX
   rw [← hz] at HC1
   rw [← hz2] at HC2
   clear hz hz2
   by_cases hz0 : z ≤ 0
   ·have hd : decide (z ≤ 0) = true := decide_eq_true hz0
    have HPX2 : Hid (p x = decide (z2 ≤ 0)) := zwe (by rw [HPX.out, hd]; rfl)
    clear hz0
    refine wp_region_held_drew (S := (fun W' => zg W' /\ W'.cell? ⟨w.heap.size, 0, none⟩ = some (.int .i64 n) /\ W'.cell? ⟨wr.heap.size, 0, none⟩ = some (.string ⟨x.lo.toArray⟩) /\ W'.cell? ⟨wr.heap.size, 1, none⟩ = some (.int .i64 x.lk) /\ W'.cell? ⟨wr.heap.size, 2, none⟩ = some (.string ⟨x.hi.toArray⟩) /\ W'.cell? ⟨wr.heap.size, 3, none⟩ = some (.int .i64 x.hk) /\ W'.cell? ⟨w.heap.size + 1, 0, none⟩ = some (.int .i64 a.e) /\ W'.cell? ⟨w.heap.size + 1, 1, none⟩ = some (.string ⟨a.v.toArray⟩) /\ W'.cell? ⟨w.heap.size + 1, 2, none⟩ = some (.int .i64 a.s) /\ W'.cell? ⟨w.heap.size + 1 + 1, 0, none⟩ = some (.int .i64 b.e) /\ W'.cell? ⟨w.heap.size + 1 + 1, 1, none⟩ = some (.string ⟨b.v.toArray⟩) /\ W'.cell? ⟨w.heap.size + 1 + 1, 2, none⟩ = some (.int .i64 b.s))) (by kernel_rfl) (by (try dsimp only); (try simp only [World.cell?_drew]); exact ⟨HM1.out.below (zwh _ _).drew, e0, f0, f1, f2, f3, a0, a1, a2, b0, b1, b2⟩) (fun hHeld => ?_)
    refine tk 0 ?_
    refine tk 1 ?_
    refine tk 2 ?_
    refine tk 4 ?_
    refine rd 3 fun K hK => ?_
    go_simp
    refine (zad x _).mono ?_
    rintro e wc3 ⟨rfl, hbc3⟩
    try dsimp only
    refine hK.out _ _ ?_ (fun hHeld => ?_)
    ·exact zz5
    clear hK K
    try simp only [zv9, zwa, zwb, Act.put, zwc, List.set_cons_succ, List.set_cons_zero]
    refine rd 5 fun K hK => ?_
    go_simp
    refine (HC1.out _ (by first | assumption | exact And.left (by assumption)) HSC.out (V.zbc HBK.out) HA.out).mono ?_
    rintro e wc5 ⟨rfl, hbc5⟩
    try dsimp only
    refine hK.out _ _ ?_ (fun hHeld => ?_)
    ·exact zz4
    clear hK K
    try simp only [zv9, zwa, zwb, Act.put, zwc, List.set_cons_succ, List.set_cons_zero]
    refine tk 6 ?_
    refine tk 7 ?_
    refine tk 8 ?_
    refine tk 9 ?_
    refine tk 10 ?_
    refine tk 11 ?_
    refine rd 12 fun K hK => ?_
    go_simp
    refine (zal x _).mono ?_
    rintro e wc12 ⟨rfl, hbc12⟩
    try dsimp only
    refine hK.out _ _ ?_ (fun hHeld => ?_)
    ·(try dsimp only); go_split_ands; exact ⟨zg.below (by assumption) hbc12, zwk hbc12, zwk hbc12, zwk hbc12, zwk hbc12, zwk hbc12, zwk hbc12, zwk hbc12, zwk hbc12, zwk hbc12, zwk hbc12, zwk hbc12⟩
    clear hK K
    try simp only [zv9, zwa, zwb, Act.put, zwc, List.set_cons_succ, List.set_cons_zero]
    refine rd 13 fun K hK => ?_
    go_simp
    refine (HC2.out _ (by first | assumption | exact And.left (by assumption)) HSC.out HBE.out (V.zbr HBK.out)).mono ?_
    rintro e wc13 ⟨rfl, hbc13⟩
    try dsimp only
    refine hK.out _ _ ?_ (fun hHeld => ?_)
    ·(try dsimp only); go_split_ands; exact ⟨zg.below (by assumption) hbc13, zwk hbc13, zwk hbc13, zwk hbc13, zwk hbc13, zwk hbc13, zwk hbc13, zwk hbc13, zwk hbc13, zwk hbc13, zwk hbc13, zwk hbc13⟩
    clear hK K
    try simp only [zv9, zwa, zwb, Act.put, zwc, List.set_cons_succ, List.set_cons_zero]
    refine tk 14 ?_
    refine tk 15 ?_
    refine wpAnyH_done (by kernel_rfl) ?_ _
    have hbz1 : Below W1.heap.size W1 wc5 := ((zwh W1.heap.size W1).drew.trans (show Below W1.heap.size W1.drew wc3 from hbc3)).trans (hbc5.mono (show W1.heap.size ≤ wc3.heap.size from hbc3.size))
    have hbz2 : Below wc5.heap.size wc5 wc13 := hbc12.trans (hbc13.mono hbc12.size)
    have HBZ := zwe (HBA.out.trans ((hbz1.trans (hbz2.mono hbz1.size)).mono HBA.out.size))
    clear hbc3 hbc5 hbc12 hbc13 hHeld hbz1 hbz2
    by_cases hz3 : z2 ≤ 0
    ·have HR : Hid (V.kf n l a b = true) := zwe (by rw [HF.out]; exact HNO.out (by rw [HPX2.out]; exact decide_eq_true hz3))
     go_wp2
     go_ret
     exact ⟨zc HR.out.symm, HB0.out.trans (HBZ.out.mono HB0.out.size)⟩
    ·have HY := zwe (HYES.out (by rw [HPX2.out]; exact decide_eq_false hz3))
     exact z1p
   ·have hd : decide (z ≤ 0) = false := decide_eq_false hz0
    have HY := zwe (HYES.out (by rw [HPX.out, hd]; rfl))
    clear hz0
    refine wp_region_held_drew (S := (fun W' => zg W' /\ W'.cell? ⟨w.heap.size, 0, none⟩ = some (.int .i64 n) /\ W'.cell? ⟨wr.heap.size, 0, none⟩ = some (.string ⟨x.lo.toArray⟩) /\ W'.cell? ⟨wr.heap.size, 1, none⟩ = some (.int .i64 x.lk) /\ W'.cell? ⟨wr.heap.size, 2, none⟩ = some (.string ⟨x.hi.toArray⟩) /\ W'.cell? ⟨wr.heap.size, 3, none⟩ = some (.int .i64 x.hk) /\ W'.cell? ⟨w.heap.size + 1, 0, none⟩ = some (.int .i64 a.e) /\ W'.cell? ⟨w.heap.size + 1, 1, none⟩ = some (.string ⟨a.v.toArray⟩) /\ W'.cell? ⟨w.heap.size + 1, 2, none⟩ = some (.int .i64 a.s) /\ W'.cell? ⟨w.heap.size + 1 + 1, 0, none⟩ = some (.int .i64 b.e) /\ W'.cell? ⟨w.heap.size + 1 + 1, 1, none⟩ = some (.string ⟨b.v.toArray⟩) /\ W'.cell? ⟨w.heap.size + 1 + 1, 2, none⟩ = some (.int .i64 b.s))) (by kernel_rfl) (by (try dsimp only); (try simp only [World.cell?_drew]); exact ⟨HM1.out.below (zwh _ _).drew, e0, f0, f1, f2, f3, a0, a1, a2, b0, b1, b2⟩) (fun hHeld => ?_)
    refine tk 0 ?_
    refine tk 1 ?_
    refine tk 2 ?_
    refine tk 4 ?_
    refine rd 3 fun K hK => ?_
    go_simp
    refine (zad x _).mono ?_
    rintro e wc3 ⟨rfl, hbc3⟩
    try dsimp only
    refine hK.out _ _ ?_ (fun hHeld => ?_)
    ·exact zz5
    clear hK K
    try simp only [zv9, zwa, zwb, Act.put, zwc, List.set_cons_succ, List.set_cons_zero]
    refine rd 5 fun K hK => ?_
    go_simp
    refine (HC1.out _ (by first | assumption | exact And.left (by assumption)) HSC.out (V.zbc HBK.out) HA.out).mono ?_
    rintro e wc5 ⟨rfl, hbc5⟩
    try dsimp only
    refine hK.out _ _ ?_ (fun hHeld => ?_)
    ·exact zz4
    clear hK K
    try simp only [zv9, zwa, zwb, Act.put, zwc, List.set_cons_succ, List.set_cons_zero]
    refine tk 6 ?_
    refine tk 7 ?_
    refine tu 8 ?_
    refine tu 9 ?_
    refine tu 10 ?_
    refine tu 11 ?_
    refine tu 12 ?_
    refine tu 13 ?_
    refine tu 14 ?_
    refine tk 15 ?_
    refine wpAnyH_done (by kernel_rfl) ?_ _
    have hbz1 : Below W1.heap.size W1 wc5 := ((zwh W1.heap.size W1).drew.trans (show Below W1.heap.size W1.drew wc3 from hbc3)).trans (hbc5.mono (show W1.heap.size ≤ wc3.heap.size from hbc3.size))
    have HBZ := zwf HBA hbz1
    clear hbc3 hbc5 hHeld hbz1
    exact z1p
  ·obtain rfl : k = l.length := by omega
   have HR : Hid (V.kf n l a b = false) := zwe (by rw [HF.out]; have := HZ.out; rwa [List.take_length] at this)
   go_wp2
   go_ret
   exact ⟨zc HR.out.symm, HBF.out⟩
def ks (o : Int) (a b : Bool) : Bool := if o = 0 then !a else if o = 1 then a || b else if o = 2 then a && b else a && !b
theorem zyn {P : Prop} (h : P := by
 rcases a with _ | _ <;> rcases b with _ | _
 all_goals
  go_enter Tryz.func148, Tryz.ntmps148
  go_wp2
  go_ret
  exact ⟨rfl, zwh _ _⟩) : P := h
theorem zit (o : Int) (a b : Bool) (w : World) : Calls Tryz.prog 148 #[.int .i64 o, .bool a, .bool b] w fun e w' => e = .returned (.bool (ks o a b)) /\ Below w.heap.size w w' := by
 have HF : Hid (∀ a b, ks o a b = if o = 0 then !a else if o = 1 then a || b else if o = 2 then a && b else a && !b) := zwe (fun _ _ => rfl)
 by_cases h0 : o = 0
 ·subst h0
  exact zyn
 ·by_cases h1 : o = 1
  ·subst h1
   exact zyn
  ·by_cases h2 : o = 2
   ·subst h2
    exact zyn
   ·have b0 : (o == 0) = false := by simpa using h0
    have b1 : (o == 1) = false := by simpa using h1
    have b2 : (o == 2) = false := by simpa using h2
    have HG : Hid (∀ a b, ks o a b = (a && !b)) := zwe (fun a b => by rw [HF.out, if_neg h0, if_neg h1, if_neg h2])
    clear h0 h1 h2 HF
    rcases a with _ | _ <;> rcases b with _ | _
    all_goals
     go_enter Tryz.func148, Tryz.ntmps148
     go_wp2
     go_ret
     exact ⟨zc (by rw [HG.out]; rfl), zwh _ _⟩
theorem zcj (w : World) (a b c d : Obj) : Below w.heap.size w ((((w.alloc a).alloc b).alloc c).alloc d) := ((((zwh _ _).alloc (zwg _) _).alloc (by simp) _).alloc (by simp; omega) _).alloc (by simp; omega) _
theorem zvu (a b : V.Ec) : itvV (V.btw a b) = .agg #[.string ⟨(if a.e = 0 then a.v else []).toArray⟩, .int .i64 (if a.e = 0 then 1 + a.s else 0), .string ⟨(if b.e = 0 then b.v else []).toArray⟩, .int .i64 (if b.e = 0 then 2 - b.s else 0)] := rfl
theorem zyl {P : Prop} (h : P := by
 go_enter Tryz.func150, Tryz.ntmps150
 go_wp2
 go_region
 all_goals rename_i hK
 all_goals refine hK _ _ ?_
 all_goals clear hK
 go_wp2
 all_goals exact bodyPost_ret (v := .agg #[_, _, _, _]) (by simp [results, Tryz.results150, go_sem]) rfl ⟨rfl, (zcj _ _ _ _ _).drew⟩) : P := h
theorem zfn (a b : V.Ec) (w : World) (ha : 0 ≤ a.s /\ a.s ≤ 1) (hb : 0 ≤ b.s /\ b.s ≤ 1) :
  Calls Tryz.prog 150 #[ecV a, ecV b] w fun e w' => e = .returned (itvV (V.btw a b)) /\ Below w.heap.size w w' := by
 rw [zvu]
 obtain ⟨ae, av, asd⟩ := a
 obtain ⟨be, bv, bs⟩ := b
 obtain ⟨ha1, ha2⟩ := ha
 obtain ⟨hb1, hb2⟩ := hb
 simp only at ha1 ha2 hb1 hb2 ⊢
 have hwa : IntKind.i64.wrap (1 + asd) = 1 + asd := by rw [IntKind.wrap_i64]; omega
 have hwb : IntKind.i64.wrap (2 - bs) = 2 - bs := by rw [IntKind.wrap_i64]; omega
 unfold ecV
 by_cases h1 : ae = 0
 ·by_cases h2 : be = 0
  ·subst h1 h2
   rw [if_pos rfl, if_pos rfl, if_pos rfl, if_pos rfl]
   go_enter Tryz.func150, Tryz.ntmps150
   go_wp2
   go_region
   all_goals rename_i hK
   all_goals refine hK _ _ ?_
   all_goals clear hK
   go_wp2
   go_region
   all_goals rename_i hK
   all_goals refine hK _ _ ?_
   all_goals clear hK
   go_wp2
   all_goals exact bodyPost_ret (v := .agg #[_, _, _, _]) (by simp [results, Tryz.results150, go_sem]) rfl ⟨rfl, (zcj _ _ _ _ _).drew.drew⟩
  ·have b0 : (be == 0) = false := by simpa using h2
   subst h1
   rw [if_pos rfl, if_pos rfl, if_neg h2, if_neg h2]
   clear h2
   exact zyl
 ·have a0 : (ae == 0) = false := by simpa using h1
  rw [if_neg h1, if_neg h1]
  clear h1
  by_cases h2 : be = 0
  ·subst h2
   rw [if_pos rfl, if_pos rfl]
   exact zyl
  ·have b0 : (be == 0) = false := by simpa using h2
   rw [if_neg h2, if_neg h2]
   clear h2
   go_enter Tryz.func150, Tryz.ntmps150
   go_wp2
   exact bodyPost_ret (v := .agg #[_, _, _, _]) (by simp [results, Tryz.results150, go_sem]) rfl ⟨rfl, zcj _ _ _ _ _⟩
open Go.RowKit
def ecE (x : V.Ec) : List Value := [.int .i64 x.e, .string ⟨x.v.toArray⟩, .int .i64 x.s]
def ecC (x : V.Ec) : Array Value := #[.int .i64 x.e, .string ⟨x.v.toArray⟩, .int .i64 x.s]
theorem yj (x : V.Ec) : (ecE x).length = 3 := rfl
theorem zbd (x : V.Ec) : ∀ u ∈ ecE x, u.oneCell' = true := by
 intro u hu
 simp [ecE] at hu
 rcases hu with rfl | rfl | rfl <;> rfl
theorem ecC_all (x : V.Ec) : (ecC x).all (·.oneCell') = true := by simp [ecC, Value.oneCell']
theorem zdg : xq 108 3 32 := by
 have h : (match Tryz.prog.info? 108 with | some i => i.size == 3 && (i.bytes == 32 && (match i.zero with | some z => z.cells.size == 3 | none => false)) | none => false) = true := by kernel_rfl
 unfold xq
 cases hq : Tryz.prog.info? 108 with
 | none => rw [hq] at h; cases h
 | some i =>
  exact zw1
theorem ecSize : (Tryz.prog.info? 108).map (·.size) = some 3 := by kernel_rfl
def zdu (w : World) (N : Nat) (v : Value) (l : List V.Ec) : Prop := GRow 108 3 ecE w N v l
theorem GRow.weaken {α : Type} {enc : α -> List Value} {k : Nat} {T : TypeId} {w : World} {N N' : Nat} {v : Value} {l : List α} (h : GRow T k enc w N v l) (hN : N' ≤ N) : GRow T k enc w N' v l := by
 refine ⟨h.1, ?_⟩
 rcases h.2 with h | ⟨g, cap, cur, e, hb, rest⟩
 ·exact .inl h
 ·exact .inr ⟨g, cap, cur, e, Nat.le_trans hN hb, rest⟩
theorem zq9 {w : World} {g o : Nat} {x : V.Ec} (h : ∀ i u, (ecE x)[i]? = some u -> w.cell? ⟨g, o + i, none⟩ = some u) : w.cell? ⟨g, o, none⟩ = some (.int .i64 x.e) /\ w.cell? ⟨g, o + 1, none⟩ = some (.string ⟨x.v.toArray⟩) /\ w.cell? ⟨g, o + 2, none⟩ = some (.int .i64 x.s) :=
 ⟨h 0 _ rfl, h 1 _ rfl, h 2 _ rfl⟩
theorem ec_box {w : World} {g : Nat} {x : V.Ec} {t : TypeId} {fr : Nat × Nat} (h : w.heap[g]? = some (.cells (ecC x) t fr)) : w.cell? ⟨g, 0, none⟩ = some (.int .i64 x.e) /\ w.cell? ⟨g, 1, none⟩ = some (.string ⟨x.v.toArray⟩) /\ w.cell? ⟨g, 2, none⟩ = some (.int .i64 x.s) :=
 ⟨by rw [zcs h]; rfl, by rw [zcs h]; rfl, by rw [zcs h]; rfl⟩
theorem zpq {w : World} {g off cap : Nat} {l : List V.Ec} (hv : GSl 3 ecE w (.slice (some ⟨g, off, none⟩) l.length cap) l) (hg : g < w.heap.size) (hc : l.length ≤ cap) (i : Nat) :
  ∃ ad : Addr, (if cap = i then some (⟨g, off, none⟩ : Addr) else some ⟨g, off + i * 3, none⟩) = some ad /\ ∀ W : World, Below w.heap.size w W -> ∀ j u, ((l.drop i).flatMap ecE)[j]? = some u -> W.cell? (ad.add j) = some u := by
 by_cases h : cap = i
 ·refine ⟨_, if_pos h, fun W hW j u hu => ?_⟩
  rw [List.drop_eq_nil_of_le (by omega)] at hu
  simp at hu
 ·refine ⟨_, if_neg h, fun W hW j u hu => ?_⟩
  rw [Addr.add_mid]
  exact (hW.cell (p := ⟨g, off + i * 3 + j, none⟩) hg).trans (GSl.cells yj hv i j u hu)
structure AInv (n : Int) (x : V.Ec) (l : List V.Ec) (w : World) (k : Nat) (u : Value) (W : World) : Prop where
 row : zdu W (w.heap.size + 1) u (l.take k)
 box : W.heap[w.heap.size]? = some (.cells (ecC x) 108 (0, 0))
 below : Below w.heap.size w W
 size : w.heap.size + 1 ≤ W.heap.size
 fold : V.radd n x l = l.take k ++ V.radd n x (l.drop k)
theorem zwx {P : Prop} (h : P := by
 refine hK.out _ _ ?_ (fun hHeld => ?_)
 ·(try dsimp only); exact ⟨zm hg4 (GRow.block hr3) (by omega) (zm hg3 hgb3 (by omega) (za hbN x0)), zm hg4 (GRow.block hr3) (by omega) (zm hg3 hgb3 (by omega) (za hbN x1)), zm hg4 (GRow.block hr3) (by omega) (zm hg3 hgb3 (by omega) (za hbN x2))⟩
 clear hK K
 try simp only [zv9, zwa, zwb, Act.put, zwc, List.set_cons_succ, List.set_cons_zero]
 refine tk 8 ?_
 refine wpAnyH_done (by kernel_rfl) ?_ _
 have HB4 := zwe (HB3.out.trans (zk hg4 (GRow.block hr3) (by omega) hz4))
 have HR4 := zwe (GRow.weaken hr4 (Nat.le_succ _))
 rw [← HFO.out] at HR4
 clear hr3 hg3 hr4 hg4 hHeld hbN HNW
 go_wp2
 go_ret
 exact ⟨_, rfl, HR4.out, HB4.out⟩) : P := h
theorem zyp {P : Prop} (h : P := by
 (try dsimp only); exact ⟨zm hg3 hgb3 (by omega) (za hbN x0), zm hg3 hgb3 (by omega) (za hbN x1), zm hg3 hgb3 (by omega) (za hbN x2)⟩) : P := h
theorem z0y {P : Prop} (h : P := by
 (try dsimp only); go_split_ands; exact ⟨zg.below (by assumption) hbc11, zwk hbc11, zwk hbc11, zwk hbc11, zwk hbc11, zwk hbc11, zwk hbc11⟩) : P := h
theorem z1j {P : Prop} (h : P := by
 (try dsimp only); exact ⟨za hbN x0, za hbN x1, za hbN x2⟩) : P := h
theorem znw (n : Int) (x : V.Ec) (g off cap : Nat) (l : List V.Ec) (w : World) (hm : zg w) (hn : V.scheme n = true) (hx : V.EcOk n x) (hv : GSl 3 ecE w (.slice (some ⟨g, off, none⟩) l.length cap) l) (hok : ∀ y ∈ l, V.EcOk n y) (h0 : 0 < l.length) (hc : l.length ≤ cap) (hl : l.length ≤ 1000) :
  Calls Tryz.prog 147 #[.int .i64 n, .slice (some ⟨g, off, none⟩) l.length cap, ecV x] w fun e w' => ∃ u, e = .returned u /\ zdu w' w.heap.size u (V.radd n x l) /\ Below w.heap.size w w' := by
 have HV := zwe hv
 have HSC := zwe hn
 have HXO := zwe hx
 have HOK := zwe hok
 have HM := zwe hm
 have hgw : g < w.heap.size := by
  obtain ⟨g', off', e, hg, _⟩ := hv.at 0 h0
  cases e
  exact hg
 have HI : Hid (AInv n x l w 0 (.slice none 0 0) (w.alloc (.cells #[.int .i64 x.e, .string ⟨x.v.toArray⟩, .int .i64 x.s] 108))) := zwe ⟨GRow.nil _ _, by rw [heap_alloc, if_pos rfl]; rfl, (zwh _ w).alloc (zwg _) _, by simp, rfl⟩
 clear hv hn hx hok hm
 unfold ecV
 go_enter Tryz.func147, Tryz.ntmps147
 go_wp2
 generalize w.alloc (.cells #[.int .i64 x.e, .string ⟨x.v.toArray⟩, .int .i64 x.s] 108) = w0 at *
 go_loopw [7, 8] (fun ov iv wx => ∃ (k : Nat) (u : Value), k ≤ l.length /\ iv = .int .i64 k /\ u = ov /\ AInv n x l w k u wx) (fun _ iv _ => l.length - (intOf iv).toNat)
 case atStart => exact ⟨0, _, Nat.zero_le _, rfl, rfl, HI.out⟩
 case round =>
  obtain ⟨k, ou, hk, rfl, rfl, hinv⟩ := hrel
  have HINV := zwe hinv
  have HBW := zwe hinv.below
  have HMW := zwe (HM.out.below hinv.below)
  obtain ⟨x0, x1, x2⟩ := ec_box hinv.box
  have hzs := hinv.size
  clear hinv
  by_cases hlt : k < l.length
  ·obtain ⟨g', off', e, hg', hcells⟩ := HV.out.at k hlt
   cases e
   obtain ⟨y0, y1, y2⟩ := zq9 hcells
   have y0 := za HBW.out y0
   have y1 := za HBW.out y1
   have y2 := za HBW.out y2
   have hi1 : (0 : Int) ≤ (k : Int) := by omega
   have hi2 : (k : Int) < (l.length : Int) := by omega
   have HYO : Hid (V.EcOk n l[k]) := zwe (HOK.out _ (List.getElem_mem hlt))
   have HTK : Hid (l.take (k + 1) = l.take k ++ [l[k]]) := zwe (List.take_succ_eq_append_getElem hlt)
   have HDR : Hid (l.drop k = l[k] :: l.drop (k + 1)) := zwe (List.drop_eq_getElem_cons hlt)
   have hlk : (l.take k).length = k := by rw [List.length_take]; omega
   clear hcells
   generalize l[k] = y at *
   obtain ⟨z, hz⟩ : ∃ z, z = V.ecmp n y x := ⟨_, rfl⟩
   have HCM := zwe (um n y x)
   have HRA : Hid (V.radd n x (y :: l.drop (k + 1)) = if z < 0 then y :: V.radd n x (l.drop (k + 1)) else if z = 0 then (if V.cb y.v x.v < 0 then y else x) :: l.drop (k + 1) else x :: y :: l.drop (k + 1)) := zwe (by rw [hz]; rfl)
   rw [← hz] at HCM
   clear hz
   go_wp2_with fail
   refine wp_region_held_drew (S := (fun W' => zg W' /\ W'.cell? ⟨w.heap.size, 0, none⟩ = some (.int .i64 x.e) /\ W'.cell? ⟨w.heap.size, 1, none⟩ = some (.string ⟨x.v.toArray⟩) /\ W'.cell? ⟨w.heap.size, 2, none⟩ = some (.int .i64 x.s) /\ W'.cell? ⟨g, off + k * 3, none⟩ = some (.int .i64 y.e) /\ W'.cell? ⟨g, off + k * 3 + 1, none⟩ = some (.string ⟨y.v.toArray⟩) /\ W'.cell? ⟨g, off + k * 3 + 2, none⟩ = some (.int .i64 y.s))) (by kernel_rfl) (by (try dsimp only); (try simp only [World.cell?_drew]); exact ⟨HMW.out.below (zwh _ _).drew, x0, x1, x2, y0, y1, y2⟩) (fun hHeld => ?_)
   refine tk 0 ?_
   refine tk 1 ?_
   refine tk 2 ?_
   refine tk 3 ?_
   refine tk 4 ?_
   refine tk 5 ?_
   refine tk 6 ?_
   refine tk 7 ?_
   refine tk 8 ?_
   refine tk 9 ?_
   refine tk 10 ?_
   refine rd 11 fun K hK => ?_
   go_simp
   refine (HCM.out _ (by first | assumption | exact And.left (by assumption)) HSC.out HYO.out HXO.out).mono ?_
   rintro e wc11 ⟨rfl, hbc11⟩
   try dsimp only
   refine hK.out _ _ ?_ (fun hHeld => ?_)
   ·exact z0y
   clear hK K
   try simp only [zv9, zwa, zwb, Act.put, zwc, List.set_cons_succ, List.set_cons_zero]
   refine tk 12 ?_
   refine tk 13 ?_
   refine wpAnyH_done (by kernel_rfl) ?_ _
   have hbz : Below wr.heap.size wr wc11 := (zwh wr.heap.size wr).drew.trans (show Below wr.heap.size wr.drew wc11 from hbc11)
   have y0 := za hbz y0
   have y1 := za hbz y1
   have y2 := za hbz y2
   have x0 := za hbz x0
   have x1 := za hbz x1
   have x2 := za hbz x2
   have HR1 := zwe (GRow.below HINV.out.row hbz)
   have HBX : Hid (wc11.heap[w.heap.size]? = some (.cells (ecC x) 108 (0, 0))) := zwe ((hbz.block _ (by omega)).trans HINV.out.box)
   have HB1 := zwf HBW hbz
   have HM1 := zwe (HMW.out.below hbz)
   have hz1 : w.heap.size + 1 ≤ wc11.heap.size := Nat.le_trans hzs hbz.size
   clear hbz hbc11 hHeld hzs
   by_cases hz0 : z < 0
   ·have HFO : Hid (V.radd n x l = l.take (k + 1) ++ V.radd n x (l.drop (k + 1))) := zwe (by rw [HINV.out.fold, HDR.out, HRA.out, if_pos hz0, HTK.out]; simp)
    have hbC : Below wc11.heap.size wc11 (wc11.alloc (.cells #[.int .i64 y.e, .string ⟨y.v.toArray⟩, .int .i64 y.s] 108)) := (zwh _ wc11).alloc (zwg _) _
    have HR2 := zwe (GRow.below HR1.out hbC)
    have HB2 := zwf HB1 hbC
    have HBX2 := zwe ((hbC.block _ (show w.heap.size < wc11.heap.size by omega)).trans HBX.out)
    have HNW : Hid (∀ j u, (ecE y)[j]? = some u -> (wc11.alloc (.cells #[.int .i64 y.e, .string ⟨y.v.toArray⟩, .int .i64 y.s] 108)).cell? ⟨wc11.heap.size, j, none⟩ = some u) := zwe (fun j u hu => by rw [World.cell?_alloc_new]; simpa [ecE] using hu)
    clear hbC x0 x1 x2
    go_wp2_with (first | (refine zl yj (by decide) zbd zdg (by decide) rfl _ _ 173 rfl Tryz.underlying173 (w.heap.size + 1) ou (l.take k) rfl HR2.out wc11.heap.size y rfl HNW.out (by omega) (by simp; omega) ?_; intro v3 W3 hr3 hg3) | fail)
    have HA : Hid (AInv n x l w (k + 1) v3 W3) := zwe ⟨by rw [HTK.out]; exact hr3, kz hg3 (GRow.block HR2.out) (by omega) HBX2.out, HB2.out.trans (zk hg3 (GRow.block HR2.out) (by omega) (by simp; omega)), Nat.le_trans (by simp; omega) hg3.size, HFO.out⟩
    clear hr3 hg3
    go_wp2
    go_roundw
    case rel => exact ⟨k + 1, _, by omega, by go_num, rfl, HA.out⟩
    case measure => simp [intOf]; omega
   ·go_wp2_with fail
    refine wp_region_held_drew (S := (fun W' => zg W' /\ W'.cell? ⟨w.heap.size, 0, none⟩ = some (.int .i64 x.e) /\ W'.cell? ⟨w.heap.size, 1, none⟩ = some (.string ⟨x.v.toArray⟩) /\ W'.cell? ⟨w.heap.size, 2, none⟩ = some (.int .i64 x.s) /\ W'.cell? ⟨g, off + k * 3, none⟩ = some (.int .i64 y.e) /\ W'.cell? ⟨g, off + k * 3 + 1, none⟩ = some (.string ⟨y.v.toArray⟩) /\ W'.cell? ⟨g, off + k * 3 + 2, none⟩ = some (.int .i64 y.s))) (by kernel_rfl) (by (try dsimp only); (try simp only [World.cell?_drew]); exact ⟨HM1.out.below (zwh _ _).drew, x0, x1, x2, y0, y1, y2⟩) (fun hHeld => ?_)
    refine tk 0 ?_
    refine tk 1 ?_
    refine tk 2 ?_
    refine tk 3 ?_
    refine tk 4 ?_
    refine tk 5 ?_
    refine tk 6 ?_
    refine tk 7 ?_
    refine tk 8 ?_
    refine tk 9 ?_
    refine tk 10 ?_
    refine rd 11 fun K hK => ?_
    go_simp
    refine (HCM.out _ (by first | assumption | exact And.left (by assumption)) HSC.out HYO.out HXO.out).mono ?_
    rintro e wc12 ⟨rfl, hbc12⟩
    try dsimp only
    refine hK.out _ _ ?_ (fun hHeld => ?_)
    ·(try dsimp only); go_split_ands; exact ⟨zg.below (by assumption) hbc12, zwk hbc12, zwk hbc12, zwk hbc12, zwk hbc12, zwk hbc12, zwk hbc12⟩
    clear hK K
    try simp only [zv9, zwa, zwb, Act.put, zwc, List.set_cons_succ, List.set_cons_zero]
    refine tk 12 ?_
    refine tk 13 ?_
    refine wpAnyH_done (by kernel_rfl) ?_ _
    have hbz : Below wc11.heap.size wc11 wc12 := (zwh wc11.heap.size wc11).drew.trans (show Below wc11.heap.size wc11.drew wc12 from hbc12)
    have y0 := za hbz y0
    have y1 := za hbz y1
    have y2 := za hbz y2
    have x0 := za hbz x0
    have x1 := za hbz x1
    have x2 := za hbz x2
    have HR2 := zwe (GRow.below HR1.out hbz)
    have HBX2 : Hid (wc12.heap[w.heap.size]? = some (.cells (ecC x) 108 (0, 0))) := zwe ((hbz.block _ (by omega)).trans HBX.out)
    have HB2 := zwf HB1 hbz
    have hz2 : w.heap.size + 1 ≤ wc12.heap.size := Nat.le_trans hz1 hbz.size
    clear hbz hbc12 hHeld HBX HR1 HM1
    by_cases hze : z = 0
    ·have b0 : (z == 0) = true := by simpa using hze
     have HFO : Hid (V.radd n x l = (l.take k ++ [if V.cb y.v x.v < 0 then y else x]) ++ l.drop (k + 1)) := zwe (by rw [HINV.out.fold, HDR.out, HRA.out, if_neg (show ¬ z < 0 by omega), if_pos hze]; simp)
     obtain ⟨ad, hadE, had⟩ := zpq HV.out hgw hc (k + 1)
     have HAD := zwe had
     clear had
     clear HDR HRA HCM HTK HINV HBW HMW HM HSC HXO HOK HYO hze hz0
     have hi3 : (0 : Int) ≤ (k : Int) + 1 := by omega
     have hi4 : (k : Int) + 1 ≤ (l.length : Int) := by omega
     have hi5 : ((k : Int) + 1).toNat = k + 1 := by omega
     have hi6 : (l.length : Int) - ((k : Int) + 1) = ((l.length - (k + 1) : Nat) : Int) := by omega
     by_cases hls : V.cb y.v x.v < 0
     ·have hlb : Op.bytesLess y.v x.v = true := by rw [vu]; exact decide_eq_true hls
      rw [if_pos hls] at HFO
      clear hls
      go_wp2_with fail
      go_quiet (fail)
      have y0 := za (below_drewN (zwh wc12.heap.size wc12) nq) y0
      have y1 := za (below_drewN (zwh wc12.heap.size wc12) nq) y1
      have y2 := za (below_drewN (zwh wc12.heap.size wc12) nq) y2
      have HR3 := zwe (GRow.below HR2.out (below_drewN (zwh wc12.heap.size wc12) nq))
      have HB3 := zwe (below_drewN HB2.out nq)
      have HBX3 := zwe (((below_drewN (zwh wc12.heap.size wc12) nq).block _ (by omega)).trans HBX2.out)
      have hz3 : w.heap.size + 1 ≤ (wc12.drewN nq).heap.size := Nat.le_trans hz2 (below_drewN (zwh wc12.heap.size wc12) nq).size
      clear x0 x1 x2 HR2 HB2 HBX2 hz2
      generalize wc12.drewN nq = WD at *
      go_wp2_with (first | (refine zi rfl _ _ _ rfl w.heap.size (ecC x) _ HBX3.out rfl (ecC y) rfl rfl ecSize (ecC_all _) ?_; intro WF hp2) | fail)
      obtain ⟨x0, x1, x2⟩ := ec_box hp2.here
      have HRF := zwe (hp2.row HR3.out (by omega))
      have HBF := zwe (hp2.below HB3.out (zwg _))
      have hzF : w.heap.size + 1 ≤ WF.heap.size := by rw [hp2.size]; exact hz3
      clear hp2 y0 y1 y2 HR3 HB3 HBX3 hz3
      have hbN : Below WF.heap.size WF (WF.drew.alloc (.cells #[.int .i64 y.e, .string ⟨y.v.toArray⟩, .int .i64 y.s] 108)) := ((zwh WF.heap.size WF).drew).alloc (zwg _) _
      have HBN := zwf HBF hbN
      have HNW : Hid (∀ j u, (ecE y)[j]? = some u -> (WF.drew.alloc (.cells #[.int .i64 y.e, .string ⟨y.v.toArray⟩, .int .i64 y.s] 108)).cell? ⟨WF.heap.size, j, none⟩ = some u) := zwe (fun j u hu => by show (WF.drew.alloc _).cell? ⟨WF.drew.heap.size, j, none⟩ = _; rw [World.cell?_alloc_new]; simpa [ecE] using hu)
      refine wp_region_held_drew (S := (fun W' => W'.cell? ⟨w.heap.size, 0, none⟩ = some (.int .i64 y.e) /\ W'.cell? ⟨w.heap.size, 1, none⟩ = some (.string ⟨y.v.toArray⟩) /\ W'.cell? ⟨w.heap.size, 2, none⟩ = some (.int .i64 y.s))) (by kernel_rfl) (by (try dsimp only); (try simp only [World.cell?_drew]); exact ⟨x0, x1, x2⟩) (fun hHeld => ?_)
      refine tk 0 ?_
      refine tk 1 ?_
      refine tk 4 ?_
      refine tk 5 ?_
      refine tk 6 ?_
      refine rd 2 fun K hK => ?_
      go_simp
      refine hK.out _ _ ?_ (fun hHeld => ?_)
      ·exact z1j
      clear hK K
      try simp only [zv9, zwa, zwb, Act.put, zwc, List.set_cons_succ, List.set_cons_zero]
      refine rd 3 fun K hK => ?_
      refine ue yj (by decide) zbd zdg (by decide) rfl _ _ 173 rfl Tryz.underlying173 (w.heap.size + 1) ou (l.take k) rfl (GRow.below HRF.out hbN) WF.heap.size y rfl HNW.out (by omega) (by simp; omega) (fun v3 W3 hr3 hg3 => ?_)
      have hgb3 := GRow.block HRF.out
      have HB3 := zwe (HBN.out.trans (zk hg3 hgb3 (by omega) (by simp; omega)))
      have hz4 : w.heap.size + 1 ≤ W3.heap.size := Nat.le_trans (Nat.le_trans hzF hbN.size) hg3.size
      refine hK.out _ _ ?_ (fun hHeld => ?_)
      ·exact zyp
      clear hK K
      try simp only [zv9, zwa, zwb, Act.put, zwc, List.set_cons_succ, List.set_cons_zero]
      refine rd 7 fun K hK => ?_
      refine wn yj (by decide) zbd zdg (by decide) rfl _ _ 173 rfl Tryz.underlying173 (w.heap.size + 1) v3 (l.take k ++ [y]) rfl hr3 ad (cap - (k + 1)) (l.drop (k + 1)) (l.length - (k + 1)) (by simp) (by rfl) (HAD.out _ HB3.out) (by simp; omega) hz4 (fun v4 W4 hr4 hg4 => ?_)
      exact zwx
     ·have hlb : Op.bytesLess y.v x.v = false := by rw [vu]; exact decide_eq_false hls
      rw [if_neg hls] at HFO
      clear hls
      go_wp2_with fail
      go_quiet (fail)
      go_wp2_with fail
      have x0 := za (below_drewN (zwh wc12.heap.size wc12) nq) x0
      have x1 := za (below_drewN (zwh wc12.heap.size wc12) nq) x1
      have x2 := za (below_drewN (zwh wc12.heap.size wc12) nq) x2
      have HRF := zwe (GRow.below HR2.out (below_drewN (zwh wc12.heap.size wc12) nq))
      have HBF := zwe (below_drewN HB2.out nq)
      have hzF : w.heap.size + 1 ≤ (wc12.drewN nq).heap.size := Nat.le_trans hz2 (below_drewN (zwh wc12.heap.size wc12) nq).size
      generalize wc12.drewN nq = WF at *
      have hbN : Below WF.heap.size WF (WF.drew.alloc (.cells #[.int .i64 x.e, .string ⟨x.v.toArray⟩, .int .i64 x.s] 108)) := ((zwh WF.heap.size WF).drew).alloc (zwg _) _
      have HBN := zwf HBF hbN
      have HNW : Hid (∀ j u, (ecE x)[j]? = some u -> (WF.drew.alloc (.cells #[.int .i64 x.e, .string ⟨x.v.toArray⟩, .int .i64 x.s] 108)).cell? ⟨WF.heap.size, j, none⟩ = some u) := zwe (fun j u hu => by show (WF.drew.alloc _).cell? ⟨WF.drew.heap.size, j, none⟩ = _; rw [World.cell?_alloc_new]; simpa [ecE] using hu)
      refine wp_region_held_drew (S := (fun W' => W'.cell? ⟨w.heap.size, 0, none⟩ = some (.int .i64 x.e) /\ W'.cell? ⟨w.heap.size, 1, none⟩ = some (.string ⟨x.v.toArray⟩) /\ W'.cell? ⟨w.heap.size, 2, none⟩ = some (.int .i64 x.s))) (by kernel_rfl) (by (try dsimp only); (try simp only [World.cell?_drew]); exact ⟨x0, x1, x2⟩) (fun hHeld => ?_)
      refine tk 0 ?_
      refine tk 1 ?_
      refine tk 4 ?_
      refine tk 5 ?_
      refine tk 6 ?_
      refine rd 2 fun K hK => ?_
      go_simp
      refine hK.out _ _ ?_ (fun hHeld => ?_)
      ·exact z1j
      clear hK K
      try simp only [zv9, zwa, zwb, Act.put, zwc, List.set_cons_succ, List.set_cons_zero]
      refine rd 3 fun K hK => ?_
      refine ue yj (by decide) zbd zdg (by decide) rfl _ _ 173 rfl Tryz.underlying173 (w.heap.size + 1) ou (l.take k) rfl (GRow.below HRF.out hbN) WF.heap.size x rfl HNW.out (by omega) (by simp; omega) (fun v3 W3 hr3 hg3 => ?_)
      have hgb3 := GRow.block HRF.out
      have HB3 := zwe (HBN.out.trans (zk hg3 hgb3 (by omega) (by simp; omega)))
      have hz4 : w.heap.size + 1 ≤ W3.heap.size := Nat.le_trans (Nat.le_trans hzF hbN.size) hg3.size
      refine hK.out _ _ ?_ (fun hHeld => ?_)
      ·exact zyp
      clear hK K
      try simp only [zv9, zwa, zwb, Act.put, zwc, List.set_cons_succ, List.set_cons_zero]
      refine rd 7 fun K hK => ?_
      refine wn yj (by decide) zbd zdg (by decide) rfl _ _ 173 rfl Tryz.underlying173 (w.heap.size + 1) v3 (l.take k ++ [x]) rfl hr3 ad (cap - (k + 1)) (l.drop (k + 1)) (l.length - (k + 1)) (by simp) (by rfl) (HAD.out _ HB3.out) (by simp; omega) hz4 (fun v4 W4 hr4 hg4 => ?_)
      exact zwx
    ·have b0 : (z == 0) = false := by simpa using hze
     have HFO : Hid (V.radd n x l = (l.take k ++ [x]) ++ l.drop k) := zwe (by rw [HINV.out.fold, HDR.out, HRA.out, if_neg (show ¬ z < 0 by omega), if_neg hze]; simp)
     obtain ⟨ad, hadE, had⟩ := zpq HV.out hgw hc k
     have HAD := zwe had
     clear had
     clear HDR HRA HCM HTK HINV HBW HMW HM HSC HXO HOK HYO hze hz0
     go_wp2_with fail
     have HRF := HR2
     have HBF := HB2
     have hzF := hz2
     generalize wc12 = WF at *
     have hbN : Below WF.heap.size WF (WF.drew.alloc (.cells #[.int .i64 x.e, .string ⟨x.v.toArray⟩, .int .i64 x.s] 108)) := ((zwh WF.heap.size WF).drew).alloc (zwg _) _
     have HBN := zwf HBF hbN
     have HNW : Hid (∀ j u, (ecE x)[j]? = some u -> (WF.drew.alloc (.cells #[.int .i64 x.e, .string ⟨x.v.toArray⟩, .int .i64 x.s] 108)).cell? ⟨WF.heap.size, j, none⟩ = some u) := zwe (fun j u hu => by show (WF.drew.alloc _).cell? ⟨WF.drew.heap.size, j, none⟩ = _; rw [World.cell?_alloc_new]; simpa [ecE] using hu)
     refine wp_region_held_drew (S := (fun W' => W'.cell? ⟨w.heap.size, 0, none⟩ = some (.int .i64 x.e) /\ W'.cell? ⟨w.heap.size, 1, none⟩ = some (.string ⟨x.v.toArray⟩) /\ W'.cell? ⟨w.heap.size, 2, none⟩ = some (.int .i64 x.s))) (by kernel_rfl) (by (try dsimp only); (try simp only [World.cell?_drew]); exact ⟨x0, x1, x2⟩) (fun hHeld => ?_)
     refine tk 0 ?_
     refine tk 1 ?_
     refine tk 4 ?_
     refine tk 5 ?_
     refine tk 6 ?_
     refine rd 2 fun K hK => ?_
     go_simp
     refine hK.out _ _ ?_ (fun hHeld => ?_)
     ·exact z1j
     clear hK K
     try simp only [zv9, zwa, zwb, Act.put, zwc, List.set_cons_succ, List.set_cons_zero]
     refine rd 3 fun K hK => ?_
     refine ue yj (by decide) zbd zdg (by decide) rfl _ _ 173 rfl Tryz.underlying173 (w.heap.size + 1) ou (l.take k) rfl (GRow.below HRF.out hbN) WF.heap.size x rfl HNW.out (by omega) (by simp; omega) (fun v3 W3 hr3 hg3 => ?_)
     have hgb3 := GRow.block HRF.out
     have HB3 := zwe (HBN.out.trans (zk hg3 hgb3 (by omega) (by simp; omega)))
     have hz4 : w.heap.size + 1 ≤ W3.heap.size := Nat.le_trans (Nat.le_trans hzF hbN.size) hg3.size
     refine hK.out _ _ ?_ (fun hHeld => ?_)
     ·exact zyp
     clear hK K
     try simp only [zv9, zwa, zwb, Act.put, zwc, List.set_cons_succ, List.set_cons_zero]
     refine rd 7 fun K hK => ?_
     refine wn yj (by decide) zbd zdg (by decide) rfl _ _ 173 rfl Tryz.underlying173 (w.heap.size + 1) v3 (l.take k ++ [x]) rfl hr3 ad (cap - k) (l.drop k) (l.length - k) (by simp) (by rfl) (HAD.out _ HB3.out) (by simp; omega) hz4 (fun v4 W4 hr4 hg4 => ?_)
     exact zwx
  ·obtain rfl : k = l.length := by omega
   go_wp2_with fail
   refine wp_region_held_drew (S := (fun W' => zg W' /\ W'.cell? ⟨w.heap.size, 0, none⟩ = some (.int .i64 x.e) /\ W'.cell? ⟨w.heap.size, 1, none⟩ = some (.string ⟨x.v.toArray⟩) /\ W'.cell? ⟨w.heap.size, 2, none⟩ = some (.int .i64 x.s))) (by kernel_rfl) (by (try dsimp only); (try simp only [World.cell?_drew]); exact ⟨HMW.out.below (zwh _ _).drew, x0, x1, x2⟩) (fun hHeld => ?_)
   refine tk 0 ?_
   refine tk 1 ?_
   refine tk 2 ?_
   refine tk 3 ?_
   refine tk 4 ?_
   refine tu 5 ?_
   refine tu 6 ?_
   refine tu 7 ?_
   refine tu 8 ?_
   refine tu 9 ?_
   refine tu 10 ?_
   refine tu 11 ?_
   refine tu 12 ?_
   refine tk 13 ?_
   refine wpAnyH_done (by kernel_rfl) ?_ _
   go_wp2_with fail
   refine wp_region_held_drew (S := (fun W' => zg W' /\ W'.cell? ⟨w.heap.size, 0, none⟩ = some (.int .i64 x.e) /\ W'.cell? ⟨w.heap.size, 1, none⟩ = some (.string ⟨x.v.toArray⟩) /\ W'.cell? ⟨w.heap.size, 2, none⟩ = some (.int .i64 x.s))) (by kernel_rfl) (by (try dsimp only); (try simp only [World.cell?_drew]); exact ⟨HMW.out.below (zwh _ _).drew.drew, x0, x1, x2⟩) (fun hHeld => ?_)
   refine tk 0 ?_
   refine tk 1 ?_
   refine tk 2 ?_
   refine tk 3 ?_
   refine tk 4 ?_
   refine tu 5 ?_
   refine tu 6 ?_
   refine tu 7 ?_
   refine tu 8 ?_
   refine tu 9 ?_
   refine tu 10 ?_
   refine tu 11 ?_
   refine tu 12 ?_
   refine tk 13 ?_
   refine wpAnyH_done (by kernel_rfl) ?_ _
   have hlk : (l.take l.length).length = l.length := by simp
   have HFO : Hid (V.radd n x l = (l.take l.length ++ [x]) ++ l.drop l.length) := zwe (by have := HINV.out.fold; rw [List.drop_length] at this; rw [this, List.drop_length]; simp [V.radd])
   obtain ⟨ad, hadE, had⟩ := zpq HV.out hgw hc l.length
   have HAD := zwe had
   clear had
   have hbz : Below wr.heap.size wr wr.drew.drew := (zwh wr.heap.size wr).drew.drew
   have x0 := za hbz x0
   have x1 := za hbz x1
   have x2 := za hbz x2
   have HRF := zwe (GRow.below HINV.out.row hbz)
   have HBF := zwf HBW hbz
   have hzF : w.heap.size + 1 ≤ wr.drew.drew.heap.size := hzs
   go_wp2_with fail
   generalize wr.drew.drew = WF at *
   have hbN : Below WF.heap.size WF (WF.drew.alloc (.cells #[.int .i64 x.e, .string ⟨x.v.toArray⟩, .int .i64 x.s] 108)) := ((zwh WF.heap.size WF).drew).alloc (zwg _) _
   have HBN := zwf HBF hbN
   have HNW : Hid (∀ j u, (ecE x)[j]? = some u -> (WF.drew.alloc (.cells #[.int .i64 x.e, .string ⟨x.v.toArray⟩, .int .i64 x.s] 108)).cell? ⟨WF.heap.size, j, none⟩ = some u) := zwe (fun j u hu => by show (WF.drew.alloc _).cell? ⟨WF.drew.heap.size, j, none⟩ = _; rw [World.cell?_alloc_new]; simpa [ecE] using hu)
   refine wp_region_held_drew (S := (fun W' => W'.cell? ⟨w.heap.size, 0, none⟩ = some (.int .i64 x.e) /\ W'.cell? ⟨w.heap.size, 1, none⟩ = some (.string ⟨x.v.toArray⟩) /\ W'.cell? ⟨w.heap.size, 2, none⟩ = some (.int .i64 x.s))) (by kernel_rfl) (by (try dsimp only); (try simp only [World.cell?_drew]); exact ⟨x0, x1, x2⟩) (fun hHeld => ?_)
   refine tk 0 ?_
   refine tk 1 ?_
   refine tk 4 ?_
   refine tk 5 ?_
   refine tk 6 ?_
   refine rd 2 fun K hK => ?_
   go_simp
   refine hK.out _ _ ?_ (fun hHeld => ?_)
   ·exact z1j
   clear hK K
   try simp only [zv9, zwa, zwb, Act.put, zwc, List.set_cons_succ, List.set_cons_zero]
   refine rd 3 fun K hK => ?_
   refine ue yj (by decide) zbd zdg (by decide) rfl _ _ 173 rfl Tryz.underlying173 (w.heap.size + 1) ou (l.take l.length) rfl (GRow.below HRF.out hbN) WF.heap.size x rfl HNW.out (by omega) (by simp; omega) (fun v3 W3 hr3 hg3 => ?_)
   have hgb3 := GRow.block HRF.out
   have HB3 := zwe (HBN.out.trans (zk hg3 hgb3 (by omega) (by simp; omega)))
   have hz4 : w.heap.size + 1 ≤ W3.heap.size := Nat.le_trans (Nat.le_trans hzF hbN.size) hg3.size
   refine hK.out _ _ ?_ (fun hHeld => ?_)
   ·exact zyp
   clear hK K
   try simp only [zv9, zwa, zwb, Act.put, zwc, List.set_cons_succ, List.set_cons_zero]
   refine rd 7 fun K hK => ?_
   refine wn yj (by decide) zbd zdg (by decide) rfl _ _ 173 rfl Tryz.underlying173 (w.heap.size + 1) v3 (l.take l.length ++ [x]) rfl hr3 ad (cap - l.length) (l.drop l.length) 0 (by simp) (by rfl) (HAD.out _ HB3.out) (by simp; omega) hz4 (fun v4 W4 hr4 hg4 => ?_)
   exact zwx
end Go.Proofs.YtcfbkcapbbhmpaaGreatDoor
