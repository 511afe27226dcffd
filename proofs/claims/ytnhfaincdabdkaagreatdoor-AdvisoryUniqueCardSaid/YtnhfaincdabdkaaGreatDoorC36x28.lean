/-
  Lemmas for the law.
-/
import Derived.Test.YtnhfaincdabdkaaGreatDoorC36x17
import Derived.Test.YtnhfaincdabdkaaGreatDoorC36x22
import Derived.Test.YtnhfaincdabdkaaGreatDoorC36x18
import Derived.Test.YtnhfaincdabdkaaGreatDoorC36x21
set_option linter.all false
set_option maxRecDepth 100000
set_option maxHeartbeats 3200000
namespace Go.Proofs.YtnhfaincdabdkaaGreatDoor
open Go.RowKit
theorem zw2 {P : Prop} (h : P := by
 go_wp2
 go_roundw
 case rel => exact ⟨k + 1, by omega, by go_num, HY.out, HBZ.out⟩
 case measure => simp [intOf]; omega) : P := h
theorem zxg {P : Prop} (h : P := by
 (try dsimp only); go_split_ands; exact ⟨zg.below (by assumption) hbc5, zu4 hbc5, zu4 hbc5, zu4 hbc5, zu4 hbc5, zu4 hbc5, zu4 hbc5, zu4 hbc5, zu4 hbc5, zu4 hbc5, zu4 hbc5, zu4 hbc5⟩) : P := h
theorem zxh {P : Prop} (h : P := by
 (try dsimp only); go_split_ands; exact ⟨zg.below (by assumption) hbc3, zu4 hbc3, zu4 hbc3, zu4 hbc3, zu4 hbc3, zu4 hbc3, zu4 hbc3, zu4 hbc3, zu4 hbc3, zu4 hbc3, zu4 hbc3, zu4 hbc3⟩) : P := h
theorem zal (n : Int) (v : Value) (l : List V.Itv) (a b : V.Ec) (w : World) (hm : zg w) (hn : V.scheme n = true) (hv : Itvs w v l) (hB : ∀ x ∈ l, V.zk n x = true) (ha : V.EcOk n a) (hb : V.EcOk n b) (hl : l.length ≤ 1000) :
  Calls Tryz.prog 215 #[setV n v, ecV a, ecV b] w fun e w' => e = .returned (.bool (V.jo n l a b)) /\ Below w.heap.size w w' := by
 have HV := zuy hv
 obtain ⟨va, vc, rfl⟩ := hv.slice
 have HA := zuy ha
 have HBE := zuy hb
 have HSC := zuy hn
 have HBND := zuy hB
 obtain ⟨p, hp⟩ : ∃ p : V.Itv -> Bool, p = fun x => decide (V.ecmp n (V.eLow x) a ≤ 0) && decide (V.ecmp n b (V.kh x) ≤ 0) := ⟨_, rfl⟩
 have HF : Hid (V.jo n l a b = l.any p) := zuy (by rw [hp]; rfl)
 have HP := zuy hp
 have hb0 : Below w.heap.size w (((w.alloc (.cells #[.int .i64 n, .slice va l.length vc] 48)).alloc (.cells #[.int .i64 a.e, .string ⟨a.v.toArray⟩, .int .i64 a.s] 182)).alloc (.cells #[.int .i64 b.e, .string ⟨b.v.toArray⟩, .int .i64 b.s] 182)) := (((zu1 _ _).alloc (zu0 _) _).alloc (by simp) _).alloc (by simp; omega) _
 have HB0 := zuy hb0
 have HM := zuy (hm.below hb0)
 have c0 : (((w.alloc (.cells #[.int .i64 n, .slice va l.length vc] 48)).alloc (.cells #[.int .i64 a.e, .string ⟨a.v.toArray⟩, .int .i64 a.s] 182)).alloc (.cells #[.int .i64 b.e, .string ⟨b.v.toArray⟩, .int .i64 b.s] 182)).cell? ⟨w.heap.size, 0, none⟩ = some (.int .i64 n) := by simp [zc]; try omega
 have c1 : (((w.alloc (.cells #[.int .i64 n, .slice va l.length vc] 48)).alloc (.cells #[.int .i64 a.e, .string ⟨a.v.toArray⟩, .int .i64 a.s] 182)).alloc (.cells #[.int .i64 b.e, .string ⟨b.v.toArray⟩, .int .i64 b.s] 182)).cell? ⟨w.heap.size, 1, none⟩ = some (.slice va l.length vc) := by simp [zc]; try omega
 have a0 : (((w.alloc (.cells #[.int .i64 n, .slice va l.length vc] 48)).alloc (.cells #[.int .i64 a.e, .string ⟨a.v.toArray⟩, .int .i64 a.s] 182)).alloc (.cells #[.int .i64 b.e, .string ⟨b.v.toArray⟩, .int .i64 b.s] 182)).cell? ⟨w.heap.size + 1, 0, none⟩ = some (.int .i64 a.e) := by simp [zc]
 have a1 : (((w.alloc (.cells #[.int .i64 n, .slice va l.length vc] 48)).alloc (.cells #[.int .i64 a.e, .string ⟨a.v.toArray⟩, .int .i64 a.s] 182)).alloc (.cells #[.int .i64 b.e, .string ⟨b.v.toArray⟩, .int .i64 b.s] 182)).cell? ⟨w.heap.size + 1, 1, none⟩ = some (.string ⟨a.v.toArray⟩) := by simp [zc]
 have a2 : (((w.alloc (.cells #[.int .i64 n, .slice va l.length vc] 48)).alloc (.cells #[.int .i64 a.e, .string ⟨a.v.toArray⟩, .int .i64 a.s] 182)).alloc (.cells #[.int .i64 b.e, .string ⟨b.v.toArray⟩, .int .i64 b.s] 182)).cell? ⟨w.heap.size + 1, 2, none⟩ = some (.int .i64 a.s) := by simp [zc]
 have b0 : (((w.alloc (.cells #[.int .i64 n, .slice va l.length vc] 48)).alloc (.cells #[.int .i64 a.e, .string ⟨a.v.toArray⟩, .int .i64 a.s] 182)).alloc (.cells #[.int .i64 b.e, .string ⟨b.v.toArray⟩, .int .i64 b.s] 182)).cell? ⟨w.heap.size + 1 + 1, 0, none⟩ = some (.int .i64 b.e) := by simp [zc]
 have b1 : (((w.alloc (.cells #[.int .i64 n, .slice va l.length vc] 48)).alloc (.cells #[.int .i64 a.e, .string ⟨a.v.toArray⟩, .int .i64 a.s] 182)).alloc (.cells #[.int .i64 b.e, .string ⟨b.v.toArray⟩, .int .i64 b.s] 182)).cell? ⟨w.heap.size + 1 + 1, 1, none⟩ = some (.string ⟨b.v.toArray⟩) := by simp [zc]
 have b2 : (((w.alloc (.cells #[.int .i64 n, .slice va l.length vc] 48)).alloc (.cells #[.int .i64 a.e, .string ⟨a.v.toArray⟩, .int .i64 a.s] 182)).alloc (.cells #[.int .i64 b.e, .string ⟨b.v.toArray⟩, .int .i64 b.s] 182)).cell? ⟨w.heap.size + 1 + 1, 2, none⟩ = some (.int .i64 b.s) := by simp [zc]
 have HC := zuy (And.intro c0 (And.intro c1 (And.intro a0 (And.intro a1 (And.intro a2 (And.intro b0 (And.intro b1 b2)))))))
 clear hv hb0 hm c0 a0 a1 a2 b0 b1 b2 ha hb hn hB
 unfold setV ecV
 go_enter Tryz.func215, Tryz.ntmps215
 go_wp2
 clear c1
 generalize ((w.alloc (.cells #[.int .i64 n, .slice va l.length vc] 48)).alloc (.cells #[.int .i64 a.e, .string ⟨a.v.toArray⟩, .int .i64 a.s] 182)).alloc (.cells #[.int .i64 b.e, .string ⟨b.v.toArray⟩, .int .i64 b.s] 182) = w0 at *
 go_loopw [7] (fun iv wx => ∃ k : Nat, k ≤ l.length /\ iv = .int .i64 k /\ (l.take k).any p = false /\ Below w0.heap.size w0 wx) (fun iv _ => l.length - (intOf iv).toNat)
 case atStart => exact ⟨0, Nat.zero_le _, rfl, rfl, zu1 _ _⟩
 case round =>
  obtain ⟨k, hk, rfl, hz, hbx⟩ := hrel
  have HZ := zuy hz
  have HBX := zuy hbx
  have HBF := zuz HB0 hbx
  have d1 := za HBX.out HC.out.2.1
  clear hz hbx
  by_cases hlt : k < l.length
  ·obtain ⟨g, off, rfl, hb0, hx⟩ := HV.out.at k hlt
   obtain ⟨h0, h1, h2, h3⟩ := hx.below hb0 HBF.out
   have hi1 : (0 : Int) ≤ (k : Int) := by omega
   have hi2 : (k : Int) < (l.length : Int) := by omega
   have HBK : Hid (V.zk n l[k] = true) := zuy (HBND.out _ (List.getElem_mem hlt))
   have HYES := zuy (fun hb => zpz (p := p) HZ.out hlt hb)
   have HNO := zuy (fun hb => zsw (p := p) hlt hb)
   clear hx
   generalize l[k] = x at *
   have HPX : Hid (p x = (decide (V.ecmp n (V.eLow x) a ≤ 0) && decide (V.ecmp n b (V.kh x) ≤ 0))) := zuy (by rw [HP.out])
   have hbA : Below wr.heap.size wr (wr.alloc (.cells #[.string ⟨x.lo.toArray⟩, .int .i64 x.lk, .string ⟨x.hi.toArray⟩, .int .i64 x.hk] 120)) := (zu1 _ wr).alloc (zu0 _) _
   have HM1 := zuy ((HM.out.below HBX.out).below hbA)
   have HBA := zuz HBX hbA
   have e0 := za HBA.out HC.out.1
   have a0 := za HBA.out HC.out.2.2.1
   have a1 := za HBA.out HC.out.2.2.2.1
   have a2 := za HBA.out HC.out.2.2.2.2.1
   have b0 := za HBA.out HC.out.2.2.2.2.2.1
   have b1 := za HBA.out HC.out.2.2.2.2.2.2.1
   have b2 := za HBA.out HC.out.2.2.2.2.2.2.2
   have hx4 : zbm (wr.alloc (.cells #[.string ⟨x.lo.toArray⟩, .int .i64 x.lk, .string ⟨x.hi.toArray⟩, .int .i64 x.hk] 120)) wr.heap.size 0 x := by
    exact zy7
   have HX4 := zuy hx4
   clear hbA hx4
   go_wp2_with fail
   generalize wr.alloc (.cells #[.string ⟨x.lo.toArray⟩, .int .i64 x.lk, .string ⟨x.hi.toArray⟩, .int .i64 x.hk] 120) = W1 at *
   obtain ⟨f0, f1, f2, f3⟩ := HX4.out
   rw [Nat.zero_add] at f1 f2 f3
   clear h0 h1 h2 h3 d1
   obtain ⟨z, hz⟩ : ∃ z, z = V.ecmp n (V.eLow x) a := ⟨_, rfl⟩
   obtain ⟨z2, hz2⟩ : ∃ z, z = V.ecmp n b (V.kh x) := ⟨_, rfl⟩
   have HC1 := zuy (yk n (V.eLow x) a)
   have HC2 := zuy (yk n b (V.kh x))
   rw [← hz, ← hz2] at HPX
   rw [← hz] at HC1
   rw [← hz2] at HC2
   clear hz hz2
   by_cases hz0 : z ≤ 0
   ·have hd : decide (z ≤ 0) = true := decide_eq_true hz0
    have HPX2 : Hid (p x = decide (z2 ≤ 0)) := zuy (by rw [HPX.out, hd]; rfl)
    clear hz0
    refine wp_region_held_drew (S := (fun W' => zg W' /\ W'.cell? ⟨w.heap.size, 0, none⟩ = some (.int .i64 n) /\ W'.cell? ⟨wr.heap.size, 0, none⟩ = some (.string ⟨x.lo.toArray⟩) /\ W'.cell? ⟨wr.heap.size, 1, none⟩ = some (.int .i64 x.lk) /\ W'.cell? ⟨wr.heap.size, 2, none⟩ = some (.string ⟨x.hi.toArray⟩) /\ W'.cell? ⟨wr.heap.size, 3, none⟩ = some (.int .i64 x.hk) /\ W'.cell? ⟨w.heap.size + 1, 0, none⟩ = some (.int .i64 a.e) /\ W'.cell? ⟨w.heap.size + 1, 1, none⟩ = some (.string ⟨a.v.toArray⟩) /\ W'.cell? ⟨w.heap.size + 1, 2, none⟩ = some (.int .i64 a.s) /\ W'.cell? ⟨w.heap.size + 1 + 1, 0, none⟩ = some (.int .i64 b.e) /\ W'.cell? ⟨w.heap.size + 1 + 1, 1, none⟩ = some (.string ⟨b.v.toArray⟩) /\ W'.cell? ⟨w.heap.size + 1 + 1, 2, none⟩ = some (.int .i64 b.s))) (by kernel_rfl) (by (try dsimp only); (try simp only [World.cell?_drew]); exact ⟨HM1.out.below (zu1 _ _).drew, e0, f0, f1, f2, f3, a0, a1, a2, b0, b1, b2⟩) (fun hHeld => ?_)
    refine tk 0 ?_
    refine tk 1 ?_
    refine tk 2 ?_
    refine tk 4 ?_
    refine rd 3 fun K hK => ?_
    go_simp
    refine (vl x _).mono ?_
    rintro e wc3 ⟨rfl, hbc3⟩
    try dsimp only
    refine hK.out _ _ ?_ (fun hHeld => ?_)
    ·exact zxh
    clear hK K
    try simp only [zut, zuu, zuv, Act.put, zuw, List.set_cons_succ, List.set_cons_zero]
    refine rd 5 fun K hK => ?_
    go_simp
    refine (HC1.out _ (by first | assumption | exact And.left (by assumption)) HSC.out (V.zaj HBK.out) HA.out).mono ?_
    rintro e wc5 ⟨rfl, hbc5⟩
    try dsimp only
    refine hK.out _ _ ?_ (fun hHeld => ?_)
    ·exact zxg
    clear hK K
    try simp only [zut, zuu, zuv, Act.put, zuw, List.set_cons_succ, List.set_cons_zero]
    refine tk 6 ?_
    refine tk 7 ?_
    refine tk 8 ?_
    refine tk 9 ?_
    refine tk 10 ?_
    refine tk 11 ?_
    refine rd 12 fun K hK => ?_
    go_simp
    refine (vt x _).mono ?_
    rintro e wc12 ⟨rfl, hbc12⟩
    try dsimp only
    refine hK.out _ _ ?_ (fun hHeld => ?_)
    ·(try dsimp only); go_split_ands; exact ⟨zg.below (by assumption) hbc12, zu4 hbc12, zu4 hbc12, zu4 hbc12, zu4 hbc12, zu4 hbc12, zu4 hbc12, zu4 hbc12, zu4 hbc12, zu4 hbc12, zu4 hbc12, zu4 hbc12⟩
    clear hK K
    try simp only [zut, zuu, zuv, Act.put, zuw, List.set_cons_succ, List.set_cons_zero]
    refine rd 13 fun K hK => ?_
    go_simp
    refine (HC2.out _ (by first | assumption | exact And.left (by assumption)) HSC.out HBE.out (V.zav HBK.out)).mono ?_
    rintro e wc13 ⟨rfl, hbc13⟩
    try dsimp only
    refine hK.out _ _ ?_ (fun hHeld => ?_)
    ·(try dsimp only); go_split_ands; exact ⟨zg.below (by assumption) hbc13, zu4 hbc13, zu4 hbc13, zu4 hbc13, zu4 hbc13, zu4 hbc13, zu4 hbc13, zu4 hbc13, zu4 hbc13, zu4 hbc13, zu4 hbc13, zu4 hbc13⟩
    clear hK K
    try simp only [zut, zuu, zuv, Act.put, zuw, List.set_cons_succ, List.set_cons_zero]
    refine tk 14 ?_
    refine tk 15 ?_
    refine wpAnyH_done (by kernel_rfl) ?_ _
    have hbz1 : Below W1.heap.size W1 wc5 := ((zu1 W1.heap.size W1).drew.trans (show Below W1.heap.size W1.drew wc3 from hbc3)).trans (hbc5.mono (show W1.heap.size ≤ wc3.heap.size from hbc3.size))
    have hbz2 : Below wc5.heap.size wc5 wc13 := hbc12.trans (hbc13.mono hbc12.size)
    have HBZ := zuy (HBA.out.trans ((hbz1.trans (hbz2.mono hbz1.size)).mono HBA.out.size))
    clear hbc3 hbc5 hbc12 hbc13 hHeld hbz1 hbz2
    by_cases hz3 : z2 ≤ 0
    ·have HR : Hid (V.jo n l a b = true) := zuy (by rw [HF.out]; exact HNO.out (by rw [HPX2.out]; exact decide_eq_true hz3))
     go_wp2
     go_ret
     exact ⟨zd HR.out.symm, HB0.out.trans (HBZ.out.mono HB0.out.size)⟩
    ·have HY := zuy (HYES.out (by rw [HPX2.out]; exact decide_eq_false hz3))
     exact zw2
   ·have hd : decide (z ≤ 0) = false := decide_eq_false hz0
    have HY := zuy (HYES.out (by rw [HPX.out, hd]; rfl))
    clear hz0
    refine wp_region_held_drew (S := (fun W' => zg W' /\ W'.cell? ⟨w.heap.size, 0, none⟩ = some (.int .i64 n) /\ W'.cell? ⟨wr.heap.size, 0, none⟩ = some (.string ⟨x.lo.toArray⟩) /\ W'.cell? ⟨wr.heap.size, 1, none⟩ = some (.int .i64 x.lk) /\ W'.cell? ⟨wr.heap.size, 2, none⟩ = some (.string ⟨x.hi.toArray⟩) /\ W'.cell? ⟨wr.heap.size, 3, none⟩ = some (.int .i64 x.hk) /\ W'.cell? ⟨w.heap.size + 1, 0, none⟩ = some (.int .i64 a.e) /\ W'.cell? ⟨w.heap.size + 1, 1, none⟩ = some (.string ⟨a.v.toArray⟩) /\ W'.cell? ⟨w.heap.size + 1, 2, none⟩ = some (.int .i64 a.s) /\ W'.cell? ⟨w.heap.size + 1 + 1, 0, none⟩ = some (.int .i64 b.e) /\ W'.cell? ⟨w.heap.size + 1 + 1, 1, none⟩ = some (.string ⟨b.v.toArray⟩) /\ W'.cell? ⟨w.heap.size + 1 + 1, 2, none⟩ = some (.int .i64 b.s))) (by kernel_rfl) (by (try dsimp only); (try simp only [World.cell?_drew]); exact ⟨HM1.out.below (zu1 _ _).drew, e0, f0, f1, f2, f3, a0, a1, a2, b0, b1, b2⟩) (fun hHeld => ?_)
    refine tk 0 ?_
    refine tk 1 ?_
    refine tk 2 ?_
    refine tk 4 ?_
    refine rd 3 fun K hK => ?_
    go_simp
    refine (vl x _).mono ?_
    rintro e wc3 ⟨rfl, hbc3⟩
    try dsimp only
    refine hK.out _ _ ?_ (fun hHeld => ?_)
    ·exact zxh
    clear hK K
    try simp only [zut, zuu, zuv, Act.put, zuw, List.set_cons_succ, List.set_cons_zero]
    refine rd 5 fun K hK => ?_
    go_simp
    refine (HC1.out _ (by first | assumption | exact And.left (by assumption)) HSC.out (V.zaj HBK.out) HA.out).mono ?_
    rintro e wc5 ⟨rfl, hbc5⟩
    try dsimp only
    refine hK.out _ _ ?_ (fun hHeld => ?_)
    ·exact zxg
    clear hK K
    try simp only [zut, zuu, zuv, Act.put, zuw, List.set_cons_succ, List.set_cons_zero]
    refine tk 6 ?_
    refine tk 7 ?_
    refine tu 8 ?_
    refine tu 9 ?_
    refine tu 10 ?_
    refine tu 11 ?_
    refine tu 12 ?_
    refine tu 13 ?_
    refine tu 14 ?_
    refine tk 15 ?_
    refine wpAnyH_done (by kernel_rfl) ?_ _
    have hbz1 : Below W1.heap.size W1 wc5 := ((zu1 W1.heap.size W1).drew.trans (show Below W1.heap.size W1.drew wc3 from hbc3)).trans (hbc5.mono (show W1.heap.size ≤ wc3.heap.size from hbc3.size))
    have HBZ := zuz HBA hbz1
    clear hbc3 hbc5 hHeld hbz1
    exact zw2
  ·obtain rfl : k = l.length := by omega
   have HR : Hid (V.jo n l a b = false) := zuy (by rw [HF.out]; have := HZ.out; rwa [List.take_length] at this)
   go_wp2
   go_ret
   exact ⟨zd HR.out.symm, HBF.out⟩
def kb (o : Int) (a b : Bool) : Bool := if o = 0 then !a else if o = 1 then a || b else if o = 2 then a && b else a && !b
theorem zv5 {P : Prop} (h : P := by
 rcases a with _ | _ <;> rcases b with _ | _
 all_goals
  go_enter Tryz.func214, Tryz.ntmps214
  go_wp2
  go_ret
  exact ⟨rfl, zu1 _ _⟩) : P := h
theorem zhb (o : Int) (a b : Bool) (w : World) : Calls Tryz.prog 214 #[.int .i64 o, .bool a, .bool b] w fun e w' => e = .returned (.bool (kb o a b)) /\ Below w.heap.size w w' := by
 have HF : Hid (∀ a b, kb o a b = if o = 0 then !a else if o = 1 then a || b else if o = 2 then a && b else a && !b) := zuy (fun _ _ => rfl)
 by_cases h0 : o = 0
 ·subst h0
  exact zv5
 ·by_cases h1 : o = 1
  ·subst h1
   exact zv5
  ·by_cases h2 : o = 2
   ·subst h2
    exact zv5
   ·have b0 : (o == 0) = false := by simpa using h0
    have b1 : (o == 1) = false := by simpa using h1
    have b2 : (o == 2) = false := by simpa using h2
    have HG : Hid (∀ a b, kb o a b = (a && !b)) := zuy (fun a b => by rw [HF.out, if_neg h0, if_neg h1, if_neg h2])
    clear h0 h1 h2 HF
    rcases a with _ | _ <;> rcases b with _ | _
    all_goals
     go_enter Tryz.func214, Tryz.ntmps214
     go_wp2
     go_ret
     exact ⟨zd (by rw [HG.out]; rfl), zu1 _ _⟩
theorem zbi (w : World) (a b c d : Obj) : Below w.heap.size w ((((w.alloc a).alloc b).alloc c).alloc d) := ((((zu1 _ _).alloc (zu0 _) _).alloc (by simp) _).alloc (by simp; omega) _).alloc (by simp; omega) _
theorem zuc (a b : V.Ec) : itvV (V.btw a b) = .agg #[.string ⟨(if a.e = 0 then a.v else []).toArray⟩, .int .i64 (if a.e = 0 then 1 + a.s else 0), .string ⟨(if b.e = 0 then b.v else []).toArray⟩, .int .i64 (if b.e = 0 then 2 - b.s else 0)] := rfl
theorem zv3 {P : Prop} (h : P := by
 go_enter Tryz.func216, Tryz.ntmps216
 go_wp2
 go_region
 all_goals rename_i hK
 all_goals refine hK _ _ ?_
 all_goals clear hK
 go_wp2
 all_goals exact bodyPost_ret (v := .agg #[_, _, _, _]) (by simp [results, Tryz.results216, go_sem]) rfl ⟨rfl, (zbi _ _ _ _ _).drew⟩) : P := h
theorem zem (a b : V.Ec) (w : World) (ha : 0 ≤ a.s /\ a.s ≤ 1) (hb : 0 ≤ b.s /\ b.s ≤ 1) :
  Calls Tryz.prog 216 #[ecV a, ecV b] w fun e w' => e = .returned (itvV (V.btw a b)) /\ Below w.heap.size w w' := by
 rw [zuc]
 obtain ⟨ae, av, asd⟩ := a
 obtain ⟨be, bv, bs⟩ := b
 obtain ⟨ha1, ha2⟩ := ha
 obtain ⟨hb1, hb2⟩ := hb
 simp only at ha1 ha2 hb1 hb2 ⊢
 have hwa : IntKind.i64.wrap (1 + asd) = 1 + asd := by rw [IntKind.wrap_i64]; omega
 have hwb : IntKind.i64.wrap (2 - bs) = 2 - bs := by rw [IntKind.wrap_i64]; omega
 unfold ecV
 by_cases h1 : ae = 0
 ·by_cases h2 : be = 0
  ·subst h1 h2
   rw [if_pos rfl, if_pos rfl, if_pos rfl, if_pos rfl]
   go_enter Tryz.func216, Tryz.ntmps216
   go_wp2
   go_region
   all_goals rename_i hK
   all_goals refine hK _ _ ?_
   all_goals clear hK
   go_wp2
   go_region
   all_goals rename_i hK
   all_goals refine hK _ _ ?_
   all_goals clear hK
   go_wp2
   all_goals exact bodyPost_ret (v := .agg #[_, _, _, _]) (by simp [results, Tryz.results216, go_sem]) rfl ⟨rfl, (zbi _ _ _ _ _).drew.drew⟩
  ·have b0 : (be == 0) = false := by simpa using h2
   subst h1
   rw [if_pos rfl, if_pos rfl, if_neg h2, if_neg h2]
   clear h2
   exact zv3
 ·have a0 : (ae == 0) = false := by simpa using h1
  rw [if_neg h1, if_neg h1]
  clear h1
  by_cases h2 : be = 0
  ·subst h2
   rw [if_pos rfl, if_pos rfl]
   exact zv3
  ·have b0 : (be == 0) = false := by simpa using h2
   rw [if_neg h2, if_neg h2]
   clear h2
   go_enter Tryz.func216, Tryz.ntmps216
   go_wp2
   exact bodyPost_ret (v := .agg #[_, _, _, _]) (by simp [results, Tryz.results216, go_sem]) rfl ⟨rfl, zbi _ _ _ _ _⟩
end Go.Proofs.YtnhfaincdabdkaaGreatDoor
