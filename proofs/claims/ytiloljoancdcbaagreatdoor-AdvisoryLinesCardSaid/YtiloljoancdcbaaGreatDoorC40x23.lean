/-
  Lemmas for the law.
-/
import Derived.Test.YtiloljoancdcbaaGreatDoorC40x17
import Derived.Test.YtiloljoancdcbaaGreatDoorC40x18
import Derived.Test.YtiloljoancdcbaaGreatDoorC40x20
import Derived.Test.YtiloljoancdcbaaGreatDoorC40x22
set_option linter.all false
set_option maxRecDepth 100000
set_option maxHeartbeats 6400000
namespace Go.Proofs.YtiloljoancdcbaaGreatDoor
open Go.RowKit
def affV (a : V.Aff) (u : Value) : Value := .agg #[.int .i64 a.sch, .string ⟨a.name.toArray⟩, .int .i64 a.rs, u]
def pkgV (n : Int) (s : V.Bs) : Value := .agg #[.int .i64 n, .string ⟨s.toArray⟩]
theorem two_ints (w : World) (a b : Int) (t : TypeId) : ∀ j, j < [a, b].length -> (w.alloc (.cells #[.int .i64 a, .int .i64 b] t)).cell? ⟨w.heap.size, j, none⟩ = some (.int .i64 ([a, b].getD j 0)) := by
 exact z09
theorem zu7 (w : World) (a b : Int) (t : TypeId) : ∀ j, j < [a, b].length -> (w.alloc (.cells #[.int .i64 a, .int .i64 b] t)).drew.cell? ⟨w.heap.size, j, none⟩ = some (.int .i64 ([a, b].getD j 0)) := fun j hj => by
 rw [World.cell?_drew]; exact two_ints w a b t j hj
theorem zdf {w : World} (o1 o2 : Obj) : Below w.heap.size w ((w.alloc o1).alloc o2) /\ (∀ k, ((w.alloc o1).alloc o2).cell? ⟨w.heap.size, k, none⟩ = (w.alloc o1).cell? ⟨w.heap.size, k, none⟩) /\ (∀ k, ((w.alloc o1).alloc o2).cell? ⟨w.heap.size + 1, k, none⟩ = ((w.alloc o1).alloc o2).cell? ⟨(w.alloc o1).heap.size, k, none⟩) := by
 refine ⟨((zvt _ w).alloc (zvs _) _).alloc (by simp) _, fun k => ?_, fun k => by rw [World.size_alloc]⟩
 exact ((zvt _ (w.alloc o1)).alloc (zvs _) o2).cell (p := ⟨w.heap.size, k, none⟩) (by show w.heap.size < _; simp)
theorem zxo {P : Prop} (h : P := by
 (try dsimp only); exact ⟨zb ((zvt _ _).alloc (zvs _) _) hHeld.1, zb ((zvt _ _).alloc (zvs _) _) hHeld.2.1, zb ((zvt _ _).alloc (zvs _) _) hHeld.2.2.1, zb ((zvt _ _).alloc (zvs _) _) hHeld.2.2.2⟩) : P := h
theorem zlq (a b : V.Aff) (ua va : Option Addr) (un uc vn vc : Nat) (w : World) :
  Calls Tryz.prog 32 #[affV a (.slice ua un uc), affV b (.slice va vn vc)] w fun e w' => e = .returned (.int .i64 (V.affC a b)) /\ Below w.heap.size w w' := by
 obtain ⟨hb, h0, h1⟩ := zdf (w := w) (.cells #[.int .i64 a.sch, .string ⟨a.name.toArray⟩, .int .i64 a.rs, .slice ua un uc] 34) (.cells #[.int .i64 b.sch, .string ⟨b.name.toArray⟩, .int .i64 b.rs, .slice va vn vc] 34)
 have HB := zvq hb
 have c0 := (h0 0).trans (World.cell?_alloc_new ..)
 have c1 := (h0 1).trans (World.cell?_alloc_new ..)
 have d0 := (h1 0).trans (World.cell?_alloc_new ..)
 have d1 := (h1 1).trans (World.cell?_alloc_new ..)
 simp only [List.getElem?_toArray, List.getElem?_cons_zero, List.getElem?_cons_succ] at c0 c1 d0 d1
 clear hb h0 h1
 have HF : Hid (V.affC a b = V.orI [Lib.compareInt a.sch b.sch, Lib.compareBytes a.name b.name]) := zvq rfl
 unfold affV
 go_enter Tryz.func32, Tryz.ntmps32
 go_wp2_with fail
 generalize (w.alloc (.cells #[.int .i64 a.sch, .string ⟨a.name.toArray⟩, .int .i64 a.rs, .slice ua un uc] 34)).alloc (.cells #[.int .i64 b.sch, .string ⟨b.name.toArray⟩, .int .i64 b.rs, .slice va vn vc] 34) = w0 at *
 refine wp_region_held_drew (S := (fun W' => W'.cell? ⟨w.heap.size, 0, none⟩ = some (.int .i64 a.sch) /\ W'.cell? ⟨w.heap.size, 1, none⟩ = some (.string ⟨a.name.toArray⟩) /\ W'.cell? ⟨w.heap.size + 1, 0, none⟩ = some (.int .i64 b.sch) /\ W'.cell? ⟨w.heap.size + 1, 1, none⟩ = some (.string ⟨b.name.toArray⟩))) (by kernel_rfl) (by (try dsimp only); exact ⟨zb (zvt _ _).drew c0, zb (zvt _ _).drew c1, zb (zvt _ _).drew d0, zb (zvt _ _).drew d1⟩) (fun hHeld => ?_)
 refine tk 0 ?_
 refine tk 1 ?_
 refine tk 2 ?_
 refine tk 3 ?_
 refine tk 5 ?_
 refine tk 6 ?_
 refine tk 7 ?_
 refine tk 8 ?_
 refine rd 4 fun K hK => ?_
 go_simp
 refine (Tryz.cmp_Compare_int _ _ _).mono ?_
 rintro e w' ⟨rfl, rfl⟩
 try dsimp only
 refine hK.out _ _ ?_ (fun hHeld => nx ?_)
 ·(try dsimp only); exact hHeld
 clear hK K
 refine rd 9 fun K hK => ?_
 go_simp
 refine (zr5 _ _ _).mono ?_
 rintro e w' ⟨rfl, rfl⟩
 try dsimp only
 try rw [kk, kk]
 refine hK.out _ _ ?_ (fun hHeld => nx ?_)
 ·(try dsimp only); exact hHeld
 clear hK K
 refine rd 10 fun K hK => ?_
 go_simp
 refine hK.out _ _ ?_ (fun hHeld => nx ?_)
 ·exact zxo
 clear hK K
 refine rd 11 fun K hK => ?_
 go_simp
 refine (zoy _ [Lib.compareInt a.sch b.sch, Lib.compareBytes a.name b.name] _ (by simp) (zu7 _ _ _ _)).mono ?_
 rintro e w' ⟨rfl, rfl⟩
 try dsimp only
 refine hK.out _ _ ?_ (fun hHeld => nx ?_)
 ·(try dsimp only); exact hHeld
 clear hK K
 refine tk 12 ?_
 refine wpAnyH_done (by kernel_rfl) ?_ _
 have hb9 : Below w0.heap.size w0 (w0.alloc (.cells #[.int .i64 (Lib.compareInt a.sch b.sch), .int .i64 (Lib.compareBytes a.name b.name)] 3)).drew := ((zvt _ w0).alloc (zvs _) _).drew
 have HB9 := zvr HB hb9
 clear hb9 hHeld
 go_wp2
 go_ret
 exact ⟨zn HF.out.symm, HB9.out⟩
theorem zz0 {P : Prop} (h : P := by
 go_enter Tryz.func37, Tryz.ntmps37
 go_wp2
 go_ret
 exact ⟨zc HF.out.symm, HB.out⟩) : P := h
theorem zqf (n m : Int) (s t : V.Bs) (w : World) :
  Calls Tryz.prog 37 #[pkgV n s, pkgV m t] w fun e w' => e = .returned (.bool (decide (V.orI [Lib.compareInt n m, Lib.compareBytes s t] < 0))) /\ Below w.heap.size w w' := by
 have HB := zvq (zdf (w := w) (.cells #[.int .i64 n, .string ⟨s.toArray⟩] 57) (.cells #[.int .i64 m, .string ⟨t.toArray⟩] 57)).1
 have hbl : Op.bytesLess (⟨s.toArray⟩ : ByteArray).toList (⟨t.toArray⟩ : ByteArray).toList = decide (Lib.compareBytes s t < 0) := by rw [Lib.toList_data, Lib.toList_data]; exact wi _ _
 have hbl2 : Op.bytesLess s t = decide (Lib.compareBytes s t < 0) := wi _ _
 unfold pkgV
 by_cases h1 : n < m
 ·have HF : Hid (decide (V.orI [Lib.compareInt n m, Lib.compareBytes s t] < 0) = true) := zvq (by
    have e : Lib.compareInt n m = -1 := by unfold Lib.compareInt; rw [if_pos h1]
    rw [e]; rfl)
  exact zz0
 ·by_cases h2 : n = m
  ·subst h2
   have HF : Hid (decide (V.orI [Lib.compareInt n n, Lib.compareBytes s t] < 0) = decide (Lib.compareBytes s t < 0)) := zvq (by
     have e : Lib.compareInt n n = 0 := by unfold Lib.compareInt; rw [if_neg (by omega), if_neg (by omega)]
     rw [e]
     unfold V.orI V.orI V.orI V.cor
     simp
     split <;> simp_all)
   rw [HF.out]
   generalize decide (Lib.compareBytes s t < 0) = r at *
   go_enter Tryz.func37, Tryz.ntmps37
   go_wp2
   go_ret
   exact ⟨zc rfl, HB.out⟩
  ·have HF : Hid (decide (V.orI [Lib.compareInt n m, Lib.compareBytes s t] < 0) = false) := zvq (by
     have e : Lib.compareInt n m = 1 := by unfold Lib.compareInt; rw [if_neg h1, if_pos (by omega)]
     rw [e]; rfl)
   have h3 : (n == m) = false := by rw [zvu]; exact h2
   exact zz0
theorem zc6 (a : V.Aff) (u : Value) (w : World) : Below w.heap.size w (w.alloc (.cells #[.int .i64 a.sch, .string ⟨a.name.toArray⟩, .int .i64 a.rs, u] 34)) /\ (w.alloc (.cells #[.int .i64 a.sch, .string ⟨a.name.toArray⟩, .int .i64 a.rs, u] 34)).cell? ⟨w.heap.size, 0, none⟩ = some (.int .i64 a.sch) /\ (w.alloc (.cells #[.int .i64 a.sch, .string ⟨a.name.toArray⟩, .int .i64 a.rs, u] 34)).cell? ⟨w.heap.size, 1, none⟩ = some (.string ⟨a.name.toArray⟩) /\ (w.alloc (.cells #[.int .i64 a.sch, .string ⟨a.name.toArray⟩, .int .i64 a.rs, u] 34)).cell? ⟨w.heap.size, 2, none⟩ = some (.int .i64 a.rs) /\ (w.alloc (.cells #[.int .i64 a.sch, .string ⟨a.name.toArray⟩, .int .i64 a.rs, u] 34)).cell? ⟨w.heap.size, 3, none⟩ = some u := by
 refine ⟨(zvt _ w).alloc (zvs _) _, ?_, ?_, ?_, ?_⟩ <;> (rw [World.cell?_alloc_new]; rfl)
theorem z0y {P : Prop} (h : P := by
 go_wp2
 go_ret
 exact ⟨zc HR.out.symm, HB1.out⟩) : P := h
theorem zmx (a : V.Aff) (ua : Option Addr) (uc : Nat) (w : World) (hm : zg w) (hv : Itvs w (.slice ua a.its.length uc) a.its) (hs : Lens a.its) (hn : a.name.length ≤ maxLen) (hl : a.its.length ≤ maxLen) :
  Calls Tryz.prog 33 #[affV a (.slice ua a.its.length uc)] w fun e w' => e = .returned (.bool (V.kt a)) /\ Below w.heap.size w w' := by
 obtain ⟨hb, c0, c1, c2, c3⟩ := zc6 a (.slice ua a.its.length uc) w
 have HM := zvq (hm.below hb)
 have HV := zvq (hv.below hb)
 have HS := zvq hs
 have HL := zvq hl
 have HN : Hid ((⟨a.name.toArray⟩ : ByteArray).size ≤ maxLen) := zvq (by rw [yi]; exact hn)
 have HB := zvq hb
 have hz : w.heap.size < (w.alloc (.cells #[.int .i64 a.sch, .string ⟨a.name.toArray⟩, .int .i64 a.rs, .slice ua a.its.length uc] 34)).heap.size := by simp
 have HF : Hid (V.kt a = (V.xi a.name && (decide (a.rs = a.sch) && (decide (1 ≤ a.its.length) && V.okR a.rs a.its)))) := zvq rfl
 clear hm hv hs hl hn hb
 unfold affV
 go_enter Tryz.func33, Tryz.ntmps33
 go_wp2_with fail
 generalize w.alloc (.cells #[.int .i64 a.sch, .string ⟨a.name.toArray⟩, .int .i64 a.rs, .slice ua a.its.length uc] 34) = w0 at *
 refine (path_any ⟨a.name.toArray⟩ w0 HM.out HN.out).mono ?_
 rintro e w1 ⟨rfl, hb1⟩
 rw [kk]
 have HB1 := zvr HB hb1
 have HM1 := zvq (HM.out.below hb1)
 have HV1 := zvq (HV.out.below hb1)
 replace c0 := zb hb1 c0
 replace c2 := zb hb1 c2
 replace c3 := zb hb1 c3
 clear hb1 c1 HB HM HV
 rcases hp : V.xi a.name with _ | _
 ·have HR : Hid (V.kt a = false) := zvq (by rw [HF.out, hp]; rfl)
  clear hp
  exact z0y
 ·by_cases hrs : a.rs = a.sch
  ·have hb2 : (a.rs == a.sch) = true := by simpa using hrs
   by_cases hln : 1 ≤ a.its.length
   ·have hi : (1 : Int) ≤ (a.its.length : Int) := by omega
    have HR : Hid (V.kt a = V.okR a.rs a.its) := zvq (by rw [HF.out, hp, decide_eq_true hrs, decide_eq_true hln]; rfl)
    clear hp hln
    rw [← hrs] at c0
    clear hrs hb2
    go_wp2_with fail
    refine (zar a.rs (.slice ua a.its.length uc) a.its w1 HM1.out HV1.out HS.out HL.out).mono ?_
    rintro e w2 ⟨rfl, hb3⟩
    have HB3 := zvr HB1 hb3
    clear hb3
    go_wp2
    go_ret
    exact ⟨zc HR.out.symm, HB3.out⟩
   ·have hi : ¬ (1 : Int) ≤ (a.its.length : Int) := by omega
    have HR : Hid (V.kt a = false) := zvq (by rw [HF.out, decide_eq_false hln]; simp)
    clear hp hln
    rw [← hrs] at c0
    clear hrs hb2
    exact z0y
  ·have hb2 : (a.rs == a.sch) = false := by rw [zvu]; exact hrs
   have HR : Hid (V.kt a = false) := zvq (by rw [HF.out, decide_eq_false hrs]; simp)
   clear hp
   exact z0y
theorem zoz (n r : Int) (l : List V.Itv) (ua : Option Addr) (uc : Nat) (w : World) (hm : zg w) (hv : Itvs w (.slice ua l.length uc) l) (hs : Lens l) (hl : l.length ≤ maxLen) :
  Calls Tryz.prog 36 #[.int .i64 n, setV r (.slice ua l.length uc)] w fun e w' => e = .returned (.bool (V.zdp n r l)) /\ Below w.heap.size w w' := by
 have hb : Below w.heap.size w (w.alloc (.cells #[.int .i64 r, .slice ua l.length uc] 32)) := (zvt _ w).alloc (zvs _) _
 have c0 : (w.alloc (.cells #[.int .i64 r, .slice ua l.length uc] 32)).cell? ⟨w.heap.size, 0, none⟩ = some (.int .i64 r) := by rw [World.cell?_alloc_new]; rfl
 have c1 : (w.alloc (.cells #[.int .i64 r, .slice ua l.length uc] 32)).cell? ⟨w.heap.size, 1, none⟩ = some (.slice ua l.length uc) := by rw [World.cell?_alloc_new]; rfl
 have HM := zvq (hm.below hb)
 have HV := zvq (hv.below hb)
 have HS := zvq hs
 have HL := zvq hl
 have HB := zvq hb
 have HF : Hid (V.zdp n r l = (decide (r = n) && (decide (1 ≤ l.length) && V.okR r l))) := zvq rfl
 clear hm hv hs hl hb
 unfold setV
 go_enter Tryz.func36, Tryz.ntmps36
 go_wp2_with fail
 generalize w.alloc (.cells #[.int .i64 r, .slice ua l.length uc] 32) = w0 at *
 refine (zb2 r (.slice ua l.length uc) l w0 HM.out HV.out HS.out HL.out).mono ?_
 rintro e w1 ⟨rfl, hb1⟩
 have HB1 := zvr HB hb1
 replace c0 := zb hb1 c0
 replace c1 := zb hb1 c1
 clear hb1 HB HM HV
 rcases hp : V.okR r l with _ | _
 ·have HR : Hid (V.zdp n r l = false) := zvq (by rw [HF.out, hp]; simp)
  clear hp
  exact z0y
 ·by_cases hrs : r = n
  ·subst hrs
   by_cases hln : 1 ≤ l.length
   ·have hi : (0 : Int) < (l.length : Int) := by omega
    have HR : Hid (V.zdp r r l = true) := zvq (by rw [HF.out, hp, decide_eq_true hln]; simp)
    clear hp
    go_wp2
    go_ret
    exact ⟨zc (by rw [HR.out]; first | rfl | exact decide_eq_true (by omega)), HB1.out⟩
   ·have hi : ¬ (0 : Int) < (l.length : Int) := by omega
    have HR : Hid (V.zdp r r l = false) := zvq (by rw [HF.out, decide_eq_false hln]; simp)
    clear hp
    go_wp2
    go_ret
    exact ⟨zc (by rw [HR.out]; first | rfl | exact decide_eq_false (by omega)), HB1.out⟩
  ·have hb2 : (r == n) = false := by rw [zvu]; exact hrs
   have HR : Hid (V.zdp n r l = false) := zvq (by rw [HF.out, decide_eq_false hrs]; simp)
   clear hp
   exact z0y
def advV (x : V.Adv) (u : Value) : Value := .agg #[.string ⟨x.id.toArray⟩, .int .i64 x.rev, .int .i64 x.sev, u]
structure AffAt (w : World) (b o : Nat) (a : V.Aff) (ua : Option Addr) (uc : Nat) : Prop where
 c0 : w.cell? ⟨b, o, none⟩ = some (.int .i64 a.sch)
 c1 : w.cell? ⟨b, o + 1, none⟩ = some (.string ⟨a.name.toArray⟩)
 c2 : w.cell? ⟨b, o + 2, none⟩ = some (.int .i64 a.rs)
 c3 : w.cell? ⟨b, o + 3, none⟩ = some (.slice ua a.its.length uc)
 its : Itvs w (.slice ua a.its.length uc) a.its
theorem AffAt.below {w w' : World} {b o : Nat} {a : V.Aff} {ua : Option Addr} {uc : Nat} (h : AffAt w b o a ua uc) (hb : Below w.heap.size w w') : AffAt w' b o a ua uc :=
 ⟨zb hb h.c0, zb hb h.c1, zb hb h.c2, zb hb h.c3, h.its.below hb⟩
structure AffWf (a : V.Aff) : Prop where
 name : a.name.length ≤ maxLen
 lens : Lens a.its
 len : a.its.length ≤ maxLen
def Affs (w : World) (v : Value) (l : List V.Aff) : Prop :=
 ∃ p cap, v = .slice p l.length cap /\ ∀ j (h : j < l.length), AffWf l[j] /\ ∃ b off ua uc, p = some ⟨b, off, none⟩ /\ b < w.heap.size /\ AffAt w b (off + j * 4) l[j] ua uc
theorem Affs.nil (w : World) : Affs w (.slice none 0 0) [] := ⟨none, 0, rfl, fun j h => by simp at h⟩
theorem Affs.below {w w' : World} {v : Value} {l : List V.Aff} (h : Affs w v l) (hb : Below w.heap.size w w') : Affs w' v l := by
 obtain ⟨p, cap, e, hc⟩ := h
 refine ⟨p, cap, e, fun j hj => ?_⟩
 obtain ⟨hw, b, off, ua, uc, ep, hlt, ha⟩ := hc j hj
 exact ⟨hw, b, off, ua, uc, ep, Nat.lt_of_lt_of_le hlt hb.size, ha.below hb⟩
theorem Affs.slice {w : World} {v : Value} {l : List V.Aff} (h : Affs w v l) : ∃ p cap, v = .slice p l.length cap := by
 obtain ⟨p, c, e, _⟩ := h
 exact ⟨p, c, e⟩
theorem Affs.at {w : World} {p : Option Addr} {n cap : Nat} {l : List V.Aff} (h : Affs w (.slice p n cap) l) (j : Nat) (hj : j < l.length) : AffWf l[j] /\ ∃ b off ua uc, p = some ⟨b, off, none⟩ /\ b < w.heap.size /\ AffAt w b (off + j * 4) l[j] ua uc := by
 obtain ⟨p', c, e, hc⟩ := h
 cases e
 exact hc j hj
theorem zbb (x : V.Adv) (u : Value) (w : World) : Below w.heap.size w (w.alloc (.cells #[.string ⟨x.id.toArray⟩, .int .i64 x.rev, .int .i64 x.sev, u] 25)) /\ (w.alloc (.cells #[.string ⟨x.id.toArray⟩, .int .i64 x.rev, .int .i64 x.sev, u] 25)).cell? ⟨w.heap.size, 0, none⟩ = some (.string ⟨x.id.toArray⟩) /\ (w.alloc (.cells #[.string ⟨x.id.toArray⟩, .int .i64 x.rev, .int .i64 x.sev, u] 25)).cell? ⟨w.heap.size, 1, none⟩ = some (.int .i64 x.rev) /\ (w.alloc (.cells #[.string ⟨x.id.toArray⟩, .int .i64 x.rev, .int .i64 x.sev, u] 25)).cell? ⟨w.heap.size, 2, none⟩ = some (.int .i64 x.sev) /\ (w.alloc (.cells #[.string ⟨x.id.toArray⟩, .int .i64 x.rev, .int .i64 x.sev, u] 25)).cell? ⟨w.heap.size, 3, none⟩ = some u := by
 refine ⟨(zvt _ w).alloc (zvs _) _, ?_, ?_, ?_, ?_⟩ <;> (rw [World.cell?_alloc_new]; rfl)
theorem zyx {P : Prop} (h : P := by
 have HR : Hid (V.qp x = false) := zvq (by
   rcases h : V.qp x with _ | _
   · rfl
   · have hp := V.jh h
     exact absurd hp.id g0)
 have g0' : V.xz x.id = false := by simpa using g0
 rw [g0']
 clear g0 g0'
 go_wp2
 go_ret
 exact ⟨zc HR.out.symm, HB.out⟩) : P := h
theorem zyz {P : Prop} (h : P := by
 have HR : Hid (V.qp x = false) := zvq (by
   rcases h : V.qp x with _ | _
   · rfl
   · have hp := V.jh h
     exact absurd hp.len g5)
 have f5 : (16 : Int) < (x.aff.length : Int) := by omega
 clear g5
 go_wp2
 go_ret
 exact ⟨zc HR.out.symm, HB.out⟩) : P := h
theorem zy1 {P : Prop} (h : P := by
 have HR : Hid (V.qp x = false) := zvq (by
   rcases h : V.qp x with _ | _
   · rfl
   · have hp := V.jh h
     exact absurd hp.rev1 g2)
 have f2 : (1099511627776 : Int) < x.rev := by omega
 clear g2
 go_wp2
 go_ret
 exact ⟨zc HR.out.symm, HB.out⟩) : P := h
theorem zy4 {P : Prop} (h : P := by
 have HR : Hid (V.qp x = false) := zvq (by
   rcases h : V.qp x with _ | _
   · rfl
   · have hp := V.jh h
     exact absurd hp.sev1 g4)
 have f4 : (10 : Int) < x.sev := by omega
 clear g4
 go_wp2
 go_ret
 exact ⟨zc HR.out.symm, HB.out⟩) : P := h
theorem zy5 {P : Prop} (h : P := by
 go_wp2
 go_ret
 exact ⟨zc HR.out.symm, HB.out⟩) : P := h
theorem zzn {P : Prop} (h : P := by
 go_wp2
 go_ret
 exact ⟨zc HR.out.symm, HB.out.trans (HBE.out.mono HB.out.size)⟩) : P := h
theorem zzy {P : Prop} (h : P := by
 obtain rfl : k = x.aff.length := by omega
 have HR : Hid (V.qp x = true) := zvq (by rw [HOK.out]; exact HTO.out)
 go_wp2
 go_ret
 exact ⟨zc HR.out.symm, HBW.out⟩) : P := h
theorem z07 {P : Prop} (h : P := by
 go_wp2
 go_roundw
 case rel => exact ⟨k + 1, by omega, by go_num, HY.out, HBE.out⟩
 case measure => simp [intOf]; omega) : P := h
theorem z08 {P : Prop} (h : P := by
 go_wp2
 go_roundw
 case rel => exact ⟨0 + 1, by omega, by go_num, HY.out, HBE.out⟩
 case measure => simp [intOf]; omega) : P := h
theorem zc4 (x : V.Adv) (v : Value) (w : World) (hm : zg w) (hv : Affs w v x.aff) (hid : x.id.length ≤ maxLen) (hl : x.aff.length ≤ maxLen) :
  Calls Tryz.prog 11 #[advV x v] w fun e w' => e = .returned (.bool (V.qp x)) /\ Below w.heap.size w w' := by
 obtain ⟨pa, pc, rfl⟩ := hv.slice
 obtain ⟨hb, c0, c1, c2, c3⟩ := zbb x (.slice pa x.aff.length pc) w
 have HM := zvq (hm.below hb)
 have HV := zvq (hv.below hb)
 have HI : Hid ((⟨x.id.toArray⟩ : ByteArray).size ≤ maxLen) := zvq (by rw [yi]; exact hid)
 have HB := zvq hb
 have HBX : Hid (w.heap.size < (w.alloc (.cells #[.string ⟨x.id.toArray⟩, .int .i64 x.rev, .int .i64 x.sev, .slice pa x.aff.length pc] 25)).heap.size) := zvq (by simp)
 unfold maxLen at hl
 clear hm hv hid hb
 unfold advV
 go_enter Tryz.func11, Tryz.ntmps11
 go_wp2_with fail
 generalize w.alloc (.cells #[.string ⟨x.id.toArray⟩, .int .i64 x.rev, .int .i64 x.sev, .slice pa x.aff.length pc] 25) = w0 at *
 refine (zp8 ⟨x.id.toArray⟩ w0 HI.out).mono ?_
 rintro e w' ⟨rfl, hw'⟩
 obtain rfl := hw'.symm
 clear hw'
 rw [kk]
 by_cases g0 : V.xz x.id = true
 case neg =>
  exact zyx
 rw [g0]
 by_cases g1 : 1 ≤ x.rev
 case neg =>
  have HR : Hid (V.qp x = false) := zvq (by
    rcases h : V.qp x with _ | _
    · rfl
    · have hp := V.jh h
      exact absurd hp.rev0 g1)
  have f1 : x.rev < 1 := by omega
  clear g1
  exact zy5
 have f1 : ¬ x.rev < 1 := by omega
 by_cases g2 : x.rev ≤ 1099511627776
 case neg =>
  exact zy1
 have f2 : ¬ (1099511627776 : Int) < x.rev := by omega
 by_cases g3 : 1 ≤ x.sev
 case neg =>
  have HR : Hid (V.qp x = false) := zvq (by
    rcases h : V.qp x with _ | _
    · rfl
    · have hp := V.jh h
      exact absurd hp.sev0 g3)
  have f3 : x.sev < 1 := by omega
  clear g3
  exact zy5
 have f3 : ¬ x.sev < 1 := by omega
 by_cases g4 : x.sev ≤ 10
 case neg =>
  exact zy4
 have f4 : ¬ (10 : Int) < x.sev := by omega
 by_cases g5 : x.aff.length ≤ 16
 case neg =>
  exact zyz
 have f5 : ¬ (16 : Int) < (x.aff.length : Int) := by omega
 have HOK : Hid (V.qp x = V.yn x.aff x.aff.length) := zvq (by
   unfold V.qp V.zgw
   rw [g0, decide_eq_true g1, decide_eq_true g2, decide_eq_true g3, decide_eq_true g4, decide_eq_true g5]
   rfl)
 clear g0 g1 g2 g3 g4
 go_wp2_with fail
 go_loopw [38] (fun iv W => ∃ k : Nat, k ≤ x.aff.length /\ iv = .int .i64 k /\ V.yn x.aff k = true /\ Below w0.heap.size w0 W) (fun iv _ => x.aff.length - (intOf iv).toNat)
 case atStart => exact ⟨0, Nat.zero_le _, rfl, rfl, zvt _ _⟩
 case round =>
  obtain ⟨k, hk, rfl, hto, hbr⟩ := hrel
  have HTO := zvq hto
  have HBR := zvq hbr
  have HBW := zvr HB hbr
  clear hto hbr
  by_cases hlt : k < x.aff.length
  ·obtain ⟨hwf, b, off, ua, uc, rfl, hblt, ha⟩ := HV.out.at k hlt
   have HVK := zvq (HV.out.below HBR.out)
   have HW := zvq hwf
   have HA := zvq (ha.below HBR.out)
   have HST := zvq (V.zbw hlt)
   have HNO := zvq (V.zq1 hlt)
   have HAT : Hid (V.zb4 x.aff k x.aff[k] = ((decide (k = 0) || decide (V.affC (x.aff.getD (k - 1) V.zA) x.aff[k] < 0)) && V.kt x.aff[k])) := zvq rfl
   generalize x.aff[k] = a at *
   have e0 := HA.out.c0
   have e1 := HA.out.c1
   have e2 := HA.out.c2
   have e3 := HA.out.c3
   have i1 : (0 : Int) ≤ (k : Int) := by omega
   have i2 : (k : Int) < (x.aff.length : Int) := by omega
   have wr1 : IntKind.i64.wrap ((k : Int) + 1) = (k : Int) + 1 := IntWalk.i64_in _ (by omega)
   have hb2 : Below wr.heap.size wr (wr.alloc (.cells #[.int .i64 a.sch, .string ⟨a.name.toArray⟩, .int .i64 a.rs, .slice ua a.its.length uc] 34)) := (zvt _ wr).alloc (zvs _) _
   obtain ⟨_, d0, d1, d2, d3⟩ := zc6 a (.slice ua a.its.length uc) wr
   have HA2 := zvq (HA.out.below hb2)
   have HB2 := zvr HBR hb2
   have HM2 := zvq (HM.out.below HB2.out)
   have HV2 := zvq (HVK.out.below hb2)
   have hx3 := zb HB2.out c3
   clear hb2 hwf ha
   go_wp2_with fail
   generalize wr.alloc (.cells #[.int .i64 a.sch, .string ⟨a.name.toArray⟩, .int .i64 a.rs, .slice ua a.its.length uc] 34) = w2 at *
   generalize wr.heap.size = X at *
   have c3' := c3
   clear c3 e0 e1 e2 e3
   have c3 := hx3
   clear hx3
   rcases Nat.eq_zero_or_pos k with hk0 | hk0
   ·subst hk0
    obtain ⟨s, hs⟩ : ∃ s, V.kt a = s := ⟨_, rfl⟩
    have HSE := zvq hs
    have HAS : Hid (V.zb4 x.aff 0 a = s) := zvq (by rw [HAT.out, hs]; simp)
    clear hs
    refine wp_region_held_drew (S := (fun W' => Below w2.heap.size w2 W' /\ W'.cell? ⟨X, 0, none⟩ = some (.int .i64 a.sch) /\ W'.cell? ⟨X, 1, none⟩ = some (.string ⟨a.name.toArray⟩) /\ W'.cell? ⟨X, 2, none⟩ = some (.int .i64 a.rs) /\ W'.cell? ⟨X, 3, none⟩ = some (.slice ua a.its.length uc))) (by kernel_rfl) (by (try dsimp only); exact ⟨(zvt _ _).drew, zb (zvt _ _).drew d0, zb (zvt _ _).drew d1, zb (zvt _ _).drew d2, zb (zvt _ _).drew d3⟩) (fun hHeld => ?_)
    refine tk 0 ?_
    refine tk 1 ?_
    refine tk 2 ?_
    refine tu 3 ?_
    refine tu 4 ?_
    refine tu 5 ?_
    refine tu 6 ?_
    refine tu 7 ?_
    refine tu 8 ?_
    refine tu 9 ?_
    refine tu 10 ?_
    refine tu 11 ?_
    refine tk 12 ?_
    refine tk 13 ?_
    refine tk 14 ?_
    refine rd 15 fun K hK => ?_
    go_simp
    refine (zmx a ua uc _ (HM2.out.below (show Below w2.heap.size w2 _ from (by first | assumption | exact And.left (by assumption)))) (HA2.out.its.below (show Below w2.heap.size w2 _ from (by first | assumption | exact And.left (by assumption)))) HW.out.lens HW.out.name HW.out.len).mono ?_
    rintro e wz15 ⟨rfl, hbz15⟩
    try dsimp only
    refine hK.out _ _ ?_ (fun hHeld => nx ?_)
    ·(try dsimp only); go_split_ands; exact ⟨Below.trans (by assumption) (hbz15.mono (Below.size (by assumption))), zvw hbz15, zvw hbz15, zvw hbz15, zvw hbz15⟩
    clear hK K
    refine tk 16 ?_
    refine tk 17 ?_
    refine wpAnyH_done (by kernel_rfl) ?_ _
    rw [HSE.out] at *
    have HBE := zvq (HB2.out.trans ((show Below w2.heap.size w2 wz15 from hHeld.1).mono HB2.out.size))
    clear hHeld
    rcases s with _ | _
    ·have HR : Hid (V.qp x = false) := zvq (by rw [HOK.out]; exact HNO.out HAS.out)
     exact zzn
    ·have HY : Hid (V.yn x.aff (0 + 1) = true) := zvq (by rw [HST.out, HTO.out, HAS.out]; rfl)
     exact z08
   ·obtain ⟨j, hj⟩ : ∃ j, k = j + 1 := ⟨k - 1, by omega⟩
    have hjl : j < x.aff.length := by omega
    obtain ⟨_, b', off', up, ucp, e', _, hp⟩ := HV2.out.at j hjl
    cases e'
    have HPV : Hid (x.aff.getD (k - 1) V.zA = x.aff[j]) := zvq (by rw [hj, Nat.add_sub_cancel, List.getD_eq_getElem?_getD, List.getElem?_eq_getElem hjl]; rfl)
    rw [HPV.out] at HAT
    clear HPV
    generalize x.aff[j] = p at *
    have q0 := hp.c0
    have q1 := hp.c1
    have q2 := hp.c2
    have q3 := hp.c3
    have HKJ := zvq hj
    have wk : IntKind.i64.wrap ((k : Int) - 1) = (j : Int) := by rw [hj, IntWalk.i64_in _ (by omega)]; omega
    have j1 : (0 : Int) ≤ (j : Int) := by omega
    have j2 : (j : Int) < (x.aff.length : Int) := by omega
    have k0 : (0 : Int) < (k : Int) := by omega
    have k1 : decide ((0 : Int) < (k : Int)) = true := decide_eq_true k0
    have k2 : decide (0 < k) = true := decide_eq_true hk0
    have k3 : 0 < k := hk0
    have hk0n : ¬ k = 0 := by omega
    have HK0 : Hid (decide (k = 0) = false) := zvq (decide_eq_false hk0n)
    rw [HK0.out, Bool.false_or] at HAT
    clear hp hj HK0 hk0n hk0
    obtain ⟨c, hc⟩ : ∃ c, V.affC p a = c := ⟨_, rfl⟩
    have HCE := zvq hc
    rw [hc] at HAT
    clear hc
    by_cases hcp : 0 ≤ c
    ·have HCP := zvq hcp
     have HR : Hid (V.qp x = false) := zvq (by rw [HOK.out]; exact HNO.out (by rw [HAT.out, decide_eq_false (by omega : ¬ c < 0)]; rfl))
     refine wp_region_held_drew (S := (fun W' => Below w2.heap.size w2 W' /\ W'.cell? ⟨w.heap.size, 3, none⟩ = some (.slice (some ⟨b, off, none⟩) x.aff.length pc) /\ W'.cell? ⟨b, off + j * 4, none⟩ = some (.int .i64 p.sch) /\ W'.cell? ⟨b, off + j * 4 + 1, none⟩ = some (.string ⟨p.name.toArray⟩) /\ W'.cell? ⟨b, off + j * 4 + 2, none⟩ = some (.int .i64 p.rs) /\ W'.cell? ⟨b, off + j * 4 + 3, none⟩ = some (.slice up p.its.length ucp) /\ W'.cell? ⟨X, 0, none⟩ = some (.int .i64 a.sch) /\ W'.cell? ⟨X, 1, none⟩ = some (.string ⟨a.name.toArray⟩) /\ W'.cell? ⟨X, 2, none⟩ = some (.int .i64 a.rs) /\ W'.cell? ⟨X, 3, none⟩ = some (.slice ua a.its.length uc))) (by kernel_rfl) (by (try dsimp only); exact ⟨(zvt _ _).drew, zb (zvt _ _).drew c3, zb (zvt _ _).drew q0, zb (zvt _ _).drew q1, zb (zvt _ _).drew q2, zb (zvt _ _).drew q3, zb (zvt _ _).drew d0, zb (zvt _ _).drew d1, zb (zvt _ _).drew d2, zb (zvt _ _).drew d3⟩) (fun hHeld => ?_)
     refine tk 0 ?_
     refine tk 1 ?_
     refine tk 2 ?_
     refine tk 3 ?_
     refine tk 4 ?_
     refine tk 5 ?_
     refine wpAnyH_take (i := 6) (v := (.int .i64 (j : Int))) rfl (by kernel_rfl) (by kernel_rfl) (by kernel_rfl) (fun _ _ _ h => h) (Or.inl ⟨by rfl, fun w' hSw => by go_simp; try rfl⟩) (by assumption) ?_
     try simp only [zvl, zvm, zvn, Act.put, zvo, List.set_cons_succ, List.set_cons_zero]
     refine tk 7 ?_
     refine tk 8 ?_
     refine tk 9 ?_
     refine rd 10 fun K hK => ?_
     go_simp
     refine (zlq p a up ua p.its.length ucp a.its.length uc _).mono ?_
     rintro e wy10 ⟨rfl, hby10⟩
     try dsimp only
     rw [HCE.out]
     refine hK.out _ _ ?_ (fun hHeld => nx ?_)
     ·(try dsimp only); go_split_ands; exact ⟨Below.trans (by assumption) (hby10.mono (Below.size (by assumption))), zvw hby10, zvw hby10, zvw hby10, zvw hby10, zvw hby10, zvw hby10, zvw hby10, zvw hby10, zvw hby10⟩
     clear hK K
     refine wpAnyH_take (i := 11) (v := (.bool true)) rfl (by kernel_rfl) (by kernel_rfl) (by kernel_rfl) (fun _ _ _ h => h) (Or.inl ⟨by rfl, fun w' hSw => by have e := HCP.out; go_simp; try rfl⟩) (by assumption) ?_
     try simp only [zvl, zvm, zvn, Act.put, zvo, List.set_cons_succ, List.set_cons_zero]
     refine tk 12 ?_
     refine tk 13 ?_
     refine tu 14 ?_
     refine tu 15 ?_
     refine tu 16 ?_
     refine tk 17 ?_
     refine wpAnyH_done (by kernel_rfl) ?_ _
     have HBE := zvq (HB2.out.trans ((show Below w2.heap.size w2 wy10 from hHeld.1).mono HB2.out.size))
     clear hHeld
     exact zzn
    ·have HCP := zvq hcp
     obtain ⟨s, hs⟩ : ∃ s, V.kt a = s := ⟨_, rfl⟩
     have HSE := zvq hs
     have HAS : Hid (V.zb4 x.aff k a = s) := zvq (by rw [HAT.out, hs, decide_eq_true (by omega : c < 0)]; rfl)
     clear hs
     refine wp_region_held_drew (S := (fun W' => Below w2.heap.size w2 W' /\ W'.cell? ⟨w.heap.size, 3, none⟩ = some (.slice (some ⟨b, off, none⟩) x.aff.length pc) /\ W'.cell? ⟨b, off + j * 4, none⟩ = some (.int .i64 p.sch) /\ W'.cell? ⟨b, off + j * 4 + 1, none⟩ = some (.string ⟨p.name.toArray⟩) /\ W'.cell? ⟨b, off + j * 4 + 2, none⟩ = some (.int .i64 p.rs) /\ W'.cell? ⟨b, off + j * 4 + 3, none⟩ = some (.slice up p.its.length ucp) /\ W'.cell? ⟨X, 0, none⟩ = some (.int .i64 a.sch) /\ W'.cell? ⟨X, 1, none⟩ = some (.string ⟨a.name.toArray⟩) /\ W'.cell? ⟨X, 2, none⟩ = some (.int .i64 a.rs) /\ W'.cell? ⟨X, 3, none⟩ = some (.slice ua a.its.length uc))) (by kernel_rfl) (by (try dsimp only); exact ⟨(zvt _ _).drew, zb (zvt _ _).drew c3, zb (zvt _ _).drew q0, zb (zvt _ _).drew q1, zb (zvt _ _).drew q2, zb (zvt _ _).drew q3, zb (zvt _ _).drew d0, zb (zvt _ _).drew d1, zb (zvt _ _).drew d2, zb (zvt _ _).drew d3⟩) (fun hHeld => ?_)
     refine tk 0 ?_
     refine tk 1 ?_
     refine tk 2 ?_
     refine tk 3 ?_
     refine tk 4 ?_
     refine tk 5 ?_
     refine wpAnyH_take (i := 6) (v := (.int .i64 (j : Int))) rfl (by kernel_rfl) (by kernel_rfl) (by kernel_rfl) (fun _ _ _ h => h) (Or.inl ⟨by rfl, fun w' hSw => by go_simp; try rfl⟩) (by assumption) ?_
     try simp only [zvl, zvm, zvn, Act.put, zvo, List.set_cons_succ, List.set_cons_zero]
     refine tk 7 ?_
     refine tk 8 ?_
     refine tk 9 ?_
     refine rd 10 fun K hK => ?_
     go_simp
     refine (zlq p a up ua p.its.length ucp a.its.length uc _).mono ?_
     rintro e wx10 ⟨rfl, hbx10⟩
     try dsimp only
     rw [HCE.out]
     refine hK.out _ _ ?_ (fun hHeld => nx ?_)
     ·(try dsimp only); go_split_ands; exact ⟨Below.trans (by assumption) (hbx10.mono (Below.size (by assumption))), zvw hbx10, zvw hbx10, zvw hbx10, zvw hbx10, zvw hbx10, zvw hbx10, zvw hbx10, zvw hbx10, zvw hbx10⟩
     clear hK K
     refine wpAnyH_take (i := 11) (v := (.bool false)) rfl (by kernel_rfl) (by kernel_rfl) (by kernel_rfl) (fun _ _ _ h => h) (Or.inl ⟨by rfl, fun w' hSw => by have e := HCP.out; go_simp; try rfl⟩) (by assumption) ?_
     try simp only [zvl, zvm, zvn, Act.put, zvo, List.set_cons_succ, List.set_cons_zero]
     refine tk 12 ?_
     refine tk 13 ?_
     refine tk 14 ?_
     refine rd 15 fun K hK => ?_
     go_simp
     refine (zmx a ua uc _ (HM2.out.below (show Below w2.heap.size w2 _ from (by first | assumption | exact And.left (by assumption)))) (HA2.out.its.below (show Below w2.heap.size w2 _ from (by first | assumption | exact And.left (by assumption)))) HW.out.lens HW.out.name HW.out.len).mono ?_
     rintro e wx15 ⟨rfl, hbx15⟩
     try dsimp only
     refine hK.out _ _ ?_ (fun hHeld => nx ?_)
     ·(try dsimp only); go_split_ands; exact ⟨Below.trans (by assumption) (hbx15.mono (Below.size (by assumption))), zvw hbx15, zvw hbx15, zvw hbx15, zvw hbx15, zvw hbx15, zvw hbx15, zvw hbx15, zvw hbx15, zvw hbx15⟩
     clear hK K
     refine tk 16 ?_
     refine tk 17 ?_
     refine wpAnyH_done (by kernel_rfl) ?_ _
     rw [HSE.out] at *
     have HBE := zvq (HB2.out.trans ((show Below w2.heap.size w2 wx15 from hHeld.1).mono HB2.out.size))
     clear hHeld
     rcases s with _ | _
     ·have HR : Hid (V.qp x = false) := zvq (by rw [HOK.out]; exact HNO.out HAS.out)
      exact zzn
     ·have HY : Hid (V.yn x.aff (k + 1) = true) := zvq (by rw [HST.out, HTO.out, HAS.out]; rfl)
      exact z07
  ·exact zzy
end Go.Proofs.YtiloljoancdcbaaGreatDoor
