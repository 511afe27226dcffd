/-
  Lemmas for the law.
-/
import Derived.Test.YtiloljoancdcbaaGreatDoorC38x17
import Derived.Test.YtiloljoancdcbaaGreatDoorC38x18
import Derived.Test.YtiloljoancdcbaaGreatDoorC38x20
import Derived.Test.YtiloljoancdcbaaGreatDoorC38x22
set_option linter.all false
set_option maxRecDepth 100000
set_option maxHeartbeats 6400000
namespace Go.Proofs.YtiloljoancdcbaaGreatDoor
open Go.RowKit
def affV (a : V.Aff) (u : Value) : Value := .agg #[.int .i64 a.sch, .string ⟨a.name.toArray⟩, .int .i64 a.rs, u]
def pkgV (n : Int) (s : V.Bs) : Value := .agg #[.int .i64 n, .string ⟨s.toArray⟩]
theorem two_ints (w : World) (a b : Int) (t : TypeId) : ∀ j, j < [a, b].length -> (w.alloc (.cells #[.int .i64 a, .int .i64 b] t)).cell? ⟨w.heap.size, j, none⟩ = some (.int .i64 ([a, b].getD j 0)) := by
 exact z0d
theorem zu8 (w : World) (a b : Int) (t : TypeId) : ∀ j, j < [a, b].length -> (w.alloc (.cells #[.int .i64 a, .int .i64 b] t)).drew.cell? ⟨w.heap.size, j, none⟩ = some (.int .i64 ([a, b].getD j 0)) := fun j hj => by
 rw [World.cell?_drew]; exact two_ints w a b t j hj
theorem zlg {w : World} (o1 o2 : Obj) : Below w.heap.size w ((w.alloc o1).alloc o2) /\ (∀ k, ((w.alloc o1).alloc o2).cell? ⟨w.heap.size, k, none⟩ = (w.alloc o1).cell? ⟨w.heap.size, k, none⟩) /\ (∀ k, ((w.alloc o1).alloc o2).cell? ⟨w.heap.size + 1, k, none⟩ = ((w.alloc o1).alloc o2).cell? ⟨(w.alloc o1).heap.size, k, none⟩) := by
 refine ⟨((zvu _ w).alloc (zvt _) _).alloc (by simp) _, fun k => ?_, fun k => by rw [World.size_alloc]⟩
 exact ((zvu _ (w.alloc o1)).alloc (zvt _) o2).cell (p := ⟨w.heap.size, k, none⟩) (by show w.heap.size < _; simp)
theorem zk4 (a b : V.Aff) (ua va : Option Addr) (un uc vn vc : Nat) (w : World) :
  Calls Tryz.prog 32 #[affV a (.slice ua un uc), affV b (.slice va vn vc)] w fun e w' => e = .returned (.int .i64 (V.affC a b)) /\ Below w.heap.size w w' := by
 obtain ⟨hb, h0, h1⟩ := zlg (w := w) (.cells #[.int .i64 a.sch, .string ⟨a.name.toArray⟩, .int .i64 a.rs, .slice ua un uc] 34) (.cells #[.int .i64 b.sch, .string ⟨b.name.toArray⟩, .int .i64 b.rs, .slice va vn vc] 34)
 have HB := zvr hb
 have c0 := (h0 0).trans (World.cell?_alloc_new ..)
 have c1 := (h0 1).trans (World.cell?_alloc_new ..)
 have d0 := (h1 0).trans (World.cell?_alloc_new ..)
 have d1 := (h1 1).trans (World.cell?_alloc_new ..)
 simp only [List.getElem?_toArray, List.getElem?_cons_zero, List.getElem?_cons_succ] at c0 c1 d0 d1
 clear hb h0 h1
 have HF : Hid (V.affC a b = V.orI [Lib.compareInt a.sch b.sch, Lib.compareBytes a.name b.name]) := zvr rfl
 unfold affV
 go_enter Tryz.func32, Tryz.ntmps32
 go_wp2_with fail
 generalize (w.alloc (.cells #[.int .i64 a.sch, .string ⟨a.name.toArray⟩, .int .i64 a.rs, .slice ua un uc] 34)).alloc (.cells #[.int .i64 b.sch, .string ⟨b.name.toArray⟩, .int .i64 b.rs, .slice va vn vc] 34) = w0 at *
 refine wp_region_held_drew (S := (fun W' => W'.cell? ⟨w.heap.size, 0, none⟩ = some (.int .i64 a.sch) /\ W'.cell? ⟨w.heap.size, 1, none⟩ = some (.string ⟨a.name.toArray⟩) /\ W'.cell? ⟨w.heap.size + 1, 0, none⟩ = some (.int .i64 b.sch) /\ W'.cell? ⟨w.heap.size + 1, 1, none⟩ = some (.string ⟨b.name.toArray⟩))) (by kernel_rfl) (by (try dsimp only); exact ⟨zb (zvu _ _).drew c0, zb (zvu _ _).drew c1, zb (zvu _ _).drew d0, zb (zvu _ _).drew d1⟩) (fun hHeld => ?_)
 refine tk 0 ?_
 refine tk 1 ?_
 refine tk 2 ?_
 refine tk 3 ?_
 refine tk 5 ?_
 refine tk 6 ?_
 refine tk 7 ?_
 refine tk 8 ?_
 refine rd 4 fun K hK => ?_
 go_simp
 refine (Tryz.cmp_Compare_int _ _ _).mono ?_
 rintro e w' ⟨rfl, rfl⟩
 try dsimp only
 refine hK.out _ _ ?_ (fun hHeld => nx ?_)
 ·(try dsimp only); exact hHeld
 clear hK K
 refine rd 9 fun K hK => ?_
 go_simp
 refine (zrx _ _ _).mono ?_
 rintro e w' ⟨rfl, rfl⟩
 try dsimp only
 try rw [vh, vh]
 refine hK.out _ _ ?_ (fun hHeld => nx ?_)
 ·(try dsimp only); exact hHeld
 clear hK K
 refine rd 10 fun K hK => ?_
 go_simp
 refine hK.out _ _ ?_ (fun hHeld => nx ?_)
 ·(try dsimp only); exact ⟨zb ((zvu _ _).alloc (zvt _) _) hHeld.1, zb ((zvu _ _).alloc (zvt _) _) hHeld.2.1, zb ((zvu _ _).alloc (zvt _) _) hHeld.2.2.1, zb ((zvu _ _).alloc (zvt _) _) hHeld.2.2.2⟩
 clear hK K
 refine rd 11 fun K hK => ?_
 go_simp
 refine (zoj _ [Lib.compareInt a.sch b.sch, Lib.compareBytes a.name b.name] _ (by simp) (zu8 _ _ _ _)).mono ?_
 rintro e w' ⟨rfl, rfl⟩
 try dsimp only
 refine hK.out _ _ ?_ (fun hHeld => nx ?_)
 ·(try dsimp only); exact hHeld
 clear hK K
 refine tk 12 ?_
 refine wpAnyH_done (by kernel_rfl) ?_ _
 have hb9 : Below w0.heap.size w0 (w0.alloc (.cells #[.int .i64 (Lib.compareInt a.sch b.sch), .int .i64 (Lib.compareBytes a.name b.name)] 3)).drew := ((zvu _ w0).alloc (zvt _) _).drew
 have HB9 := zvs HB hb9
 clear hb9 hHeld
 go_wp2
 go_ret
 exact ⟨zp HF.out.symm, HB9.out⟩
theorem zy5 {P : Prop} (h : P := by
 go_enter Tryz.func37, Tryz.ntmps37
 go_wp2
 go_ret
 exact ⟨zd HF.out.symm, HB.out⟩) : P := h
theorem zhm (n m : Int) (s t : V.Bs) (w : World) :
  Calls Tryz.prog 37 #[pkgV n s, pkgV m t] w fun e w' => e = .returned (.bool (decide (V.orI [Lib.compareInt n m, Lib.compareBytes s t] < 0))) /\ Below w.heap.size w w' := by
 have HB := zvr (zlg (w := w) (.cells #[.int .i64 n, .string ⟨s.toArray⟩] 57) (.cells #[.int .i64 m, .string ⟨t.toArray⟩] 57)).1
 have hbl : Op.bytesLess (⟨s.toArray⟩ : ByteArray).toList (⟨t.toArray⟩ : ByteArray).toList = decide (Lib.compareBytes s t < 0) := by rw [Lib.toList_data, Lib.toList_data]; exact wn _ _
 have hbl2 : Op.bytesLess s t = decide (Lib.compareBytes s t < 0) := wn _ _
 unfold pkgV
 by_cases h1 : n < m
 ·have HF : Hid (decide (V.orI [Lib.compareInt n m, Lib.compareBytes s t] < 0) = true) := zvr (by
    have e : Lib.compareInt n m = -1 := by unfold Lib.compareInt; rw [if_pos h1]
    rw [e]; rfl)
  exact zy5
 ·by_cases h2 : n = m
  ·subst h2
   have HF : Hid (decide (V.orI [Lib.compareInt n n, Lib.compareBytes s t] < 0) = decide (Lib.compareBytes s t < 0)) := zvr (by
     have e : Lib.compareInt n n = 0 := by unfold Lib.compareInt; rw [if_neg (by omega), if_neg (by omega)]
     rw [e]
     unfold V.orI V.orI V.orI V.cor
     simp
     split <;> simp_all)
   rw [HF.out]
   generalize decide (Lib.compareBytes s t < 0) = r at *
   go_enter Tryz.func37, Tryz.ntmps37
   go_wp2
   go_ret
   exact ⟨zd rfl, HB.out⟩
  ·have HF : Hid (decide (V.orI [Lib.compareInt n m, Lib.compareBytes s t] < 0) = false) := zvr (by
     have e : Lib.compareInt n m = 1 := by unfold Lib.compareInt; rw [if_neg h1, if_pos (by omega)]
     rw [e]; rfl)
   have h3 : (n == m) = false := by rw [zvv]; exact h2
   exact zy5
theorem zc4 (a : V.Aff) (u : Value) (w : World) : Below w.heap.size w (w.alloc (.cells #[.int .i64 a.sch, .string ⟨a.name.toArray⟩, .int .i64 a.rs, u] 34)) /\ (w.alloc (.cells #[.int .i64 a.sch, .string ⟨a.name.toArray⟩, .int .i64 a.rs, u] 34)).cell? ⟨w.heap.size, 0, none⟩ = some (.int .i64 a.sch) /\ (w.alloc (.cells #[.int .i64 a.sch, .string ⟨a.name.toArray⟩, .int .i64 a.rs, u] 34)).cell? ⟨w.heap.size, 1, none⟩ = some (.string ⟨a.name.toArray⟩) /\ (w.alloc (.cells #[.int .i64 a.sch, .string ⟨a.name.toArray⟩, .int .i64 a.rs, u] 34)).cell? ⟨w.heap.size, 2, none⟩ = some (.int .i64 a.rs) /\ (w.alloc (.cells #[.int .i64 a.sch, .string ⟨a.name.toArray⟩, .int .i64 a.rs, u] 34)).cell? ⟨w.heap.size, 3, none⟩ = some u := by
 refine ⟨(zvu _ w).alloc (zvt _) _, ?_, ?_, ?_, ?_⟩ <;> (rw [World.cell?_alloc_new]; rfl)
theorem zz3 {P : Prop} (h : P := by
 go_wp2
 go_ret
 exact ⟨zd HR.out.symm, HB1.out⟩) : P := h
theorem zmc (a : V.Aff) (ua : Option Addr) (uc : Nat) (w : World) (hm : zg w) (hv : Itvs w (.slice ua a.its.length uc) a.its) (hs : Lens a.its) (hn : a.name.length ≤ maxLen) (hl : a.its.length ≤ maxLen) :
  Calls Tryz.prog 33 #[affV a (.slice ua a.its.length uc)] w fun e w' => e = .returned (.bool (V.kd a)) /\ Below w.heap.size w w' := by
 obtain ⟨hb, c0, c1, c2, c3⟩ := zc4 a (.slice ua a.its.length uc) w
 have HM := zvr (hm.below hb)
 have HV := zvr (hv.below hb)
 have HS := zvr hs
 have HL := zvr hl
 have HN : Hid ((⟨a.name.toArray⟩ : ByteArray).size ≤ maxLen) := zvr (by rw [ww]; exact hn)
 have HB := zvr hb
 have hz : w.heap.size < (w.alloc (.cells #[.int .i64 a.sch, .string ⟨a.name.toArray⟩, .int .i64 a.rs, .slice ua a.its.length uc] 34)).heap.size := by simp
 have HF : Hid (V.kd a = (V.xc a.name && (decide (a.rs = a.sch) && (decide (1 ≤ a.its.length) && V.okR a.rs a.its)))) := zvr rfl
 clear hm hv hs hl hn hb
 unfold affV
 go_enter Tryz.func33, Tryz.ntmps33
 go_wp2_with fail
 generalize w.alloc (.cells #[.int .i64 a.sch, .string ⟨a.name.toArray⟩, .int .i64 a.rs, .slice ua a.its.length uc] 34) = w0 at *
 refine (path_any ⟨a.name.toArray⟩ w0 HM.out HN.out).mono ?_
 rintro e w1 ⟨rfl, hb1⟩
 rw [vh]
 have HB1 := zvs HB hb1
 have HM1 := zvr (HM.out.below hb1)
 have HV1 := zvr (HV.out.below hb1)
 replace c0 := zb hb1 c0
 replace c2 := zb hb1 c2
 replace c3 := zb hb1 c3
 clear hb1 c1 HB HM HV
 rcases hp : V.xc a.name with _ | _
 ·have HR : Hid (V.kd a = false) := zvr (by rw [HF.out, hp]; rfl)
  clear hp
  exact zz3
 ·by_cases hrs : a.rs = a.sch
  ·have hb2 : (a.rs == a.sch) = true := by simpa using hrs
   by_cases hln : 1 ≤ a.its.length
   ·have hi : (1 : Int) ≤ (a.its.length : Int) := by omega
    have HR : Hid (V.kd a = V.okR a.rs a.its) := zvr (by rw [HF.out, hp, decide_eq_true hrs, decide_eq_true hln]; rfl)
    clear hp hln
    rw [← hrs] at c0
    clear hrs hb2
    go_wp2_with fail
    refine (zat a.rs (.slice ua a.its.length uc) a.its w1 HM1.out HV1.out HS.out HL.out).mono ?_
    rintro e w2 ⟨rfl, hb3⟩
    have HB3 := zvs HB1 hb3
    clear hb3
    go_wp2
    go_ret
    exact ⟨zd HR.out.symm, HB3.out⟩
   ·have hi : ¬ (1 : Int) ≤ (a.its.length : Int) := by omega
    have HR : Hid (V.kd a = false) := zvr (by rw [HF.out, decide_eq_false hln]; simp)
    clear hp hln
    rw [← hrs] at c0
    clear hrs hb2
    exact zz3
  ·have hb2 : (a.rs == a.sch) = false := by rw [zvv]; exact hrs
   have HR : Hid (V.kd a = false) := zvr (by rw [HF.out, decide_eq_false hrs]; simp)
   clear hp
   exact zz3
theorem zok (n r : Int) (l : List V.Itv) (ua : Option Addr) (uc : Nat) (w : World) (hm : zg w) (hv : Itvs w (.slice ua l.length uc) l) (hs : Lens l) (hl : l.length ≤ maxLen) :
  Calls Tryz.prog 36 #[.int .i64 n, setV r (.slice ua l.length uc)] w fun e w' => e = .returned (.bool (V.zdd n r l)) /\ Below w.heap.size w w' := by
 have hb : Below w.heap.size w (w.alloc (.cells #[.int .i64 r, .slice ua l.length uc] 32)) := (zvu _ w).alloc (zvt _) _
 have c0 : (w.alloc (.cells #[.int .i64 r, .slice ua l.length uc] 32)).cell? ⟨w.heap.size, 0, none⟩ = some (.int .i64 r) := by rw [World.cell?_alloc_new]; rfl
 have c1 : (w.alloc (.cells #[.int .i64 r, .slice ua l.length uc] 32)).cell? ⟨w.heap.size, 1, none⟩ = some (.slice ua l.length uc) := by rw [World.cell?_alloc_new]; rfl
 have HM := zvr (hm.below hb)
 have HV := zvr (hv.below hb)
 have HS := zvr hs
 have HL := zvr hl
 have HB := zvr hb
 have HF : Hid (V.zdd n r l = (decide (r = n) && (decide (1 ≤ l.length) && V.okR r l))) := zvr rfl
 clear hm hv hs hl hb
 unfold setV
 go_enter Tryz.func36, Tryz.ntmps36
 go_wp2_with fail
 generalize w.alloc (.cells #[.int .i64 r, .slice ua l.length uc] 32) = w0 at *
 refine (zbz r (.slice ua l.length uc) l w0 HM.out HV.out HS.out HL.out).mono ?_
 rintro e w1 ⟨rfl, hb1⟩
 have HB1 := zvs HB hb1
 replace c0 := zb hb1 c0
 replace c1 := zb hb1 c1
 clear hb1 HB HM HV
 rcases hp : V.okR r l with _ | _
 ·have HR : Hid (V.zdd n r l = false) := zvr (by rw [HF.out, hp]; simp)
  clear hp
  exact zz3
 ·by_cases hrs : r = n
  ·subst hrs
   by_cases hln : 1 ≤ l.length
   ·have hi : (0 : Int) < (l.length : Int) := by omega
    have HR : Hid (V.zdd r r l = true) := zvr (by rw [HF.out, hp, decide_eq_true hln]; simp)
    clear hp
    go_wp2
    go_ret
    exact ⟨zd (by rw [HR.out]; first | rfl | exact decide_eq_true (by omega)), HB1.out⟩
   ·have hi : ¬ (0 : Int) < (l.length : Int) := by omega
    have HR : Hid (V.zdd r r l = false) := zvr (by rw [HF.out, decide_eq_false hln]; simp)
    clear hp
    go_wp2
    go_ret
    exact ⟨zd (by rw [HR.out]; first | rfl | exact decide_eq_false (by omega)), HB1.out⟩
  ·have hb2 : (r == n) = false := by rw [zvv]; exact hrs
   have HR : Hid (V.zdd n r l = false) := zvr (by rw [HF.out, decide_eq_false hrs]; simp)
   clear hp
   exact zz3
def advV (x : V.Adv) (u : Value) : Value := .agg #[.string ⟨x.id.toArray⟩, .int .i64 x.rev, .int .i64 x.sev, u]
structure AffAt (w : World) (b o : Nat) (a : V.Aff) (ua : Option Addr) (uc : Nat) : Prop where
 c0 : w.cell? ⟨b, o, none⟩ = some (.int .i64 a.sch)
 c1 : w.cell? ⟨b, o + 1, none⟩ = some (.string ⟨a.name.toArray⟩)
 c2 : w.cell? ⟨b, o + 2, none⟩ = some (.int .i64 a.rs)
 c3 : w.cell? ⟨b, o + 3, none⟩ = some (.slice ua a.its.length uc)
 its : Itvs w (.slice ua a.its.length uc) a.its
theorem AffAt.below {w w' : World} {b o : Nat} {a : V.Aff} {ua : Option Addr} {uc : Nat} (h : AffAt w b o a ua uc) (hb : Below w.heap.size w w') : AffAt w' b o a ua uc :=
 ⟨zb hb h.c0, zb hb h.c1, zb hb h.c2, zb hb h.c3, h.its.below hb⟩
structure AffWf (a : V.Aff) : Prop where
 name : a.name.length ≤ maxLen
 lens : Lens a.its
 len : a.its.length ≤ maxLen
def Affs (w : World) (v : Value) (l : List V.Aff) : Prop :=
 ∃ p cap, v = .slice p l.length cap /\ ∀ j (h : j < l.length), AffWf l[j] /\ ∃ b off ua uc, p = some ⟨b, off, none⟩ /\ b < w.heap.size /\ AffAt w b (off + j * 4) l[j] ua uc
theorem Affs.nil (w : World) : Affs w (.slice none 0 0) [] := ⟨none, 0, rfl, fun j h => by simp at h⟩
theorem Affs.below {w w' : World} {v : Value} {l : List V.Aff} (h : Affs w v l) (hb : Below w.heap.size w w') : Affs w' v l := by
 obtain ⟨p, cap, e, hc⟩ := h
 refine ⟨p, cap, e, fun j hj => ?_⟩
 obtain ⟨hw, b, off, ua, uc, ep, hlt, ha⟩ := hc j hj
 exact ⟨hw, b, off, ua, uc, ep, Nat.lt_of_lt_of_le hlt hb.size, ha.below hb⟩
theorem Affs.slice {w : World} {v : Value} {l : List V.Aff} (h : Affs w v l) : ∃ p cap, v = .slice p l.length cap := by
 obtain ⟨p, c, e, _⟩ := h
 exact ⟨p, c, e⟩
theorem Affs.at {w : World} {p : Option Addr} {n cap : Nat} {l : List V.Aff} (h : Affs w (.slice p n cap) l) (j : Nat) (hj : j < l.length) : AffWf l[j] /\ ∃ b off ua uc, p = some ⟨b, off, none⟩ /\ b < w.heap.size /\ AffAt w b (off + j * 4) l[j] ua uc := by
 obtain ⟨p', c, e, hc⟩ := h
 cases e
 exact hc j hj
theorem zdc (x : V.Adv) (u : Value) (w : World) : Below w.heap.size w (w.alloc (.cells #[.string ⟨x.id.toArray⟩, .int .i64 x.rev, .int .i64 x.sev, u] 25)) /\ (w.alloc (.cells #[.string ⟨x.id.toArray⟩, .int .i64 x.rev, .int .i64 x.sev, u] 25)).cell? ⟨w.heap.size, 0, none⟩ = some (.string ⟨x.id.toArray⟩) /\ (w.alloc (.cells #[.string ⟨x.id.toArray⟩, .int .i64 x.rev, .int .i64 x.sev, u] 25)).cell? ⟨w.heap.size, 1, none⟩ = some (.int .i64 x.rev) /\ (w.alloc (.cells #[.string ⟨x.id.toArray⟩, .int .i64 x.rev, .int .i64 x.sev, u] 25)).cell? ⟨w.heap.size, 2, none⟩ = some (.int .i64 x.sev) /\ (w.alloc (.cells #[.string ⟨x.id.toArray⟩, .int .i64 x.rev, .int .i64 x.sev, u] 25)).cell? ⟨w.heap.size, 3, none⟩ = some u := by
 refine ⟨(zvu _ w).alloc (zvt _) _, ?_, ?_, ?_, ?_⟩ <;> (rw [World.cell?_alloc_new]; rfl)
theorem zx0 {P : Prop} (h : P := by
 have HR : Hid (V.ql x = false) := zvr (by
   rcases h : V.ql x with _ | _
   · rfl
   · have hp := V.ja h
     exact absurd hp.id g0)
 have g0' : V.xq x.id = false := by simpa using g0
 rw [g0']
 clear g0 g0'
 go_wp2
 go_ret
 exact ⟨zd HR.out.symm, HB.out⟩) : P := h
theorem zx2 {P : Prop} (h : P := by
 have HR : Hid (V.ql x = false) := zvr (by
   rcases h : V.ql x with _ | _
   · rfl
   · have hp := V.ja h
     exact absurd hp.len g5)
 have f5 : (16 : Int) < (x.aff.length : Int) := by omega
 clear g5
 go_wp2
 go_ret
 exact ⟨zd HR.out.symm, HB.out⟩) : P := h
theorem zx4 {P : Prop} (h : P := by
 have HR : Hid (V.ql x = false) := zvr (by
   rcases h : V.ql x with _ | _
   · rfl
   · have hp := V.ja h
     exact absurd hp.rev1 g2)
 have f2 : (1099511627776 : Int) < x.rev := by omega
 clear g2
 go_wp2
 go_ret
 exact ⟨zd HR.out.symm, HB.out⟩) : P := h
theorem zx7 {P : Prop} (h : P := by
 have HR : Hid (V.ql x = false) := zvr (by
   rcases h : V.ql x with _ | _
   · rfl
   · have hp := V.ja h
     exact absurd hp.sev1 g4)
 have f4 : (10 : Int) < x.sev := by omega
 clear g4
 go_wp2
 go_ret
 exact ⟨zd HR.out.symm, HB.out⟩) : P := h
theorem zx8 {P : Prop} (h : P := by
 go_wp2
 go_ret
 exact ⟨zd HR.out.symm, HB.out⟩) : P := h
theorem zyr {P : Prop} (h : P := by
 go_wp2
 go_ret
 exact ⟨zd HR.out.symm, HB.out.trans (HBE.out.mono HB.out.size)⟩) : P := h
theorem zy2 {P : Prop} (h : P := by
 obtain rfl : k = x.aff.length := by omega
 have HR : Hid (V.ql x = true) := zvr (by rw [HOK.out]; exact HTO.out)
 go_wp2
 go_ret
 exact ⟨zd HR.out.symm, HBW.out⟩) : P := h
theorem z0b {P : Prop} (h : P := by
 go_wp2
 go_roundw
 case rel => exact ⟨k + 1, by omega, by go_num, HY.out, HBE.out⟩
 case measure => simp [intOf]; omega) : P := h
theorem z0c {P : Prop} (h : P := by
 go_wp2
 go_roundw
 case rel => exact ⟨0 + 1, by omega, by go_num, HY.out, HBE.out⟩
 case measure => simp [intOf]; omega) : P := h
theorem za3 (x : V.Adv) (v : Value) (w : World) (hm : zg w) (hv : Affs w v x.aff) (hid : x.id.length ≤ maxLen) (hl : x.aff.length ≤ maxLen) :
  Calls Tryz.prog 11 #[advV x v] w fun e w' => e = .returned (.bool (V.ql x)) /\ Below w.heap.size w w' := by
 obtain ⟨pa, pc, rfl⟩ := hv.slice
 obtain ⟨hb, c0, c1, c2, c3⟩ := zdc x (.slice pa x.aff.length pc) w
 have HM := zvr (hm.below hb)
 have HV := zvr (hv.below hb)
 have HI : Hid ((⟨x.id.toArray⟩ : ByteArray).size ≤ maxLen) := zvr (by rw [ww]; exact hid)
 have HB := zvr hb
 have HBX : Hid (w.heap.size < (w.alloc (.cells #[.string ⟨x.id.toArray⟩, .int .i64 x.rev, .int .i64 x.sev, .slice pa x.aff.length pc] 25)).heap.size) := zvr (by simp)
 unfold maxLen at hl
 clear hm hv hid hb
 unfold advV
 go_enter Tryz.func11, Tryz.ntmps11
 go_wp2_with fail
 generalize w.alloc (.cells #[.string ⟨x.id.toArray⟩, .int .i64 x.rev, .int .i64 x.sev, .slice pa x.aff.length pc] 25) = w0 at *
 refine (zpt ⟨x.id.toArray⟩ w0 HI.out).mono ?_
 rintro e w' ⟨rfl, hw'⟩
 obtain rfl := hw'.symm
 clear hw'
 rw [vh]
 by_cases g0 : V.xq x.id = true
 case neg =>
  exact zx0
 rw [g0]
 by_cases g1 : 1 ≤ x.rev
 case neg =>
  have HR : Hid (V.ql x = false) := zvr (by
    rcases h : V.ql x with _ | _
    · rfl
    · have hp := V.ja h
      exact absurd hp.rev0 g1)
  have f1 : x.rev < 1 := by omega
  clear g1
  exact zx8
 have f1 : ¬ x.rev < 1 := by omega
 by_cases g2 : x.rev ≤ 1099511627776
 case neg =>
  exact zx4
 have f2 : ¬ (1099511627776 : Int) < x.rev := by omega
 by_cases g3 : 1 ≤ x.sev
 case neg =>
  have HR : Hid (V.ql x = false) := zvr (by
    rcases h : V.ql x with _ | _
    · rfl
    · have hp := V.ja h
      exact absurd hp.sev0 g3)
  have f3 : x.sev < 1 := by omega
  clear g3
  exact zx8
 have f3 : ¬ x.sev < 1 := by omega
 by_cases g4 : x.sev ≤ 10
 case neg =>
  exact zx7
 have f4 : ¬ (10 : Int) < x.sev := by omega
 by_cases g5 : x.aff.length ≤ 16
 case neg =>
  exact zx2
 have f5 : ¬ (16 : Int) < (x.aff.length : Int) := by omega
 have HOK : Hid (V.ql x = V.yn x.aff x.aff.length) := zvr (by
   unfold V.ql V.zgl
   rw [g0, decide_eq_true g1, decide_eq_true g2, decide_eq_true g3, decide_eq_true g4, decide_eq_true g5]
   rfl)
 clear g0 g1 g2 g3 g4
 go_wp2_with fail
 go_loopw [38] (fun iv W => ∃ k : Nat, k ≤ x.aff.length /\ iv = .int .i64 k /\ V.yn x.aff k = true /\ Below w0.heap.size w0 W) (fun iv _ => x.aff.length - (intOf iv).toNat)
 case atStart => exact ⟨0, Nat.zero_le _, rfl, rfl, zvu _ _⟩
 case round =>
  obtain ⟨k, hk, rfl, hto, hbr⟩ := hrel
  have HTO := zvr hto
  have HBR := zvr hbr
  have HBW := zvs HB hbr
  clear hto hbr
  by_cases hlt : k < x.aff.length
  ·obtain ⟨hwf, b, off, ua, uc, rfl, hblt, ha⟩ := HV.out.at k hlt
   have HVK := zvr (HV.out.below HBR.out)
   have HW := zvr hwf
   have HA := zvr (ha.below HBR.out)
   have HST := zvr (V.zbu hlt)
   have HNO := zvr (V.zqq hlt)
   have HAT : Hid (V.zb0 x.aff k x.aff[k] = ((decide (k = 0) || decide (V.affC (x.aff.getD (k - 1) V.zA) x.aff[k] < 0)) && V.kd x.aff[k])) := zvr rfl
   generalize x.aff[k] = a at *
   have e0 := HA.out.c0
   have e1 := HA.out.c1
   have e2 := HA.out.c2
   have e3 := HA.out.c3
   have i1 : (0 : Int) ≤ (k : Int) := by omega
   have i2 : (k : Int) < (x.aff.length : Int) := by omega
   have wr1 : IntKind.i64.wrap ((k : Int) + 1) = (k : Int) + 1 := IntWalk.i64_in _ (by omega)
   have hb2 : Below wr.heap.size wr (wr.alloc (.cells #[.int .i64 a.sch, .string ⟨a.name.toArray⟩, .int .i64 a.rs, .slice ua a.its.length uc] 34)) := (zvu _ wr).alloc (zvt _) _
   obtain ⟨_, d0, d1, d2, d3⟩ := zc4 a (.slice ua a.its.length uc) wr
   have HA2 := zvr (HA.out.below hb2)
   have HB2 := zvs HBR hb2
   have HM2 := zvr (HM.out.below HB2.out)
   have HV2 := zvr (HVK.out.below hb2)
   have hx3 := zb HB2.out c3
   clear hb2 hwf ha
   go_wp2_with fail
   generalize wr.alloc (.cells #[.int .i64 a.sch, .string ⟨a.name.toArray⟩, .int .i64 a.rs, .slice ua a.its.length uc] 34) = w2 at *
   generalize wr.heap.size = X at *
   have c3' := c3
   clear c3 e0 e1 e2 e3
   have c3 := hx3
   clear hx3
   rcases Nat.eq_zero_or_pos k with hk0 | hk0
   ·subst hk0
    obtain ⟨s, hs⟩ : ∃ s, V.kd a = s := ⟨_, rfl⟩
    have HSE := zvr hs
    have HAS : Hid (V.zb0 x.aff 0 a = s) := zvr (by rw [HAT.out, hs]; simp)
    clear hs
    refine wp_region_held_drew (S := (fun W' => Below w2.heap.size w2 W' /\ W'.cell? ⟨X, 0, none⟩ = some (.int .i64 a.sch) /\ W'.cell? ⟨X, 1, none⟩ = some (.string ⟨a.name.toArray⟩) /\ W'.cell? ⟨X, 2, none⟩ = some (.int .i64 a.rs) /\ W'.cell? ⟨X, 3, none⟩ = some (.slice ua a.its.length uc))) (by kernel_rfl) (by (try dsimp only); exact ⟨(zvu _ _).drew, zb (zvu _ _).drew d0, zb (zvu _ _).drew d1, zb (zvu _ _).drew d2, zb (zvu _ _).drew d3⟩) (fun hHeld => ?_)
    refine tk 0 ?_
    refine tk 1 ?_
    refine tk 2 ?_
    refine tu 3 ?_
    refine tu 4 ?_
    refine tu 5 ?_
    refine tu 6 ?_
    refine tu 7 ?_
    refine tu 8 ?_
    refine tu 9 ?_
    refine tu 10 ?_
    refine tu 11 ?_
    refine tk 12 ?_
    refine tk 13 ?_
    refine tk 14 ?_
    refine rd 15 fun K hK => ?_
    go_simp
    refine (zmc a ua uc _ (HM2.out.below (show Below w2.heap.size w2 _ from (by first | assumption | exact And.left (by assumption)))) (HA2.out.its.below (show Below w2.heap.size w2 _ from (by first | assumption | exact And.left (by assumption)))) HW.out.lens HW.out.name HW.out.len).mono ?_
    rintro e wz15 ⟨rfl, hbz15⟩
    try dsimp only
    refine hK.out _ _ ?_ (fun hHeld => nx ?_)
    ·(try dsimp only); go_split_ands; exact ⟨Below.trans (by assumption) (hbz15.mono (Below.size (by assumption))), zvx hbz15, zvx hbz15, zvx hbz15, zvx hbz15⟩
    clear hK K
    refine tk 16 ?_
    refine tk 17 ?_
    refine wpAnyH_done (by kernel_rfl) ?_ _
    rw [HSE.out] at *
    have HBE := zvr (HB2.out.trans ((show Below w2.heap.size w2 wz15 from hHeld.1).mono HB2.out.size))
    clear hHeld
    rcases s with _ | _
    ·have HR : Hid (V.ql x = false) := zvr (by rw [HOK.out]; exact HNO.out HAS.out)
     exact zyr
    ·have HY : Hid (V.yn x.aff (0 + 1) = true) := zvr (by rw [HST.out, HTO.out, HAS.out]; rfl)
     exact z0c
   ·obtain ⟨j, hj⟩ : ∃ j, k = j + 1 := ⟨k - 1, by omega⟩
    have hjl : j < x.aff.length := by omega
    obtain ⟨_, b', off', up, ucp, e', _, hp⟩ := HV2.out.at j hjl
    cases e'
    have HPV : Hid (x.aff.getD (k - 1) V.zA = x.aff[j]) := zvr (by rw [hj, Nat.add_sub_cancel, List.getD_eq_getElem?_getD, List.getElem?_eq_getElem hjl]; rfl)
    rw [HPV.out] at HAT
    clear HPV
    generalize x.aff[j] = p at *
    have q0 := hp.c0
    have q1 := hp.c1
    have q2 := hp.c2
    have q3 := hp.c3
    have HKJ := zvr hj
    have wk : IntKind.i64.wrap ((k : Int) - 1) = (j : Int) := by rw [hj, IntWalk.i64_in _ (by omega)]; omega
    have j1 : (0 : Int) ≤ (j : Int) := by omega
    have j2 : (j : Int) < (x.aff.length : Int) := by omega
    have k0 : (0 : Int) < (k : Int) := by omega
    have k1 : decide ((0 : Int) < (k : Int)) = true := decide_eq_true k0
    have k2 : decide (0 < k) = true := decide_eq_true hk0
    have k3 : 0 < k := hk0
    have hk0n : ¬ k = 0 := by omega
    have HK0 : Hid (decide (k = 0) = false) := zvr (decide_eq_false hk0n)
    rw [HK0.out, Bool.false_or] at HAT
    clear hp hj HK0 hk0n hk0
    obtain ⟨c, hc⟩ : ∃ c, V.affC p a = c := ⟨_, rfl⟩
    have HCE := zvr hc
    rw [hc] at HAT
    clear hc
    by_cases hcp : 0 ≤ c
    ·have HCP := zvr hcp
     have HR : Hid (V.ql x = false) := zvr (by rw [HOK.out]; exact HNO.out (by rw [HAT.out, decide_eq_false (by omega : ¬ c < 0)]; rfl))
     refine wp_region_held_drew (S := (fun W' => Below w2.heap.size w2 W' /\ W'.cell? ⟨w.heap.size, 3, none⟩ = some (.slice (some ⟨b, off, none⟩) x.aff.length pc) /\ W'.cell? ⟨b, off + j * 4, none⟩ = some (.int .i64 p.sch) /\ W'.cell? ⟨b, off + j * 4 + 1, none⟩ = some (.string ⟨p.name.toArray⟩) /\ W'.cell? ⟨b, off + j * 4 + 2, none⟩ = some (.int .i64 p.rs) /\ W'.cell? ⟨b, off + j * 4 + 3, none⟩ = some (.slice up p.its.length ucp) /\ W'.cell? ⟨X, 0, none⟩ = some (.int .i64 a.sch) /\ W'.cell? ⟨X, 1, none⟩ = some (.string ⟨a.name.toArray⟩) /\ W'.cell? ⟨X, 2, none⟩ = some (.int .i64 a.rs) /\ W'.cell? ⟨X, 3, none⟩ = some (.slice ua a.its.length uc))) (by kernel_rfl) (by (try dsimp only); exact ⟨(zvu _ _).drew, zb (zvu _ _).drew c3, zb (zvu _ _).drew q0, zb (zvu _ _).drew q1, zb (zvu _ _).drew q2, zb (zvu _ _).drew q3, zb (zvu _ _).drew d0, zb (zvu _ _).drew d1, zb (zvu _ _).drew d2, zb (zvu _ _).drew d3⟩) (fun hHeld => ?_)
     refine tk 0 ?_
     refine tk 1 ?_
     refine tk 2 ?_
     refine tk 3 ?_
     refine tk 4 ?_
     refine tk 5 ?_
     refine wpAnyH_take (i := 6) (v := (.int .i64 (j : Int))) rfl (by kernel_rfl) (by kernel_rfl) (by kernel_rfl) (fun _ _ _ h => h) (Or.inl ⟨by rfl, fun w' hSw => by go_simp; try rfl⟩) (by assumption) ?_
     try simp only [zvm, zvn, zvo, Act.put, zvp, List.set_cons_succ, List.set_cons_zero]
     refine tk 7 ?_
     refine tk 8 ?_
     refine tk 9 ?_
     refine rd 10 fun K hK => ?_
     go_simp
     refine (zk4 p a up ua p.its.length ucp a.its.length uc _).mono ?_
     rintro e wy10 ⟨rfl, hby10⟩
     try dsimp only
     rw [HCE.out]
     refine hK.out _ _ ?_ (fun hHeld => nx ?_)
     ·(try dsimp only); go_split_ands; exact ⟨Below.trans (by assumption) (hby10.mono (Below.size (by assumption))), zvx hby10, zvx hby10, zvx hby10, zvx hby10, zvx hby10, zvx hby10, zvx hby10, zvx hby10, zvx hby10⟩
     clear hK K
     refine wpAnyH_take (i := 11) (v := (.bool true)) rfl (by kernel_rfl) (by kernel_rfl) (by kernel_rfl) (fun _ _ _ h => h) (Or.inl ⟨by rfl, fun w' hSw => by have e := HCP.out; go_simp; try rfl⟩) (by assumption) ?_
     try simp only [zvm, zvn, zvo, Act.put, zvp, List.set_cons_succ, List.set_cons_zero]
     refine tk 12 ?_
     refine tk 13 ?_
     refine tu 14 ?_
     refine tu 15 ?_
     refine tu 16 ?_
     refine tk 17 ?_
     refine wpAnyH_done (by kernel_rfl) ?_ _
     have HBE := zvr (HB2.out.trans ((show Below w2.heap.size w2 wy10 from hHeld.1).mono HB2.out.size))
     clear hHeld
     exact zyr
    ·have HCP := zvr hcp
     obtain ⟨s, hs⟩ : ∃ s, V.kd a = s := ⟨_, rfl⟩
     have HSE := zvr hs
     have HAS : Hid (V.zb0 x.aff k a = s) := zvr (by rw [HAT.out, hs, decide_eq_true (by omega : c < 0)]; rfl)
     clear hs
     refine wp_region_held_drew (S := (fun W' => Below w2.heap.size w2 W' /\ W'.cell? ⟨w.heap.size, 3, none⟩ = some (.slice (some ⟨b, off, none⟩) x.aff.length pc) /\ W'.cell? ⟨b, off + j * 4, none⟩ = some (.int .i64 p.sch) /\ W'.cell? ⟨b, off + j * 4 + 1, none⟩ = some (.string ⟨p.name.toArray⟩) /\ W'.cell? ⟨b, off + j * 4 + 2, none⟩ = some (.int .i64 p.rs) /\ W'.cell? ⟨b, off + j * 4 + 3, none⟩ = some (.slice up p.its.length ucp) /\ W'.cell? ⟨X, 0, none⟩ = some (.int .i64 a.sch) /\ W'.cell? ⟨X, 1, none⟩ = some (.string ⟨a.name.toArray⟩) /\ W'.cell? ⟨X, 2, none⟩ = some (.int .i64 a.rs) /\ W'.cell? ⟨X, 3, none⟩ = some (.slice ua a.its.length uc))) (by kernel_rfl) (by (try dsimp only); exact ⟨(zvu _ _).drew, zb (zvu _ _).drew c3, zb (zvu _ _).drew q0, zb (zvu _ _).drew q1, zb (zvu _ _).drew q2, zb (zvu _ _).drew q3, zb (zvu _ _).drew d0, zb (zvu _ _).drew d1, zb (zvu _ _).drew d2, zb (zvu _ _).drew d3⟩) (fun hHeld => ?_)
     refine tk 0 ?_
     refine tk 1 ?_
     refine tk 2 ?_
     refine tk 3 ?_
     refine tk 4 ?_
     refine tk 5 ?_
     refine wpAnyH_take (i := 6) (v := (.int .i64 (j : Int))) rfl (by kernel_rfl) (by kernel_rfl) (by kernel_rfl) (fun _ _ _ h => h) (Or.inl ⟨by rfl, fun w' hSw => by go_simp; try rfl⟩) (by assumption) ?_
     try simp only [zvm, zvn, zvo, Act.put, zvp, List.set_cons_succ, List.set_cons_zero]
     refine tk 7 ?_
     refine tk 8 ?_
     refine tk 9 ?_
     refine rd 10 fun K hK => ?_
     go_simp
     refine (zk4 p a up ua p.its.length ucp a.its.length uc _).mono ?_
     rintro e wx10 ⟨rfl, hbx10⟩
     try dsimp only
     rw [HCE.out]
     refine hK.out _ _ ?_ (fun hHeld => nx ?_)
     ·(try dsimp only); go_split_ands; exact ⟨Below.trans (by assumption) (hbx10.mono (Below.size (by assumption))), zvx hbx10, zvx hbx10, zvx hbx10, zvx hbx10, zvx hbx10, zvx hbx10, zvx hbx10, zvx hbx10, zvx hbx10⟩
     clear hK K
     refine wpAnyH_take (i := 11) (v := (.bool false)) rfl (by kernel_rfl) (by kernel_rfl) (by kernel_rfl) (fun _ _ _ h => h) (Or.inl ⟨by rfl, fun w' hSw => by have e := HCP.out; go_simp; try rfl⟩) (by assumption) ?_
     try simp only [zvm, zvn, zvo, Act.put, zvp, List.set_cons_succ, List.set_cons_zero]
     refine tk 12 ?_
     refine tk 13 ?_
     refine tk 14 ?_
     refine rd 15 fun K hK => ?_
     go_simp
     refine (zmc a ua uc _ (HM2.out.below (show Below w2.heap.size w2 _ from (by first | assumption | exact And.left (by assumption)))) (HA2.out.its.below (show Below w2.heap.size w2 _ from (by first | assumption | exact And.left (by assumption)))) HW.out.lens HW.out.name HW.out.len).mono ?_
     rintro e wx15 ⟨rfl, hbx15⟩
     try dsimp only
     refine hK.out _ _ ?_ (fun hHeld => nx ?_)
     ·(try dsimp only); go_split_ands; exact ⟨Below.trans (by assumption) (hbx15.mono (Below.size (by assumption))), zvx hbx15, zvx hbx15, zvx hbx15, zvx hbx15, zvx hbx15, zvx hbx15, zvx hbx15, zvx hbx15, zvx hbx15⟩
     clear hK K
     refine tk 16 ?_
     refine tk 17 ?_
     refine wpAnyH_done (by kernel_rfl) ?_ _
     rw [HSE.out] at *
     have HBE := zvr (HB2.out.trans ((show Below w2.heap.size w2 wx15 from hHeld.1).mono HB2.out.size))
     clear hHeld
     rcases s with _ | _
     ·have HR : Hid (V.ql x = false) := zvr (by rw [HOK.out]; exact HNO.out HAS.out)
      exact zyr
     ·have HY : Hid (V.yn x.aff (k + 1) = true) := zvr (by rw [HST.out, HTO.out, HAS.out]; rfl)
      exact z0b
  ·exact zy2
end Go.Proofs.YtiloljoancdcbaaGreatDoor
