/-
  Lemmas for the law.
-/
import Derived.Test.YtbikeahmldobkaaGreatDoorC41x21
import Derived.Test.YtbikeahmldobkaaGreatDoorC41x22
import Derived.Test.YtbikeahmldobkaaGreatDoorC41x23
import Derived.Test.YtbikeahmldobkaaGreatDoorC41x25
import Derived.Test.YtbikeahmldobkaaGreatDoorC41x24
import Derived.Test.YtbikeahmldobkaaGreatDoorC41x26
set_option linter.all false
set_option maxRecDepth 100000
set_option maxHeartbeats 1600000
namespace Go.Proofs.YtbikeahmldobkaaGreatDoor
open Go.RowKit
def affV (a : V.Aff) (u : Value) : Value := .agg #[.int .i64 a.sch, .string ⟨a.name.toArray⟩, .int .i64 a.rs, u]
def pkgV (n : Int) (s : V.Bs) : Value := .agg #[.int .i64 n, .string ⟨s.toArray⟩]
theorem two_ints (w : World) (a b : Int) (t : TypeId) : ∀ j, j < [a, b].length -> (w.alloc (.cells #[.int .i64 a, .int .i64 b] t)).cell? ⟨w.heap.size, j, none⟩ = some (.int .i64 ([a, b].getD j 0)) := by
 exact zr9
theorem zor (w : World) (a b : Int) (t : TypeId) : ∀ j, j < [a, b].length -> (w.alloc (.cells #[.int .i64 a, .int .i64 b] t)).drew.cell? ⟨w.heap.size, j, none⟩ = some (.int .i64 ([a, b].getD j 0)) := fun j hj => by
 rw [World.cell?_drew]; exact two_ints w a b t j hj
theorem zgd {w : World} (o1 o2 : Obj) : Below w.heap.size w ((w.alloc o1).alloc o2) /\ (∀ k, ((w.alloc o1).alloc o2).cell? ⟨w.heap.size, k, none⟩ = (w.alloc o1).cell? ⟨w.heap.size, k, none⟩) /\ (∀ k, ((w.alloc o1).alloc o2).cell? ⟨w.heap.size + 1, k, none⟩ = ((w.alloc o1).alloc o2).cell? ⟨(w.alloc o1).heap.size, k, none⟩) := by
 refine ⟨((zpd _ w).alloc (zpc _) _).alloc (by simp) _, fun k => ?_, fun k => by rw [World.size_alloc]⟩
 exact ((zpd _ (w.alloc o1)).alloc (zpc _) o2).cell (p := ⟨w.heap.size, k, none⟩) (by show w.heap.size < _; simp)
theorem zf1 (a b : V.Aff) (ua va : Option Addr) (un uc vn vc : Nat) (w : World) :
  Calls Tryz.prog 116 #[affV a (.slice ua un uc), affV b (.slice va vn vc)] w fun e w' => e = .returned (.int .i64 (V.affC a b)) /\ Below w.heap.size w w' := by
 obtain ⟨hb, h0, h1⟩ := zgd (w := w) (.cells #[.int .i64 a.sch, .string ⟨a.name.toArray⟩, .int .i64 a.rs, .slice ua un uc] 70) (.cells #[.int .i64 b.sch, .string ⟨b.name.toArray⟩, .int .i64 b.rs, .slice va vn vc] 70)
 have HB := zpa hb
 have c0 := (h0 0).trans (World.cell?_alloc_new ..)
 have c1 := (h0 1).trans (World.cell?_alloc_new ..)
 have d0 := (h1 0).trans (World.cell?_alloc_new ..)
 have d1 := (h1 1).trans (World.cell?_alloc_new ..)
 simp only [List.getElem?_toArray, List.getElem?_cons_zero, List.getElem?_cons_succ] at c0 c1 d0 d1
 clear hb h0 h1
 have HF : Hid (V.affC a b = V.orI [Lib.compareInt a.sch b.sch, Lib.compareBytes a.name b.name]) := zpa rfl
 unfold affV
 go_enter Tryz.func116, Tryz.ntmps116
 go_wp2_with fail
 generalize (w.alloc (.cells #[.int .i64 a.sch, .string ⟨a.name.toArray⟩, .int .i64 a.rs, .slice ua un uc] 70)).alloc (.cells #[.int .i64 b.sch, .string ⟨b.name.toArray⟩, .int .i64 b.rs, .slice va vn vc] 70) = w0 at *
 refine wp_region_held_drew (S := (fun W' => W'.cell? ⟨w.heap.size, 0, none⟩ = some (.int .i64 a.sch) /\ W'.cell? ⟨w.heap.size, 1, none⟩ = some (.string ⟨a.name.toArray⟩) /\ W'.cell? ⟨w.heap.size + 1, 0, none⟩ = some (.int .i64 b.sch) /\ W'.cell? ⟨w.heap.size + 1, 1, none⟩ = some (.string ⟨b.name.toArray⟩))) (by kernel_rfl) (by (try dsimp only); exact ⟨zg (zpd _ _).drew c0, zg (zpd _ _).drew c1, zg (zpd _ _).drew d0, zg (zpd _ _).drew d1⟩) (fun hHeld => ?_)
 refine tk 0 ?_
 refine tk 1 ?_
 refine tk 2 ?_
 refine tk 3 ?_
 refine tk 5 ?_
 refine tk 6 ?_
 refine tk 7 ?_
 refine tk 8 ?_
 refine rd 4 fun K hK => ?_
 go_simp
 refine (Tryz.cmp_Compare_int _ _ _).mono ?_
 rintro e w' ⟨rfl, rfl⟩
 try dsimp only
 refine hK.out _ _ ?_ (fun hHeld => nx ?_)
 ·(try dsimp only); exact hHeld
 clear hK K
 refine rd 9 fun K hK => ?_
 go_simp
 refine (zl1 _ _ _).mono ?_
 rintro e w' ⟨rfl, rfl⟩
 try dsimp only
 try rw [zaz, zaz]
 refine hK.out _ _ ?_ (fun hHeld => nx ?_)
 ·(try dsimp only); exact hHeld
 clear hK K
 refine rd 10 fun K hK => ?_
 go_simp
 refine hK.out _ _ ?_ (fun hHeld => nx ?_)
 ·(try dsimp only); exact ⟨zg ((zpd _ _).alloc (zpc _) _) hHeld.1, zg ((zpd _ _).alloc (zpc _) _) hHeld.2.1, zg ((zpd _ _).alloc (zpc _) _) hHeld.2.2.1, zg ((zpd _ _).alloc (zpc _) _) hHeld.2.2.2⟩
 clear hK K
 refine rd 11 fun K hK => ?_
 go_simp
 refine (zi0 _ [Lib.compareInt a.sch b.sch, Lib.compareBytes a.name b.name] _ (by simp) (zor _ _ _ _)).mono ?_
 rintro e w' ⟨rfl, rfl⟩
 try dsimp only
 refine hK.out _ _ ?_ (fun hHeld => nx ?_)
 ·(try dsimp only); exact hHeld
 clear hK K
 refine tk 12 ?_
 refine wpAnyH_done (by kernel_rfl) ?_ _
 have hb9 : Below w0.heap.size w0 (w0.alloc (.cells #[.int .i64 (Lib.compareInt a.sch b.sch), .int .i64 (Lib.compareBytes a.name b.name)] 3)).drew := ((zpd _ w0).alloc (zpc _) _).drew
 have HB9 := zpb HB hb9
 clear hb9 hHeld
 go_wp2
 go_ret
 exact ⟨zn HF.out.symm, HB9.out⟩
theorem zrc {P : Prop} (h : P := by
 go_enter Tryz.func95, Tryz.ntmps95
 go_wp2
 go_ret
 exact ⟨zf HF.out.symm, HB.out⟩) : P := h
theorem zj5 (n m : Int) (s t : V.Bs) (w : World) :
  Calls Tryz.prog 95 #[pkgV n s, pkgV m t] w fun e w' => e = .returned (.bool (decide (V.orI [Lib.compareInt n m, Lib.compareBytes s t] < 0))) /\ Below w.heap.size w w' := by
 have HB := zpa (zgd (w := w) (.cells #[.int .i64 n, .string ⟨s.toArray⟩] 100) (.cells #[.int .i64 m, .string ⟨t.toArray⟩] 100)).1
 have hbl : Op.bytesLess (⟨s.toArray⟩ : ByteArray).toList (⟨t.toArray⟩ : ByteArray).toList = decide (Lib.compareBytes s t < 0) := by rw [Lib.toList_data, Lib.toList_data]; exact xj _ _
 have hbl2 : Op.bytesLess s t = decide (Lib.compareBytes s t < 0) := xj _ _
 unfold pkgV
 by_cases h1 : n < m
 ·have HF : Hid (decide (V.orI [Lib.compareInt n m, Lib.compareBytes s t] < 0) = true) := zpa (by
    have e : Lib.compareInt n m = -1 := by unfold Lib.compareInt; rw [if_pos h1]
    rw [e]; rfl)
  exact zrc
 ·by_cases h2 : n = m
  ·subst h2
   have HF : Hid (decide (V.orI [Lib.compareInt n n, Lib.compareBytes s t] < 0) = decide (Lib.compareBytes s t < 0)) := zpa (by
     have e : Lib.compareInt n n = 0 := by unfold Lib.compareInt; rw [if_neg (by omega), if_neg (by omega)]
     rw [e]
     unfold V.orI V.orI V.orI V.cor
     simp
     split <;> simp_all)
   rw [HF.out]
   generalize decide (Lib.compareBytes s t < 0) = r at *
   go_enter Tryz.func95, Tryz.ntmps95
   go_wp2
   go_ret
   exact ⟨zf rfl, HB.out⟩
  ·have HF : Hid (decide (V.orI [Lib.compareInt n m, Lib.compareBytes s t] < 0) = false) := zpa (by
     have e : Lib.compareInt n m = 1 := by unfold Lib.compareInt; rw [if_neg h1, if_pos (by omega)]
     rw [e]; rfl)
   have h3 : (n == m) = false := by rw [zpe]; exact h2
   exact zrc
theorem zcg (a : V.Aff) (u : Value) (w : World) : Below w.heap.size w (w.alloc (.cells #[.int .i64 a.sch, .string ⟨a.name.toArray⟩, .int .i64 a.rs, u] 70)) /\ (w.alloc (.cells #[.int .i64 a.sch, .string ⟨a.name.toArray⟩, .int .i64 a.rs, u] 70)).cell? ⟨w.heap.size, 0, none⟩ = some (.int .i64 a.sch) /\ (w.alloc (.cells #[.int .i64 a.sch, .string ⟨a.name.toArray⟩, .int .i64 a.rs, u] 70)).cell? ⟨w.heap.size, 1, none⟩ = some (.string ⟨a.name.toArray⟩) /\ (w.alloc (.cells #[.int .i64 a.sch, .string ⟨a.name.toArray⟩, .int .i64 a.rs, u] 70)).cell? ⟨w.heap.size, 2, none⟩ = some (.int .i64 a.rs) /\ (w.alloc (.cells #[.int .i64 a.sch, .string ⟨a.name.toArray⟩, .int .i64 a.rs, u] 70)).cell? ⟨w.heap.size, 3, none⟩ = some u := by
 refine ⟨(zpd _ w).alloc (zpc _) _, ?_, ?_, ?_, ?_⟩ <;> (rw [World.cell?_alloc_new]; rfl)
theorem zrk {P : Prop} (h : P := by
 go_wp2
 go_ret
 exact ⟨zf HR.out.symm, HB1.out⟩) : P := h
theorem zg2 (a : V.Aff) (ua : Option Addr) (uc : Nat) (w : World) (hm : zm w) (hv : Itvs w (.slice ua a.its.length uc) a.its) (hs : Lens a.its) (hn : a.name.length ≤ maxLen) (hl : a.its.length ≤ maxLen) :
  Calls Tryz.prog 117 #[affV a (.slice ua a.its.length uc)] w fun e w' => e = .returned (.bool (V.xo a)) /\ Below w.heap.size w w' := by
 obtain ⟨hb, c0, c1, c2, c3⟩ := zcg a (.slice ua a.its.length uc) w
 have HM := zpa (hm.below hb)
 have HV := zpa (hv.below hb)
 have HS := zpa hs
 have HL := zpa hl
 have HN : Hid ((⟨a.name.toArray⟩ : ByteArray).size ≤ maxLen) := zpa (by rw [ziq]; exact hn)
 have HB := zpa hb
 have hz : w.heap.size < (w.alloc (.cells #[.int .i64 a.sch, .string ⟨a.name.toArray⟩, .int .i64 a.rs, .slice ua a.its.length uc] 70)).heap.size := by simp
 have HF : Hid (V.xo a = (V.jj a.name && (decide (a.rs = a.sch) && (decide (1 ≤ a.its.length) && V.okR a.rs a.its)))) := zpa rfl
 clear hm hv hs hl hn hb
 unfold affV
 go_enter Tryz.func117, Tryz.ntmps117
 go_wp2_with fail
 generalize w.alloc (.cells #[.int .i64 a.sch, .string ⟨a.name.toArray⟩, .int .i64 a.rs, .slice ua a.its.length uc] 70) = w0 at *
 refine (zkp ⟨a.name.toArray⟩ w0 HM.out HN.out).mono ?_
 rintro e w1 ⟨rfl, hb1⟩
 rw [zaz]
 have HB1 := zpb HB hb1
 have HM1 := zpa (HM.out.below hb1)
 have HV1 := zpa (HV.out.below hb1)
 replace c0 := zg hb1 c0
 replace c2 := zg hb1 c2
 replace c3 := zg hb1 c3
 clear hb1 c1 HB HM HV
 rcases hp : V.jj a.name with _ | _
 ·have HR : Hid (V.xo a = false) := zpa (by rw [HF.out, hp]; rfl)
  clear hp
  exact zrk
 ·by_cases hrs : a.rs = a.sch
  ·have hb2 : (a.rs == a.sch) = true := by simpa using hrs
   by_cases hln : 1 ≤ a.its.length
   ·have hi : (1 : Int) ≤ (a.its.length : Int) := by omega
    have HR : Hid (V.xo a = V.okR a.rs a.its) := zpa (by rw [HF.out, hp, decide_eq_true hrs, decide_eq_true hln]; rfl)
    clear hp hln
    rw [← hrs] at c0
    clear hrs hb2
    go_wp2_with fail
    refine (zdv a.rs (.slice ua a.its.length uc) a.its w1 HM1.out HV1.out HS.out HL.out).mono ?_
    rintro e w2 ⟨rfl, hb3⟩
    have HB3 := zpb HB1 hb3
    clear hb3
    go_wp2
    go_ret
    exact ⟨zf HR.out.symm, HB3.out⟩
   ·have hi : ¬ (1 : Int) ≤ (a.its.length : Int) := by omega
    have HR : Hid (V.xo a = false) := zpa (by rw [HF.out, decide_eq_false hln]; simp)
    clear hp hln
    rw [← hrs] at c0
    clear hrs hb2
    exact zrk
  ·have hb2 : (a.rs == a.sch) = false := by rw [zpe]; exact hrs
   have HR : Hid (V.xo a = false) := zpa (by rw [HF.out, decide_eq_false hrs]; simp)
   clear hp
   exact zrk
theorem zi1 (n r : Int) (l : List V.Itv) (ua : Option Addr) (uc : Nat) (w : World) (hm : zm w) (hv : Itvs w (.slice ua l.length uc) l) (hs : Lens l) (hl : l.length ≤ maxLen) :
  Calls Tryz.prog 94 #[.int .i64 n, setV r (.slice ua l.length uc)] w fun e w' => e = .returned (.bool (V.zbi n r l)) /\ Below w.heap.size w w' := by
 have hb : Below w.heap.size w (w.alloc (.cells #[.int .i64 r, .slice ua l.length uc] 68)) := (zpd _ w).alloc (zpc _) _
 have c0 : (w.alloc (.cells #[.int .i64 r, .slice ua l.length uc] 68)).cell? ⟨w.heap.size, 0, none⟩ = some (.int .i64 r) := by rw [World.cell?_alloc_new]; rfl
 have c1 : (w.alloc (.cells #[.int .i64 r, .slice ua l.length uc] 68)).cell? ⟨w.heap.size, 1, none⟩ = some (.slice ua l.length uc) := by rw [World.cell?_alloc_new]; rfl
 have HM := zpa (hm.below hb)
 have HV := zpa (hv.below hb)
 have HS := zpa hs
 have HL := zpa hl
 have HB := zpa hb
 have HF : Hid (V.zbi n r l = (decide (r = n) && (decide (1 ≤ l.length) && V.okR r l))) := zpa rfl
 clear hm hv hs hl hb
 unfold setV
 go_enter Tryz.func94, Tryz.ntmps94
 go_wp2_with fail
 generalize w.alloc (.cells #[.int .i64 r, .slice ua l.length uc] 68) = w0 at *
 refine (zde r (.slice ua l.length uc) l w0 HM.out HV.out HS.out HL.out).mono ?_
 rintro e w1 ⟨rfl, hb1⟩
 have HB1 := zpb HB hb1
 replace c0 := zg hb1 c0
 replace c1 := zg hb1 c1
 clear hb1 HB HM HV
 rcases hp : V.okR r l with _ | _
 ·have HR : Hid (V.zbi n r l = false) := zpa (by rw [HF.out, hp]; simp)
  clear hp
  exact zrk
 ·by_cases hrs : r = n
  ·subst hrs
   by_cases hln : 1 ≤ l.length
   ·have hi : (0 : Int) < (l.length : Int) := by omega
    have HR : Hid (V.zbi r r l = true) := zpa (by rw [HF.out, hp, decide_eq_true hln]; simp)
    clear hp
    go_wp2
    go_ret
    exact ⟨zf (by rw [HR.out]; first | rfl | exact decide_eq_true (by omega)), HB1.out⟩
   ·have hi : ¬ (0 : Int) < (l.length : Int) := by omega
    have HR : Hid (V.zbi r r l = false) := zpa (by rw [HF.out, decide_eq_false hln]; simp)
    clear hp
    go_wp2
    go_ret
    exact ⟨zf (by rw [HR.out]; first | rfl | exact decide_eq_false (by omega)), HB1.out⟩
  ·have hb2 : (r == n) = false := by rw [zpe]; exact hrs
   have HR : Hid (V.zbi n r l = false) := zpa (by rw [HF.out, decide_eq_false hrs]; simp)
   clear hp
   exact zrk
end Go.Proofs.YtbikeahmldobkaaGreatDoor
