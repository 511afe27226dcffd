/-
  Lemmas for the law.
-/
import Derived.Test.YtnhfaincdabdkaaGreatDoorC37x19
import Derived.Test.YtnhfaincdabdkaaGreatDoorC37x10
import Derived.Test.YtnhfaincdabdkaaGreatDoorC37x20
import Derived.Test.YtnhfaincdabdkaaGreatDoorC37x31
import Derived.Test.YtnhfaincdabdkaaGreatDoorC37x21
import Derived.Test.YtnhfaincdabdkaaGreatDoorC37x32
set_option linter.all false
set_option maxRecDepth 100000
set_option maxHeartbeats 1600000
namespace Go.Proofs.YtnhfaincdabdkaaGreatDoor
open Go.RowKit
def affV (a : V.Aff) (u : Value) : Value := .agg #[.int .i64 a.sch, .string ⟨a.name.toArray⟩, .int .i64 a.rs, u]
def pkgV (n : Int) (s : V.Bs) : Value := .agg #[.int .i64 n, .string ⟨s.toArray⟩]
theorem two_ints (w : World) (a b : Int) (t : TypeId) : ∀ j, j < [a, b].length -> (w.alloc (.cells #[.int .i64 a, .int .i64 b] t)).cell? ⟨w.heap.size, j, none⟩ = some (.int .i64 ([a, b].getD j 0)) := by
 exact zxa
theorem zsq (w : World) (a b : Int) (t : TypeId) : ∀ j, j < [a, b].length -> (w.alloc (.cells #[.int .i64 a, .int .i64 b] t)).drew.cell? ⟨w.heap.size, j, none⟩ = some (.int .i64 ([a, b].getD j 0)) := fun j hj => by
 rw [World.cell?_drew]; exact two_ints w a b t j hj
theorem ziv {w : World} (o1 o2 : Obj) : Below w.heap.size w ((w.alloc o1).alloc o2) /\ (∀ k, ((w.alloc o1).alloc o2).cell? ⟨w.heap.size, k, none⟩ = (w.alloc o1).cell? ⟨w.heap.size, k, none⟩) /\ (∀ k, ((w.alloc o1).alloc o2).cell? ⟨w.heap.size + 1, k, none⟩ = ((w.alloc o1).alloc o2).cell? ⟨(w.alloc o1).heap.size, k, none⟩) := by
 refine ⟨((ztb _ w).alloc (zta _) _).alloc (by simp) _, fun k => ?_, fun k => by rw [World.size_alloc]⟩
 exact ((ztb _ (w.alloc o1)).alloc (zta _) o2).cell (p := ⟨w.heap.size, k, none⟩) (by show w.heap.size < _; simp)
theorem zii (a b : V.Aff) (ua va : Option Addr) (un uc vn vc : Nat) (w : World) :
  Calls Tryz.prog 70 #[affV a (.slice ua un uc), affV b (.slice va vn vc)] w fun e w' => e = .returned (.int .i64 (V.affC a b)) /\ Below w.heap.size w w' := by
 obtain ⟨hb, h0, h1⟩ := ziv (w := w) (.cells #[.int .i64 a.sch, .string ⟨a.name.toArray⟩, .int .i64 a.rs, .slice ua un uc] 50) (.cells #[.int .i64 b.sch, .string ⟨b.name.toArray⟩, .int .i64 b.rs, .slice va vn vc] 50)
 have HB := zs8 hb
 have c0 := (h0 0).trans (World.cell?_alloc_new ..)
 have c1 := (h0 1).trans (World.cell?_alloc_new ..)
 have d0 := (h1 0).trans (World.cell?_alloc_new ..)
 have d1 := (h1 1).trans (World.cell?_alloc_new ..)
 simp only [List.getElem?_toArray, List.getElem?_cons_zero, List.getElem?_cons_succ] at c0 c1 d0 d1
 clear hb h0 h1
 have HF : Hid (V.affC a b = V.orI [Lib.compareInt a.sch b.sch, Lib.compareBytes a.name b.name]) := zs8 rfl
 unfold affV
 go_enter Tryz.func70, Tryz.ntmps70
 go_wp2_with fail
 generalize (w.alloc (.cells #[.int .i64 a.sch, .string ⟨a.name.toArray⟩, .int .i64 a.rs, .slice ua un uc] 50)).alloc (.cells #[.int .i64 b.sch, .string ⟨b.name.toArray⟩, .int .i64 b.rs, .slice va vn vc] 50) = w0 at *
 refine wp_region_held_drew (S := (fun W' => W'.cell? ⟨w.heap.size, 0, none⟩ = some (.int .i64 a.sch) /\ W'.cell? ⟨w.heap.size, 1, none⟩ = some (.string ⟨a.name.toArray⟩) /\ W'.cell? ⟨w.heap.size + 1, 0, none⟩ = some (.int .i64 b.sch) /\ W'.cell? ⟨w.heap.size + 1, 1, none⟩ = some (.string ⟨b.name.toArray⟩))) (by kernel_rfl) (by (try dsimp only); exact ⟨zb (ztb _ _).drew c0, zb (ztb _ _).drew c1, zb (ztb _ _).drew d0, zb (ztb _ _).drew d1⟩) (fun hHeld => ?_)
 refine tk 0 ?_
 refine tk 1 ?_
 refine tk 2 ?_
 refine tk 3 ?_
 refine tk 5 ?_
 refine tk 6 ?_
 refine tk 7 ?_
 refine tk 8 ?_
 refine rd 4 fun K hK => ?_
 go_simp
 refine (Tryz.cmp_Compare_int _ _ _).mono ?_
 rintro e w' ⟨rfl, rfl⟩
 try dsimp only
 refine hK.out _ _ ?_ (fun hHeld => nx ?_)
 ·(try dsimp only); exact hHeld
 clear hK K
 refine rd 9 fun K hK => ?_
 go_simp
 refine (zpe _ _ _).mono ?_
 rintro e w' ⟨rfl, rfl⟩
 try dsimp only
 try rw [ym, ym]
 refine hK.out _ _ ?_ (fun hHeld => nx ?_)
 ·(try dsimp only); exact hHeld
 clear hK K
 refine rd 10 fun K hK => ?_
 go_simp
 refine hK.out _ _ ?_ (fun hHeld => nx ?_)
 ·(try dsimp only); exact ⟨zb ((ztb _ _).alloc (zta _) _) hHeld.1, zb ((ztb _ _).alloc (zta _) _) hHeld.2.1, zb ((ztb _ _).alloc (zta _) _) hHeld.2.2.1, zb ((ztb _ _).alloc (zta _) _) hHeld.2.2.2⟩
 clear hK K
 refine rd 11 fun K hK => ?_
 go_simp
 refine (zlu _ [Lib.compareInt a.sch b.sch, Lib.compareBytes a.name b.name] _ (by simp) (zsq _ _ _ _)).mono ?_
 rintro e w' ⟨rfl, rfl⟩
 try dsimp only
 refine hK.out _ _ ?_ (fun hHeld => nx ?_)
 ·(try dsimp only); exact hHeld
 clear hK K
 refine tk 12 ?_
 refine wpAnyH_done (by kernel_rfl) ?_ _
 have hb9 : Below w0.heap.size w0 (w0.alloc (.cells #[.int .i64 (Lib.compareInt a.sch b.sch), .int .i64 (Lib.compareBytes a.name b.name)] 3)).drew := ((ztb _ w0).alloc (zta _) _).drew
 have HB9 := zs9 HB hb9
 clear hb9 hHeld
 go_wp2
 go_ret
 exact ⟨zj HF.out.symm, HB9.out⟩
theorem zv8 {P : Prop} (h : P := by
 go_enter Tryz.func75, Tryz.ntmps75
 go_wp2
 go_ret
 exact ⟨zc HF.out.symm, HB.out⟩) : P := h
theorem znc (n m : Int) (s t : V.Bs) (w : World) :
  Calls Tryz.prog 75 #[pkgV n s, pkgV m t] w fun e w' => e = .returned (.bool (decide (V.orI [Lib.compareInt n m, Lib.compareBytes s t] < 0))) /\ Below w.heap.size w w' := by
 have HB := zs8 (ziv (w := w) (.cells #[.int .i64 n, .string ⟨s.toArray⟩] 79) (.cells #[.int .i64 m, .string ⟨t.toArray⟩] 79)).1
 have hbl : Op.bytesLess (⟨s.toArray⟩ : ByteArray).toList (⟨t.toArray⟩ : ByteArray).toList = decide (Lib.compareBytes s t < 0) := by rw [Lib.toList_data, Lib.toList_data]; exact ui _ _
 have hbl2 : Op.bytesLess s t = decide (Lib.compareBytes s t < 0) := ui _ _
 unfold pkgV
 by_cases h1 : n < m
 ·have HF : Hid (decide (V.orI [Lib.compareInt n m, Lib.compareBytes s t] < 0) = true) := zs8 (by
    have e : Lib.compareInt n m = -1 := by unfold Lib.compareInt; rw [if_pos h1]
    rw [e]; rfl)
  exact zv8
 ·by_cases h2 : n = m
  ·subst h2
   have HF : Hid (decide (V.orI [Lib.compareInt n n, Lib.compareBytes s t] < 0) = decide (Lib.compareBytes s t < 0)) := zs8 (by
     have e : Lib.compareInt n n = 0 := by unfold Lib.compareInt; rw [if_neg (by omega), if_neg (by omega)]
     rw [e]
     unfold V.orI V.orI V.orI V.cor
     simp
     split <;> simp_all)
   rw [HF.out]
   generalize decide (Lib.compareBytes s t < 0) = r at *
   go_enter Tryz.func75, Tryz.ntmps75
   go_wp2
   go_ret
   exact ⟨zc rfl, HB.out⟩
  ·have HF : Hid (decide (V.orI [Lib.compareInt n m, Lib.compareBytes s t] < 0) = false) := zs8 (by
     have e : Lib.compareInt n m = 1 := by unfold Lib.compareInt; rw [if_neg h1, if_pos (by omega)]
     rw [e]; rfl)
   have h3 : (n == m) = false := by rw [ztc]; exact h2
   exact zv8
theorem zas (a : V.Aff) (u : Value) (w : World) : Below w.heap.size w (w.alloc (.cells #[.int .i64 a.sch, .string ⟨a.name.toArray⟩, .int .i64 a.rs, u] 50)) /\ (w.alloc (.cells #[.int .i64 a.sch, .string ⟨a.name.toArray⟩, .int .i64 a.rs, u] 50)).cell? ⟨w.heap.size, 0, none⟩ = some (.int .i64 a.sch) /\ (w.alloc (.cells #[.int .i64 a.sch, .string ⟨a.name.toArray⟩, .int .i64 a.rs, u] 50)).cell? ⟨w.heap.size, 1, none⟩ = some (.string ⟨a.name.toArray⟩) /\ (w.alloc (.cells #[.int .i64 a.sch, .string ⟨a.name.toArray⟩, .int .i64 a.rs, u] 50)).cell? ⟨w.heap.size, 2, none⟩ = some (.int .i64 a.rs) /\ (w.alloc (.cells #[.int .i64 a.sch, .string ⟨a.name.toArray⟩, .int .i64 a.rs, u] 50)).cell? ⟨w.heap.size, 3, none⟩ = some u := by
 refine ⟨(ztb _ w).alloc (zta _) _, ?_, ?_, ?_, ?_⟩ <;> (rw [World.cell?_alloc_new]; rfl)
theorem zw3 {P : Prop} (h : P := by
 go_wp2
 go_ret
 exact ⟨zc HR.out.symm, HB1.out⟩) : P := h
theorem zjq (a : V.Aff) (ua : Option Addr) (uc : Nat) (w : World) (hm : zk w) (hv : Itvs w (.slice ua a.its.length uc) a.its) (hs : Lens a.its) (hn : a.name.length ≤ maxLen) (hl : a.its.length ≤ maxLen) :
  Calls Tryz.prog 71 #[affV a (.slice ua a.its.length uc)] w fun e w' => e = .returned (.bool (V.kc a)) /\ Below w.heap.size w w' := by
 obtain ⟨hb, c0, c1, c2, c3⟩ := zas a (.slice ua a.its.length uc) w
 have HM := zs8 (hm.below hb)
 have HV := zs8 (hv.below hb)
 have HS := zs8 hs
 have HL := zs8 hl
 have HN : Hid ((⟨a.name.toArray⟩ : ByteArray).size ≤ maxLen) := zs8 (by rw [ul]; exact hn)
 have HB := zs8 hb
 have hz : w.heap.size < (w.alloc (.cells #[.int .i64 a.sch, .string ⟨a.name.toArray⟩, .int .i64 a.rs, .slice ua a.its.length uc] 50)).heap.size := by simp
 have HF : Hid (V.kc a = (V.kl a.name && (decide (a.rs = a.sch) && (decide (1 ≤ a.its.length) && V.okR a.rs a.its)))) := zs8 rfl
 clear hm hv hs hl hn hb
 unfold affV
 go_enter Tryz.func71, Tryz.ntmps71
 go_wp2_with fail
 generalize w.alloc (.cells #[.int .i64 a.sch, .string ⟨a.name.toArray⟩, .int .i64 a.rs, .slice ua a.its.length uc] 50) = w0 at *
 refine (path_any ⟨a.name.toArray⟩ w0 HM.out HN.out).mono ?_
 rintro e w1 ⟨rfl, hb1⟩
 rw [ym]
 have HB1 := zs9 HB hb1
 have HM1 := zs8 (HM.out.below hb1)
 have HV1 := zs8 (HV.out.below hb1)
 replace c0 := zb hb1 c0
 replace c2 := zb hb1 c2
 replace c3 := zb hb1 c3
 clear hb1 c1 HB HM HV
 rcases hp : V.kl a.name with _ | _
 ·have HR : Hid (V.kc a = false) := zs8 (by rw [HF.out, hp]; rfl)
  clear hp
  exact zw3
 ·by_cases hrs : a.rs = a.sch
  ·have hb2 : (a.rs == a.sch) = true := by simpa using hrs
   by_cases hln : 1 ≤ a.its.length
   ·have hi : (1 : Int) ≤ (a.its.length : Int) := by omega
    have HR : Hid (V.kc a = V.okR a.rs a.its) := zs8 (by rw [HF.out, hp, decide_eq_true hrs, decide_eq_true hln]; rfl)
    clear hp hln
    rw [← hrs] at c0
    clear hrs hb2
    go_wp2_with fail
    refine (vl a.rs (.slice ua a.its.length uc) a.its w1 HM1.out HV1.out HS.out HL.out).mono ?_
    rintro e w2 ⟨rfl, hb3⟩
    have HB3 := zs9 HB1 hb3
    clear hb3
    go_wp2
    go_ret
    exact ⟨zc HR.out.symm, HB3.out⟩
   ·have hi : ¬ (1 : Int) ≤ (a.its.length : Int) := by omega
    have HR : Hid (V.kc a = false) := zs8 (by rw [HF.out, decide_eq_false hln]; simp)
    clear hp hln
    rw [← hrs] at c0
    clear hrs hb2
    exact zw3
  ·have hb2 : (a.rs == a.sch) = false := by rw [ztc]; exact hrs
   have HR : Hid (V.kc a = false) := zs8 (by rw [HF.out, decide_eq_false hrs]; simp)
   clear hp
   exact zw3
theorem zlv (n r : Int) (l : List V.Itv) (ua : Option Addr) (uc : Nat) (w : World) (hm : zk w) (hv : Itvs w (.slice ua l.length uc) l) (hs : Lens l) (hl : l.length ≤ maxLen) :
  Calls Tryz.prog 74 #[.int .i64 n, setV r (.slice ua l.length uc)] w fun e w' => e = .returned (.bool (V.zb0 n r l)) /\ Below w.heap.size w w' := by
 have hb : Below w.heap.size w (w.alloc (.cells #[.int .i64 r, .slice ua l.length uc] 48)) := (ztb _ w).alloc (zta _) _
 have c0 : (w.alloc (.cells #[.int .i64 r, .slice ua l.length uc] 48)).cell? ⟨w.heap.size, 0, none⟩ = some (.int .i64 r) := by rw [World.cell?_alloc_new]; rfl
 have c1 : (w.alloc (.cells #[.int .i64 r, .slice ua l.length uc] 48)).cell? ⟨w.heap.size, 1, none⟩ = some (.slice ua l.length uc) := by rw [World.cell?_alloc_new]; rfl
 have HM := zs8 (hm.below hb)
 have HV := zs8 (hv.below hb)
 have HS := zs8 hs
 have HL := zs8 hl
 have HB := zs8 hb
 have HF : Hid (V.zb0 n r l = (decide (r = n) && (decide (1 ≤ l.length) && V.okR r l))) := zs8 rfl
 clear hm hv hs hl hb
 unfold setV
 go_enter Tryz.func74, Tryz.ntmps74
 go_wp2_with fail
 generalize w.alloc (.cells #[.int .i64 r, .slice ua l.length uc] 48) = w0 at *
 refine (zfm r (.slice ua l.length uc) l w0 HM.out HV.out HS.out HL.out).mono ?_
 rintro e w1 ⟨rfl, hb1⟩
 have HB1 := zs9 HB hb1
 replace c0 := zb hb1 c0
 replace c1 := zb hb1 c1
 clear hb1 HB HM HV
 rcases hp : V.okR r l with _ | _
 ·have HR : Hid (V.zb0 n r l = false) := zs8 (by rw [HF.out, hp]; simp)
  clear hp
  exact zw3
 ·by_cases hrs : r = n
  ·subst hrs
   by_cases hln : 1 ≤ l.length
   ·have hi : (0 : Int) < (l.length : Int) := by omega
    have HR : Hid (V.zb0 r r l = true) := zs8 (by rw [HF.out, hp, decide_eq_true hln]; simp)
    clear hp
    go_wp2
    go_ret
    exact ⟨zc (by rw [HR.out]; first | rfl | exact decide_eq_true (by omega)), HB1.out⟩
   ·have hi : ¬ (0 : Int) < (l.length : Int) := by omega
    have HR : Hid (V.zb0 r r l = false) := zs8 (by rw [HF.out, decide_eq_false hln]; simp)
    clear hp
    go_wp2
    go_ret
    exact ⟨zc (by rw [HR.out]; first | rfl | exact decide_eq_false (by omega)), HB1.out⟩
  ·have hb2 : (r == n) = false := by rw [ztc]; exact hrs
   have HR : Hid (V.zb0 n r l = false) := zs8 (by rw [HF.out, decide_eq_false hrs]; simp)
   clear hp
   exact zw3
end Go.Proofs.YtnhfaincdabdkaaGreatDoor
