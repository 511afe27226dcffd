/-
  Lemmas for the law.
-/
import Derived.Test.YtnhfaincdabdkaaGreatDoorC37x28
import Derived.Test.YtnhfaincdabdkaaGreatDoorC37x31
import Derived.Test.YtnhfaincdabdkaaGreatDoorC37x34
import Derived.Test.YtnhfaincdabdkaaGreatDoorC37x38
import Derived.Test.YtnhfaincdabdkaaGreatDoorC37x32
import Derived.Test.YtnhfaincdabdkaaGreatDoorC37x21
set_option linter.all false
set_option maxRecDepth 100000
set_option maxHeartbeats 6400000
namespace Go.Proofs.YtnhfaincdabdkaaGreatDoor
open Go.RowKit
def txtB (x : V.Itv) : ByteArray := ⟨(V.zr x).toArray⟩
def zqu (r : V.Bs × Int) (w : World) (e : Ending) (w' : World) : Prop := e = .returned (.tuple #[.string ⟨r.1.toArray⟩, .int .i64 r.2]) /\ Below w.heap.size w w'
theorem znm {l : List V.Itv} {k : Nat} (h : k < l.length) : (l.take (k + 1)).map txtB = (l.take k).map txtB ++ [txtB l[k]] := by
 rw [List.take_succ_eq_append_getElem h, List.map_append]
 rfl
theorem zev {l : List V.Itv} (h : l ≠ []) : Lib.join ((l.map txtB).map (·.data.toList)) V.orT = V.kn l := by
 unfold V.kn
 rw [if_neg (by simpa using h), List.map_map]
 rfl
theorem zla {n : Int} {l : List V.Itv} (h : V.Ok n l) (h0 : l ≠ []) : (V.kn l).length ≤ 10000 := by
 rcases l with _ | ⟨x, r⟩
 ·exact absurd rfl h0
 ·have hle : ∀ y ∈ V.zr x :: r.map V.zr, y.length ≤ 133 := by
   intro y hy
   rw [← List.map_cons (f := V.zr), List.mem_map] at hy
   obtain ⟨z, hz, rfl⟩ := hy
   exact (V.ze3 (V.zmk h hz)).len
  have h1 := V.zl0 hle
  have h2 := h.len
  rw [List.length_map] at h1
  rw [List.length_cons] at h2
  show (Lib.join (V.zr x :: r.map V.zr) V.orT).length ≤ _
  omega
theorem zhv {w W1 W2 : World} {N : Nat} {v : Value} {l : List ByteArray} {o : Obj} (h1 : Below N w W1) (hN : N ≤ w.heap.size) (hr : SRow W1 N v l) (h2 : (W1.alloc o).grownBy W2 v.ownBlock) : Below N w W2 :=
 (h1.alloc (Nat.le_trans hN h1.size) o).trans ⟨h2.os, h2.tape, h2.output, h2.size, fun k hk => h2.block k (by have := h1.size; simp; omega) (fun e => by have := GRow.block hr k e.symm; omega)⟩
theorem ztz {P : Prop} (h : P := by
 clear hb2 h0 h1 h2 h3
 go_wp2_with (first | (refine zh qo (by decide) qn qm (by decide) rfl _ _ 61 rfl Tryz.underlying61 w1.heap.size _ L rfl (GRow.below HR0.out (HB2.out.alloc HB2.out.size _)) w2.heap.size (txtB x) rfl (fun j u hu => by rw [World.cell?_alloc_new]; simpa [baE, txtB] using hu) (by have := HLK.out; omega) (by have := HB2.out.size; have := HBX.out.size; simp; omega) ?_; intro v2 W2 hr2 hg2) | fail)
 have HR2 : Hid (SRow W2 w1.heap.size v2 (L ++ [txtB x])) := zs8 hr2
 have HB3 := zs8 (zhv (HBX.out.trans (HB2.out.mono HBX.out.size)) (zta _) (GRow.below HR0.out HB2.out) hg2)
 clear hr2 hg2
 go_wp2_with fail
 go_roundw
 case rel => exact ⟨k + 1, by omega, by go_num, by rw [HST.out]; exact HR2.out, HB3.out⟩
 case measure => simp [intOf]; omega) : P := h
theorem zt1 {P : Prop} (h : P := by
 obtain rfl : k = l.length := by omega
 have HRA : Hid (SRow wr w1.heap.size _ (l.map txtB)) := zs8 (by have := HR0.out; rw [List.take_length] at this; exact this)
 go_wp2_with fail
 refine (qp wr w1.heap.size _ (l.map txtB) ⟨#[32, 124, 124, 32]⟩ HRA.out (by simpa using HNE.out) (by simp; omega) (by rw [show (ByteArray.mk #[32, 124, 124, 32]).data.toList = V.orT from rfl, zev HNE.out]; have := zla HOK.out HNE.out; omega)).mono ?_
 rintro e w3 ⟨rfl, hb3⟩
 have HB3 := zs9 HBF hb3
 have HT : Hid (Lib.join ((l.map txtB).map (·.data.toList)) (ByteArray.mk #[32, 124, 124, 32]).data.toList = V.kn l) := zs8 (zev HNE.out)
 clear hb3
 rw [HT.out]
 go_wp2
 go_ret2
 exact (by rw [HF2.out]; exact ⟨rfl, HB3.out⟩)) : P := h
theorem zvl {P : Prop} (h : P := by
 have hq : ((l.length : Int) == 0) = true := by rw [h0]; rfl
 have HR : Hid (V.ky n l = (V.zbv, 0)) := zs8 (by rw [HF2.out, h0]; rfl)
 clear h0
 go_wp2
 go_ret2
 exact (by rw [HR.out]; exact ⟨rfl, HB1.out⟩)) : P := h
theorem zwk {P : Prop} (h : P := by
 have HR : Hid (V.ky n l = ([], 1)) := zs8 (by rw [HF.out, hok]; rfl)
 clear hok
 go_wp2
 go_ret2
 exact (by rw [HR.out]; exact ⟨rfl, HB1.out⟩)) : P := h
theorem zlp (n : Int) (v : Value) (l : List V.Itv) (w : World) (hm : zk w) (hv : Itvs w v l) (hs : Lens l) (hl : l.length ≤ maxLen) :
  Calls Tryz.prog 64 #[setV n v] w (zqu (V.ky n l) w) := by
 have HV := zs8 hv
 obtain ⟨va, vc, rfl⟩ := hv.slice
 have HL := zs8 hl
 unfold maxLen at hl
 have HS := zs8 hs
 have HF : Hid (V.ky n l = if V.okR n l then (V.kn l, 0) else ([], 1)) := zs8 rfl
 have hb0 : Below w.heap.size w (w.alloc (.cells #[.int .i64 n, .slice va l.length vc] 48)) := (ztb _ w).alloc (zta _) _
 have HB0 := zs8 hb0
 have HM := zs8 (hm.below hb0)
 have c0 : (w.alloc (.cells #[.int .i64 n, .slice va l.length vc] 48)).cell? ⟨w.heap.size, 0, none⟩ = some (.int .i64 n) := by simp [zd]
 have c1 : (w.alloc (.cells #[.int .i64 n, .slice va l.length vc] 48)).cell? ⟨w.heap.size, 1, none⟩ = some (.slice va l.length vc) := by simp [zd]
 have hz0 : w.heap.size < (w.alloc (.cells #[.int .i64 n, .slice va l.length vc] 48)).heap.size := by simp
 clear hv hs hb0 hm
 unfold setV
 go_enter Tryz.func64, Tryz.ntmps64
 go_wp2_with fail
 generalize w.alloc (.cells #[.int .i64 n, .slice va l.length vc] 48) = w0 at *
 refine (vl n (.slice va l.length vc) l w0 HM.out (HV.out.below HB0.out) HS.out HL.out).mono ?_
 rintro e w1 ⟨rfl, hb1⟩
 have HB1 := zs9 HB0 hb1
 have d0 := za hb1 c0
 have d1 := za hb1 c1
 have hz1 : w.heap.size < w1.heap.size := Nat.lt_of_lt_of_le hz0 hb1.size
 clear hb1 c0 c1 hz0 HM
 rcases hok : V.okR n l with _ | _
 ·exact zwk
 ·have HOK := zs8 (V.zbx hok)
  have HF2 : Hid (V.ky n l = (V.kn l, 0)) := zs8 (by rw [HF.out, hok]; rfl)
  clear hok
  by_cases h0 : l = []
  ·exact zvl
  ·have HNE := zs8 h0
   have hq : ((l.length : Int) == 0) = false := by rw [ztc]; have := List.length_pos_iff.2 h0; omega
   clear h0
   have h32 : l.length ≤ 32 := HOK.out.len
   have HD := zs8 d1
   go_wp2_with fail
   clear d0 d1
   go_loopw [4, 17] (fun v iv wx => ∃ k : Nat, k ≤ l.length /\ iv = .int .i64 k /\ SRow wx w1.heap.size v ((l.take k).map txtB) /\ Below w1.heap.size w1 wx) (fun _ iv _ => l.length - (intOf iv).toNat)
   case atStart => exact ⟨0, Nat.zero_le _, rfl, GRow.nil _ _, ztb _ _⟩
   case round =>
    obtain ⟨k, hk, rfl, hr, hbx⟩ := hrel
    have HR0 := zs8 hr
    have HBX := zs8 hbx
    have HBF := zs9 HB1 hbx
    have e1 := za hbx HD.out
    clear hr hbx
    by_cases hlt : k < l.length
    ·obtain ⟨b, off, rfl, hb0, hx⟩ := HV.out.at k hlt
     obtain ⟨h0, h1, h2, h3⟩ := hx.below hb0 HBF.out
     have hi1 : (0 : Int) ≤ (k : Int) := by omega
     have hi2 : (k : Int) < (l.length : Int) := by omega
     have HBK : Hid (V.zl n l[k] = true) := zs8 (HOK.out.bnd _ (List.getElem_mem hlt))
     have HST := zs8 (znm hlt)
     have HLK : Hid (((l.take k).map txtB).length ≤ 32) := zs8 (by rw [List.length_map, List.length_take]; omega)
     clear hx
     generalize l[k] = x at *
     generalize (l.take k).map txtB = L at *
     have HXA := zs8 ((ztb wr.heap.size wr).alloc (zta _) (.cells #[.string ⟨x.lo.toArray⟩, .int .i64 x.lk, .string ⟨x.hi.toArray⟩, .int .i64 x.hk] 120))
     go_wp2_with fail
     refine (zpq n x _ HBK.out).mono ?_
     rintro e w2 ⟨rfl, hb2⟩
     have HB2 := zs9 HXA hb2
     exact ztz
    ·exact zt1
theorem zlb (n : Int) (v : Value) (l : List V.Itv) (w : World) (hm : zk w) (hv : Itvs w v l) (hs : Lens l) (hl : l.length ≤ maxLen) :
  Calls Tryz.prog 67 #[setV n v] w (zqu (V.ky n l) w) := by
 have HV := zs8 hv
 obtain ⟨va, vc, rfl⟩ := hv.slice
 have HL := zs8 hl
 unfold maxLen at hl
 have HS := zs8 hs
 have HF : Hid (V.ky n l = if V.okR n l then (V.kn l, 0) else ([], 1)) := zs8 rfl
 have hb0 : Below w.heap.size w (w.alloc (.cells #[.int .i64 n, .slice va l.length vc] 48)) := (ztb _ w).alloc (zta _) _
 have HB0 := zs8 hb0
 have HM := zs8 (hm.below hb0)
 have c0 : (w.alloc (.cells #[.int .i64 n, .slice va l.length vc] 48)).cell? ⟨w.heap.size, 0, none⟩ = some (.int .i64 n) := by simp [zd]
 have c1 : (w.alloc (.cells #[.int .i64 n, .slice va l.length vc] 48)).cell? ⟨w.heap.size, 1, none⟩ = some (.slice va l.length vc) := by simp [zd]
 have hz0 : w.heap.size < (w.alloc (.cells #[.int .i64 n, .slice va l.length vc] 48)).heap.size := by simp
 clear hv hs hb0 hm
 unfold setV
 go_enter Tryz.func67, Tryz.ntmps67
 go_wp2_with fail
 generalize w.alloc (.cells #[.int .i64 n, .slice va l.length vc] 48) = w0 at *
 refine (zfm n (.slice va l.length vc) l w0 HM.out (HV.out.below HB0.out) HS.out HL.out).mono ?_
 rintro e w1 ⟨rfl, hb1⟩
 have HB1 := zs9 HB0 hb1
 have d0 := za hb1 c0
 have d1 := za hb1 c1
 have hz1 : w.heap.size < w1.heap.size := Nat.lt_of_lt_of_le hz0 hb1.size
 clear hb1 c0 c1 hz0 HM
 rcases hok : V.okR n l with _ | _
 ·exact zwk
 ·have HOK := zs8 (V.zbx hok)
  have HF2 : Hid (V.ky n l = (V.kn l, 0)) := zs8 (by rw [HF.out, hok]; rfl)
  clear hok
  by_cases h0 : l = []
  ·exact zvl
  ·have HNE := zs8 h0
   have hq : ((l.length : Int) == 0) = false := by rw [ztc]; have := List.length_pos_iff.2 h0; omega
   clear h0
   have h32 : l.length ≤ 32 := HOK.out.len
   have HD := zs8 d1
   go_wp2_with fail
   clear d0 d1
   go_loopw [4, 5] (fun v iv wx => ∃ k : Nat, k ≤ l.length /\ iv = .int .i64 k /\ SRow wx w1.heap.size v ((l.take k).map txtB) /\ Below w1.heap.size w1 wx) (fun _ iv _ => l.length - (intOf iv).toNat)
   case atStart => exact ⟨0, Nat.zero_le _, rfl, GRow.nil _ _, ztb _ _⟩
   case round =>
    obtain ⟨k, hk, rfl, hr, hbx⟩ := hrel
    have HR0 := zs8 hr
    have HBX := zs8 hbx
    have HBF := zs9 HB1 hbx
    have e1 := za hbx HD.out
    clear hr hbx
    by_cases hlt : k < l.length
    ·obtain ⟨b, off, rfl, hb0, hx⟩ := HV.out.at k hlt
     obtain ⟨h0, h1, h2, h3⟩ := hx.below hb0 HBF.out
     have hi1 : (0 : Int) ≤ (k : Int) := by omega
     have hi2 : (k : Int) < (l.length : Int) := by omega
     have HBK : Hid (V.zl n l[k] = true) := zs8 (HOK.out.bnd _ (List.getElem_mem hlt))
     have HST := zs8 (znm hlt)
     have HLK : Hid (((l.take k).map txtB).length ≤ 32) := zs8 (by rw [List.length_map, List.length_take]; omega)
     clear hx
     generalize l[k] = x at *
     generalize (l.take k).map txtB = L at *
     have HXA := zs8 ((ztb wr.heap.size wr).alloc (zta _) (.cells #[.string ⟨x.lo.toArray⟩, .int .i64 x.lk, .string ⟨x.hi.toArray⟩, .int .i64 x.hk] 120))
     go_wp2_with fail
     refine (zqb n x wr HBK.out).mono ?_
     rintro e w2 ⟨rfl, hb2⟩
     have HB2 := zs8 hb2
     exact ztz
    ·exact zt1
theorem ws {ops : Array Oper} {o : Oper} {a : Act} {w : World} {K : Act -> World -> Prop} {Q : Exit -> Act -> World -> Prop} {E : Prop} (hgd : o.guard = none) (e1 e2 e3 e4 : Operand) (ho : o.op = .buildSlice 61 4 #[(0, e1), (1, e2), (2, e3), (3, e4)])
  (s1 s2 s3 s4 : V.Bs) (h1 : a.eval e1 = .string ⟨s1.toArray⟩) (h2 : a.eval e2 = .string ⟨s2.toArray⟩) (h3 : a.eval e3 = .string ⟨s3.toArray⟩) (h4 : a.eval e4 = .string ⟨s4.toArray⟩)
  (h : K (a.put o.dst (.slice (some ⟨w.heap.size, 0, none⟩) 4 4)) (w.alloc (.cells (xy [s1, s2, s3, s4]) 9))) : if Region.wanted o (yielded ops a.tmps) = true then Oper.wp Tryz.prog o a w K Q else E := by
 rw [if_pos (by simp [Region.wanted, hgd])]
 obtain ⟨i, hi, hz, hs, hb⟩ := infoS
 refine wp_buildSlice _ 9 4 _ ho (xy [s1, s2, s3, s4]) i _ Tryz.underlying61 hi hz (by rw [hs]; decide) (by rw [hs]; decide) ?_ h
 have := Great.fill_whole (s := 1) (by decide) [Value.string ⟨s1.toArray⟩, Value.string ⟨s2.toArray⟩, Value.string ⟨s3.toArray⟩, Value.string ⟨s4.toArray⟩] ((Array.range (4 * i.size)).map ((Value.string ⟨#[]⟩).cells[· % (Value.string ⟨#[]⟩).cells.size]!)) (fun v hv => by
   simp only [List.mem_cons, List.not_mem_nil, or_false] at hv
   rcases hv with rfl | rfl | rfl | rfl <;> rfl) (by rw [hs]; simp)
 rw [hs] at this ⊢
 simp only [h1, h2, h3, h4, List.map_toArray, List.map_cons, List.map_nil]
 exact this
theorem V.advLines_len (x : V.Adv) (k : Nat) : (V.je x k).length ≤ x.aff.length + 1 := by
 unfold V.je
 rw [List.length_cons, List.length_map, List.length_take]
 omega
theorem V.adv_words {x : V.Adv} (h : V.qa x = true) : ∀ l ∈ V.zx x, l.length = 4 /\ ∀ u ∈ l, u.length ≤ 10000 := by
 have hp := V.ql h
 intro l hl
 unfold V.zx V.je at hl
 rcases List.mem_cons.1 hl with rfl | hl
 ·refine ⟨rfl, fun u hu => ?_⟩
  have h1 := V.name_len hp.id
  have h2 := zgf (n := x.rev.toNat) (by have := hp.rev1; omega)
  have h3 := zgf (n := x.sev.toNat) (by have := hp.sev1; omega)
  simp only [V.kq, List.mem_cons, List.not_mem_nil, or_false] at hu
  rcases hu with rfl | rfl | rfl | rfl
  ·decide
  ·omega
  ·omega
  ·omega
 ·rw [List.take_length] at hl
  obtain ⟨a, ha, rfl⟩ := List.mem_map.1 hl
  obtain ⟨s1, s2, s3, s4⟩ := V.xd (hp.sound ha)
  refine ⟨rfl, fun u hu => ?_⟩
  have h1 := V.zdk s1
  have h2 := V.zci a.sch
  have h3 := zla (V.zbx s4) (fun e => by rw [e] at s3; simp at s3)
  simp only [V.yd, List.mem_cons, List.not_mem_nil, or_false] at hu
  rcases hu with rfl | rfl | rfl | rfl
  ·decide
  ·omega
  ·omega
  ·exact h3
theorem V.adv_sz {x : V.Adv} (h : V.qa x = true) : V.jo (V.zx x) (V.zx x).length ≤ 9000000 := by
 have hl := V.advLines_len x x.aff.length
 have h16 := (V.ql h).len
 have := V.zkx (ls := V.zx x) (M := 4 * 30002) (fun l hm => by
   obtain ⟨h4, hw⟩ := V.adv_words h l hm
   have := V.zpc (x := l) (M := 30002) (fun u hu => by
     have h1 := hw u hu
     have h2 := V.kt u
     omega)
   rw [h4] at this ⊢; exact this) (V.zx x).length (zta _)
 have h17 : (V.zx x).length ≤ 17 := by unfold V.zx; omega
 have := Nat.mul_le_mul_right (4 * 30002) h17
 omega
def EncV (x : V.Adv) (w : World) (e : Ending) (w' : World) : Prop :=
 ((V.encV x).2 = 0 -> ∃ u N W0, e = .returned (.tuple #[u, .int .i64 0]) /\ Buf N u (V.encV x).1 W0 w') /\
 (¬ (V.encV x).2 = 0 -> e = .returned (.tuple #[.slice none 0 0, .int .i64 (V.encV x).2])) /\ Below w.heap.size w w'
open Go.RowKit
theorem zti {P : Prop} (h : P := by
 rintro e wS ⟨rfl, rfl⟩
 try dsimp only
 refine hK.out _ _ ?_ (fun hHeld => nx ?_)
 ·(try dsimp only); exact hHeld
 clear hK K
 refine rd 7 fun K hK => ?_
 refine ws rfl _ _ _ _ rfl V.affW (V.qb a.sch) a.name (V.kn a.its) rfl rfl rfl rfl ?_
 refine hK.out _ _ ?_ (fun hHeld => nx ?_)
 ·(try dsimp only); exact ⟨zb ((ztb _ _).alloc (zta _) _) hHeld.1, zb ((ztb _ _).alloc (zta _) _) hHeld.2⟩
 clear hK K
 refine rd 8 fun K hK => ?_
 have hbC : Below wF.heap.size wF (wF.drew.alloc (.cells (xy [V.affW, V.qb a.sch, a.name, V.kn a.its]) 9)) := ((ztb _ wF).drew).alloc (zta _) _
 refine wj rfl _ rfl ⟨some ⟨wF.heap.size, 0, none⟩, 4, 4⟩ rfl ?_
 refine hK.out _ _ ?_ (fun hHeld => nx ?_)
 ·(try dsimp only); exact ⟨zb ((ztb _ _).alloc (zta _) _) hHeld.1, zb ((ztb _ _).alloc (zta _) _) hHeld.2⟩
 clear hK K
 refine rd 9 fun K hK => ?_
 have hbD := hbC.alloc hbC.size (.cells #[(⟨some ⟨wF.heap.size, 0, none⟩, 4, 4⟩ : Lsl).v] 61)
 have HLZ := zs8 (HRZ.out.later hbD)
 have HUS := zs8 (yj (zdy wF.drew [V.affW, V.qb a.sch, a.name, V.kn a.its]) ((ztb _ _).alloc (zta _) (.cells #[(⟨some ⟨wF.heap.size, 0, none⟩, 4, 4⟩ : Lsl).v] 61)))
 have hszC := hbC.size
 have hszD := hbD.size
 refine zeo zee (by decide) zic zet (by decide) rfl _ _ 64 rfl Tryz.underlying64 (w.heap.size + 1) (.slice oa (V.je x k).length oc) us rfl HLZ.out.row _ ⟨some ⟨wF.heap.size, 0, none⟩, 4, 4⟩ rfl (zk1 _ _) (by rw [HRZ.out.len]; have := V.advLines_len x k; omega) (by omega) (fun v9 w9 hr9 hg9 ho9 => ?_)
 refine hK.out _ _ ?_ (fun hHeld => nx ?_)
 ·(try dsimp only); exact ⟨hg9.cell hHeld.1 (fun e => HXB.out e), hg9.cell hHeld.2 (fun e => HXB.out e)⟩
 clear hK K
 refine tk 10 ?_
 refine wpAnyH_done (by kernel_rfl) ?_ _
 have HN9 := zs8 (HLZ.out.add hr9 hg9 ho9 HUS.out (fun _ c hc => by
   have := HRZ.out.row.lt
   intro e
   have h1 := this c e
   simp [Lsl.v, Value.ownBlock] at hc
   omega))
 have HB9 := zs8 (HBZ.out.trans ((hbD.mono hNz).trans (zq hg9 HLZ.out.row.block (zta _) (by omega))))
 have hs9 : w.heap.size + 1 ≤ w9.heap.size := by have := hg9.size; omega
 have HS9 := zs8 hs9
 clear hr9 hg9 ho9 hHeld hbD hbC hszC hszD hs9 hNz HLZ HUS HRZ HBZ x0 x1
 go_wp2
 go_roundw
 case rel => exact ⟨k + 1, by omega, by go_num, ⟨⟨_, by rw [HST.out]; exact HN9.out⟩, HB9.out, HS9.out⟩⟩
 case measure => simp [intOf]; omega) : P := h
theorem zty {P : Prop} (h : P := by
 intro e w3 he
 have HBE : Hid (Below w.heap.size w w3) := zs8 (HB1.out.trans ((HBR.out.trans (he.2.2.mono hNs)).mono (by omega)))
 by_cases hz : V.encE (V.zx x) = 0
 ·obtain ⟨u, rfl, hbuf⟩ := he.1 hz
  have HE2 : Hid (V.encV x = (V.doc (V.zx x), 0)) := zs8 (by rw [HEV.out, if_pos hz])
  have HBF := zs8 hbuf
  clear he hz hbuf
  go_wp2
  go_ret2
  exact ⟨fun _ => ⟨u, wr.heap.size, wr, rfl, by rw [HE2.out]; exact HBF.out⟩, fun h => absurd (by rw [HE2.out]) h, HBE.out⟩
 ·have hq := he.2.1 hz
  subst hq
  have HE2 : Hid (V.encV x = ([], V.encE (V.zx x))) := zs8 (by rw [HEV.out, if_neg hz])
  have HNZ := zs8 hz
  clear he hz
  generalize V.encE (V.zx x) = ee at *
  go_wp2
  go_ret2
  exact ⟨fun h => absurd (by rw [HE2.out] at h; exact h) HNZ.out, fun _ => (by rw [HE2.out]; rfl), HBE.out⟩) : P := h
theorem zub {P : Prop} (h : P := by
 (try dsimp only); exact ⟨zb ((ztb _ _).alloc (zta _) _) hHeld.1, zb ((ztb _ _).alloc (zta _) _) hHeld.2.1, zb ((ztb _ _).alloc (zta _) _) hHeld.2.2⟩) : P := h
theorem zvh {P : Prop} (h : P := by
 have HEV : Hid (V.encV x = ([], 1)) := zs8 (by unfold V.encV; rw [if_neg (by rw [hok]; simp)])
 clear hok
 go_wp2
 go_ret2
 exact ⟨fun h => (by rw [HEV.out] at h; cases h), fun _ => (by rw [HEV.out]; rfl), HBW.out⟩) : P := h
theorem zau (x : V.Adv) (v : Value) (w : World) (hm : zk w) (hp : zcj w) (hv : Affs w v x.aff) (hid : x.id.length ≤ maxLen) (hl : x.aff.length ≤ maxLen) :
  Calls Tryz.prog 23 #[advV x v] w (EncV x w) := by
 obtain ⟨pa, pc, rfl⟩ := hv.slice
 obtain ⟨hb, c0, c1, c2, c3⟩ := uj x (.slice pa x.aff.length pc) w
 have HM1 := zs8 (hm.below hb)
 have HP1 := zs8 (hp.below hb)
 have HV1 := zs8 (hv.below hb)
 have HB1 := zs8 hb
 have HL := zs8 (And.intro hid hl)
 have H3 := zs8 c3
 have hsz1 : (w.alloc (.cells #[.string ⟨x.id.toArray⟩, .int .i64 x.rev, .int .i64 x.sev, .slice pa x.aff.length pc] 41)).heap.size = w.heap.size + 1 := by simp
 have HSZ := zs8 hsz1
 clear hm hp hv hid hl hb hsz1
 unfold advV
 go_enter Tryz.func23, Tryz.ntmps23
 go_wp2_with fail
 generalize w.alloc (.cells #[.string ⟨x.id.toArray⟩, .int .i64 x.rev, .int .i64 x.sev, .slice pa x.aff.length pc] 41) = W1 at *
 refine (yy x (.slice pa x.aff.length pc) W1 HM1.out HV1.out HL.out.1 HL.out.2).mono ?_
 rintro e w2 ⟨rfl, hb2⟩
 replace c0 := zb hb2 c0
 replace c1 := zb hb2 c1
 replace c2 := zb hb2 c2
 replace c3 := zb hb2 c3
 have HP2 := zs8 (HP1.out.below hb2)
 have HB2 := zs8 hb2
 have HBW := zs9 HB1 hb2
 clear hb2
 rcases hok : V.qa x with _ | _
 ·exact zvh
 ·have HEV : Hid (V.encV x = if V.encE (V.zx x) = 0 then (V.doc (V.zx x), 0) else ([], V.encE (V.zx x))) := zs8 (by unfold V.encV; rw [if_pos hok])
  have HOK := zs8 hok
  have HWD : Hid (∀ l ∈ V.zx x, ∀ u ∈ l, u.length ≤ maxLen) := zs8 (fun l hm u hu => by have := (V.adv_words hok l hm).2 u hu; unfold maxLen; omega)
  have hpt := V.ql hok
  have HT : Hid (1 ≤ x.rev /\ x.rev ≤ 1099511627776 /\ 1 ≤ x.sev /\ x.sev ≤ 10) := zs8 ⟨hpt.rev0, hpt.rev1, hpt.sev0, hpt.sev1⟩
  have HSN : Hid (∀ a ∈ x.aff, V.kc a = true) := zs8 (fun a ha => hpt.sound ha)
  have hl16 := hpt.len
  clear hok hpt
  go_wp2_with fail
  refine wp_region_held_drew (S := (fun W' => W'.cell? ⟨w.heap.size, 0, none⟩ = some (.string ⟨x.id.toArray⟩) /\ W'.cell? ⟨w.heap.size, 1, none⟩ = some (.int .i64 x.rev) /\ W'.cell? ⟨w.heap.size, 2, none⟩ = some (.int .i64 x.sev))) (by kernel_rfl) (by (try dsimp only); exact ⟨zb (ztb _ w2).drew c0, zb (ztb _ w2).drew c1, zb (ztb _ w2).drew c2⟩) (fun hHeld => ?_)
  refine tk 0 ?_
  refine tk 1 ?_
  refine tk 2 ?_
  refine tk 3 ?_
  refine tk 5 ?_
  refine tk 6 ?_
  refine rd 4 fun K hK => ?_
  go_simp
  refine (zf0 (by have := HT.out.1; omega) (by have := HT.out.2.1; omega) _ (HP2.out.below (ztb _ w2).drew)).mono ?_
  rintro e wA ⟨rfl, hbA⟩
  try dsimp only
  have hbA2 := (ztb w2.heap.size w2).drew.trans hbA
  refine hK.out _ _ ?_ (fun hHeld => nx ?_)
  ·(try dsimp only); exact ⟨zb hbA hHeld.1, zb hbA hHeld.2.1, zb hbA hHeld.2.2⟩
  clear hK K
  refine rd 7 fun K hK => ?_
  go_simp
  refine (zf0 (by have := HT.out.2.2.1; omega) (by have := HT.out.2.2.2; omega) _ (HP2.out.below hbA2)).mono ?_
  rintro e wB ⟨rfl, hbB⟩
  try dsimp only
  have hbB2 := hbA2.trans (hbB.mono hbA2.size)
  refine hK.out _ _ ?_ (fun hHeld => nx ?_)
  ·(try dsimp only); exact ⟨zb hbB hHeld.1, zb hbB hHeld.2.1, zb hbB hHeld.2.2⟩
  clear hK K
  refine rd 8 fun K hK => ?_
  refine ws rfl _ _ _ _ rfl V.advW x.id (Lib.decDigits x.rev.toNat) (Lib.decDigits x.sev.toNat) rfl rfl rfl rfl ?_
  refine hK.out _ _ ?_ (fun hHeld => nx ?_)
  ·exact zub
  clear hK K
  refine rd 9 fun K hK => ?_
  have hbC : Below w2.heap.size w2 (wB.alloc (.cells (xy [V.advW, x.id, Lib.decDigits x.rev.toNat, Lib.decDigits x.sev.toNat]) 9)) := hbB2.alloc hbB2.size _
  refine wj rfl _ rfl ⟨some ⟨wB.heap.size, 0, none⟩, 4, 4⟩ rfl ?_
  refine hK.out _ _ ?_ (fun hHeld => nx ?_)
  ·exact zub
  clear hK K
  refine tk 10 ?_
  refine wpAnyH_done (by kernel_rfl) ?_ _
  have hu0 := zdy wB [V.advW, x.id, Lib.decDigits x.rev.toNat, Lib.decDigits x.sev.toNat]
  have hsC : (wB.alloc (.cells (xy [V.advW, x.id, Lib.decDigits x.rev.toNat, Lib.decDigits x.sev.toNat]) 9)).heap.size = wB.heap.size + 1 := by simp
  have hw2z : w.heap.size + 1 ≤ w2.heap.size := by rw [← HSZ.out]; exact HB2.out.size
  have hlr := LRow.one (N := w.heap.size + 1) (u := ⟨some ⟨wB.heap.size, 0, none⟩, 4, 4⟩) (by change _ ≤ (wB.alloc (.cells (xy [V.advW, x.id, Lib.decDigits x.rev.toNat, Lib.decDigits x.sev.toNat]) 9)).heap.size; rw [hsC]; have := hbB2.size; omega) hu0 (by simp)
  have hbD := hbC.alloc hbC.size (.cells #[(⟨some ⟨wB.heap.size, 0, none⟩, 4, 4⟩ : Lsl).v] 61)
  have hbE := HB2.out.trans (hbD.mono HB2.out.size)
  rw [HSZ.out] at hbE
  have y3 := zb hbD c3
  have HS0 : Hid (EncS (w.heap.size + 1) W1 (.slice (some ⟨wB.heap.size + 1, 0, none⟩) 1 1) (V.je x 0) ((wB.alloc (.cells (xy [V.advW, x.id, Lib.decDigits x.rev.toNat, Lib.decDigits x.sev.toNat]) 9)).alloc (.cells #[(⟨some ⟨wB.heap.size, 0, none⟩, 4, 4⟩ : Lsl).v] 61))) := zs8 ⟨⟨_, by rw [← hsC]; exact hlr⟩, hbE, by have := hbD.size; omega⟩
  change Exit.then _ _ _ _ ((wB.alloc (.cells (xy [V.advW, x.id, Lib.decDigits x.rev.toNat, Lib.decDigits x.sev.toNat]) 9)).alloc (.cells #[(⟨some ⟨wB.heap.size, 0, none⟩, 4, 4⟩ : Lsl).v] 61))
  try simp only [World.size_alloc]
  clear hu0 hlr hbE hHeld c0 c1 c2 hw2z hbA hbA2 hbB hbB2 hbC hbD c3
  generalize (wB.alloc (.cells (xy [V.advW, x.id, Lib.decDigits x.rev.toNat, Lib.decDigits x.sev.toNat]) 9)).alloc (.cells #[(⟨some ⟨wB.heap.size, 0, none⟩, 4, 4⟩ : Lsl).v] 61) = W4 at *
  clear hsC
  generalize wB.heap.size + 1 = b4 at *
  go_wp2
  go_loopw [4, 25] (fun ov iv wx => ∃ k : Nat, k ≤ x.aff.length /\ iv = .int .i64 k /\ EncS (w.heap.size + 1) W1 ov (V.je x k) wx) (fun _ iv _ => x.aff.length - (intOf iv).toNat)
  case atStart => exact ⟨0, Nat.zero_le _, rfl, HS0.out⟩
  case round =>
   obtain ⟨k, hk, rfl, hes⟩ := hrel
   obtain ⟨us, hrow⟩ := hes.row
   obtain ⟨oa, oc, rfl⟩ := hrow.slice
   have HR := zs8 hrow
   have HBR := zs8 hes.below
   have hNs := hes.size
   clear hrow hes HS0 y3
   by_cases hlt : k < x.aff.length
   ·obtain ⟨hwf, b, off, ua, uc, rfl, hblt, ha⟩ := HV1.out.at k hlt
    have HBR1 : Hid (Below W1.heap.size W1 wr) := zs8 (by rw [HSZ.out]; exact HBR.out)
    have HW := zs8 hwf
    have HA := zs8 (ha.below HBR1.out)
    have HST := zs8 (V.zdf hlt)
    have hso := HSN.out x.aff[k] (List.getElem_mem hlt)
    have HFM : Hid (V.ky x.aff[k].rs x.aff[k].its = (V.kn x.aff[k].its, 0)) := zs8 (by
      obtain ⟨_, h2, _, h4⟩ := V.xd hso
      unfold V.ky
      rw [h2, if_pos h4])
    have HLA : Hid (V.yd x.aff[k] = [V.affW, V.qb x.aff[k].sch, x.aff[k].name, V.kn x.aff[k].its]) := zs8 rfl
    rw [HLA.out] at HST
    have hi1 : (0 : Int) ≤ (k : Int) := by omega
    have hi2 : (k : Int) < (x.aff.length : Int) := by omega
    have wr1 : IntKind.i64.wrap ((k : Int) + 1) = (k : Int) + 1 := IntWalk.i64_in _ (by omega)
    clear hwf ha hso HLA
    generalize x.aff[k] = a at *
    have e0 := HA.out.c0
    have e1 := HA.out.c1
    have e2 := HA.out.c2
    have e3 := HA.out.c3
    obtain ⟨hbZ, x0, x1, x2, x3⟩ := zas a (.slice ua a.its.length uc) wr
    have HIZ := zs8 (HA.out.its.below hbZ)
    have HRZ := zs8 (HR.out.later hbZ)
    have HBZ := zs8 (HBR.out.trans (hbZ.mono hNs))
    have HMZ := zs8 (HM1.out.below (HBR1.out.trans (hbZ.mono HBR1.out.size)))
    have hzZ := hbZ.size
    have HXB : Hid (some wr.heap.size = (Value.slice oa (V.je x k).length oc).ownBlock -> False) := zs8 (fun e => by
      have := HR.out.row.lt _ e.symm
      omega)
    clear hbZ HR HBR HBR1
    go_wp2_with fail
    generalize wr.alloc (.cells #[.int .i64 a.sch, .string ⟨a.name.toArray⟩, .int .i64 a.rs, .slice ua a.its.length uc] 50) = wz at *
    generalize wr.heap.size = X at *
    clear e0 e1 e2 e3
    refine (zlp a.rs (.slice ua a.its.length uc) a.its wz HMZ.out HIZ.out HW.out.lens HW.out.len).mono ?_
    rintro e wF ⟨rfl, hbF⟩
    rw [HFM.out]
    replace x0 := zb hbF x0
    replace x1 := zb hbF x1
    replace HRZ := zs8 (HRZ.out.later hbF)
    replace HBZ := zs8 (HBZ.out.trans (hbF.mono (by omega)))
    have hzF := hbF.size
    have hNz : w.heap.size + 1 ≤ wF.heap.size := by omega
    clear hbF HIZ HMZ x2 x3
    go_wp2_with fail
    refine wp_region_held_drew (S := (fun W' => W'.cell? ⟨X, 0, none⟩ = some (.int .i64 a.sch) /\ W'.cell? ⟨X, 1, none⟩ = some (.string ⟨a.name.toArray⟩))) (by kernel_rfl) (by (try dsimp only); exact ⟨zb (ztb _ wF).drew x0, zb (ztb _ wF).drew x1⟩) (fun hHeld => ?_)
    refine tk 0 ?_
    refine tk 1 ?_
    refine tk 2 ?_
    refine tk 4 ?_
    refine tk 5 ?_
    refine tk 6 ?_
    refine rd 3 fun K hK => ?_
    go_simp
    refine (zhk a.sch wF.drew).mono ?_
    exact zti
   ·obtain rfl : k = x.aff.length := by omega
    have HLN := zs8 HR.out.lines
    go_wp2_with fail
    refine (zqp _ (V.zx x) wr HLN.out HWD.out).mono ?_
    exact zty
end Go.Proofs.YtnhfaincdabdkaaGreatDoor
