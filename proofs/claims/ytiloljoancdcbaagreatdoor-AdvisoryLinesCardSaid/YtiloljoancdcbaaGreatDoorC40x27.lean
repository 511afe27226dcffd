/-
  Lemmas for the law.
-/
import Derived.Test.YtiloljoancdcbaaGreatDoorC40x25
import Derived.Test.YtiloljoancdcbaaGreatDoorC40x20
import Derived.Test.YtiloljoancdcbaaGreatDoorC40x23
import Derived.Test.YtiloljoancdcbaaGreatDoorC40x26
import Derived.Test.YtiloljoancdcbaaGreatDoorC40x22
import Derived.Test.YtiloljoancdcbaaGreatDoorC40x03
set_option linter.all false
set_option maxRecDepth 100000
set_option maxHeartbeats 6400000
namespace Go.Proofs.YtiloljoancdcbaaGreatDoor
open Go.RowKit
def txtB (x : V.Itv) : ByteArray := ⟨(V.zv x).toArray⟩
def ztf (r : V.Bs × Int) (w : World) (e : Ending) (w' : World) : Prop := e = .returned (.tuple #[.string ⟨r.1.toArray⟩, .int .i64 r.2]) /\ Below w.heap.size w w'
theorem zqq {l : List V.Itv} {k : Nat} (h : k < l.length) : (l.take (k + 1)).map txtB = (l.take k).map txtB ++ [txtB l[k]] := by
 rw [List.take_succ_eq_append_getElem h, List.map_append]
 rfl
theorem zgv {l : List V.Itv} (h : l ≠ []) : Lib.join ((l.map txtB).map (·.data.toList)) V.orT = V.xl l := by
 unfold V.xl
 rw [if_neg (by simpa using h), List.map_map]
 rfl
theorem zoh {n : Int} {l : List V.Itv} (h : V.Ok n l) (h0 : l ≠ []) : (V.xl l).length ≤ 10000 := by
 rcases l with _ | ⟨x, r⟩
 ·exact absurd rfl h0
 ·have hle : ∀ y ∈ V.zv x :: r.map V.zv, y.length ≤ 133 := by
   intro y hy
   rw [← List.map_cons (f := V.zv), List.mem_map] at hy
   obtain ⟨z, hz, rfl⟩ := hy
   exact (V.zg7 (V.zpq h hz)).len
  have h1 := V.zo6 hle
  have h2 := h.len
  rw [List.length_map] at h1
  rw [List.length_cons] at h2
  show (Lib.join (V.zv x :: r.map V.zv) V.orT).length ≤ _
  omega
theorem zky {w W1 W2 : World} {N : Nat} {v : Value} {l : List ByteArray} {o : Obj} (h1 : Below N w W1) (hN : N ≤ w.heap.size) (hr : SRow W1 N v l) (h2 : (W1.alloc o).grownBy W2 v.ownBlock) : Below N w W2 :=
 (h1.alloc (Nat.le_trans hN h1.size) o).trans ⟨h2.os, h2.tape, h2.output, h2.size, fun k hk => h2.block k (by have := h1.size; simp; omega) (fun e => by have := GRow.block hr k e.symm; omega)⟩
theorem zw8 {P : Prop} (h : P := by
 clear hb2 h0 h1 h2 h3
 go_wp2_with (first | (refine zm qz (by decide) qy qw (by decide) rfl _ _ 47 rfl Tryz.underlying47 w1.heap.size _ L rfl (GRow.below HR0.out (HB2.out.alloc HB2.out.size _)) w2.heap.size (txtB x) rfl (fun j u hu => by rw [World.cell?_alloc_new]; simpa [baE, txtB] using hu) (by have := HLK.out; omega) (by have := HB2.out.size; have := HBX.out.size; simp; omega) ?_; intro v2 W2 hr2 hg2) | fail)
 have HR2 : Hid (SRow W2 w1.heap.size v2 (L ++ [txtB x])) := zvq hr2
 have HB3 := zvq (zky (HBX.out.trans (HB2.out.mono HBX.out.size)) (zvs _) (GRow.below HR0.out HB2.out) hg2)
 clear hr2 hg2
 go_wp2_with fail
 go_roundw
 case rel => exact ⟨k + 1, by omega, by go_num, by rw [HST.out]; exact HR2.out, HB3.out⟩
 case measure => simp [intOf]; omega) : P := h
theorem zxb {P : Prop} (h : P := by
 obtain rfl : k = l.length := by omega
 have HRA : Hid (SRow wr w1.heap.size _ (l.map txtB)) := zvq (by have := HR0.out; rw [List.take_length] at this; exact this)
 go_wp2_with fail
 refine (jb wr w1.heap.size _ (l.map txtB) ⟨#[32, 124, 124, 32]⟩ HRA.out (by simpa using HNE.out) (by simp; omega) (by rw [show (ByteArray.mk #[32, 124, 124, 32]).data.toList = V.orT from rfl, zgv HNE.out]; have := zoh HOK.out HNE.out; omega)).mono ?_
 rintro e w3 ⟨rfl, hb3⟩
 have HB3 := zvr HBF hb3
 have HT : Hid (Lib.join ((l.map txtB).map (·.data.toList)) (ByteArray.mk #[32, 124, 124, 32]).data.toList = V.xl l) := zvq (zgv HNE.out)
 clear hb3
 rw [HT.out]
 go_wp2
 go_ret2
 exact (by rw [HF2.out]; exact ⟨rfl, HB3.out⟩)) : P := h
theorem zzd {P : Prop} (h : P := by
 have hq : ((l.length : Int) == 0) = true := by rw [h0]; rfl
 have HR : Hid (V.yc n l = (V.zcu, 0)) := zvq (by rw [HF2.out, h0]; rfl)
 clear h0
 go_wp2
 go_ret2
 exact (by rw [HR.out]; exact ⟨rfl, HB1.out⟩)) : P := h
theorem z0e {P : Prop} (h : P := by
 have HR : Hid (V.yc n l = ([], 1)) := zvq (by rw [HF.out, hok]; rfl)
 clear hok
 go_wp2
 go_ret2
 exact (by rw [HR.out]; exact ⟨rfl, HB1.out⟩)) : P := h
theorem zot (n : Int) (v : Value) (l : List V.Itv) (w : World) (hm : zg w) (hv : Itvs w v l) (hs : Lens l) (hl : l.length ≤ maxLen) :
  Calls Tryz.prog 25 #[setV n v] w (ztf (V.yc n l) w) := by
 have HV := zvq hv
 obtain ⟨va, vc, rfl⟩ := hv.slice
 have HL := zvq hl
 unfold maxLen at hl
 have HS := zvq hs
 have HF : Hid (V.yc n l = if V.okR n l then (V.xl l, 0) else ([], 1)) := zvq rfl
 have hb0 : Below w.heap.size w (w.alloc (.cells #[.int .i64 n, .slice va l.length vc] 32)) := (zvt _ w).alloc (zvs _) _
 have HB0 := zvq hb0
 have HM := zvq (hm.below hb0)
 have c0 : (w.alloc (.cells #[.int .i64 n, .slice va l.length vc] 32)).cell? ⟨w.heap.size, 0, none⟩ = some (.int .i64 n) := by simp [ze]
 have c1 : (w.alloc (.cells #[.int .i64 n, .slice va l.length vc] 32)).cell? ⟨w.heap.size, 1, none⟩ = some (.slice va l.length vc) := by simp [ze]
 have hz0 : w.heap.size < (w.alloc (.cells #[.int .i64 n, .slice va l.length vc] 32)).heap.size := by simp
 clear hv hs hb0 hm
 unfold setV
 go_enter Tryz.func25, Tryz.ntmps25
 go_wp2_with fail
 generalize w.alloc (.cells #[.int .i64 n, .slice va l.length vc] 32) = w0 at *
 refine (zar n (.slice va l.length vc) l w0 HM.out (HV.out.below HB0.out) HS.out HL.out).mono ?_
 rintro e w1 ⟨rfl, hb1⟩
 have HB1 := zvr HB0 hb1
 have d0 := za hb1 c0
 have d1 := za hb1 c1
 have hz1 : w.heap.size < w1.heap.size := Nat.lt_of_lt_of_le hz0 hb1.size
 clear hb1 c0 c1 hz0 HM
 rcases hok : V.okR n l with _ | _
 ·exact z0e
 ·have HOK := zvq (V.zca hok)
  have HF2 : Hid (V.yc n l = (V.xl l, 0)) := zvq (by rw [HF.out, hok]; rfl)
  clear hok
  by_cases h0 : l = []
  ·exact zzd
  ·have HNE := zvq h0
   have hq : ((l.length : Int) == 0) = false := by rw [zvu]; have := List.length_pos_iff.2 h0; omega
   clear h0
   have h32 : l.length ≤ 32 := HOK.out.len
   have HD := zvq d1
   go_wp2_with fail
   clear d0 d1
   go_loopw [4, 17] (fun v iv wx => ∃ k : Nat, k ≤ l.length /\ iv = .int .i64 k /\ SRow wx w1.heap.size v ((l.take k).map txtB) /\ Below w1.heap.size w1 wx) (fun _ iv _ => l.length - (intOf iv).toNat)
   case atStart => exact ⟨0, Nat.zero_le _, rfl, GRow.nil _ _, zvt _ _⟩
   case round =>
    obtain ⟨k, hk, rfl, hr, hbx⟩ := hrel
    have HR0 := zvq hr
    have HBX := zvq hbx
    have HBF := zvr HB1 hbx
    have e1 := za hbx HD.out
    clear hr hbx
    by_cases hlt : k < l.length
    ·obtain ⟨b, off, rfl, hb0, hx⟩ := HV.out.at k hlt
     obtain ⟨h0, h1, h2, h3⟩ := hx.below hb0 HBF.out
     have hi1 : (0 : Int) ≤ (k : Int) := by omega
     have hi2 : (k : Int) < (l.length : Int) := by omega
     have HBK : Hid (V.zj n l[k] = true) := zvq (HOK.out.bnd _ (List.getElem_mem hlt))
     have HST := zvq (zqq hlt)
     have HLK : Hid (((l.take k).map txtB).length ≤ 32) := zvq (by rw [List.length_map, List.length_take]; omega)
     clear hx
     generalize l[k] = x at *
     generalize (l.take k).map txtB = L at *
     have HXA := zvq ((zvt wr.heap.size wr).alloc (zvs _) (.cells #[.string ⟨x.lo.toArray⟩, .int .i64 x.lk, .string ⟨x.hi.toArray⟩, .int .i64 x.hk] 87))
     go_wp2_with fail
     refine (zsc n x _ HBK.out).mono ?_
     rintro e w2 ⟨rfl, hb2⟩
     have HB2 := zvr HXA hb2
     exact zw8
    ·exact zxb
theorem zoi (n : Int) (v : Value) (l : List V.Itv) (w : World) (hm : zg w) (hv : Itvs w v l) (hs : Lens l) (hl : l.length ≤ maxLen) :
  Calls Tryz.prog 29 #[setV n v] w (ztf (V.yc n l) w) := by
 have HV := zvq hv
 obtain ⟨va, vc, rfl⟩ := hv.slice
 have HL := zvq hl
 unfold maxLen at hl
 have HS := zvq hs
 have HF : Hid (V.yc n l = if V.okR n l then (V.xl l, 0) else ([], 1)) := zvq rfl
 have hb0 : Below w.heap.size w (w.alloc (.cells #[.int .i64 n, .slice va l.length vc] 32)) := (zvt _ w).alloc (zvs _) _
 have HB0 := zvq hb0
 have HM := zvq (hm.below hb0)
 have c0 : (w.alloc (.cells #[.int .i64 n, .slice va l.length vc] 32)).cell? ⟨w.heap.size, 0, none⟩ = some (.int .i64 n) := by simp [ze]
 have c1 : (w.alloc (.cells #[.int .i64 n, .slice va l.length vc] 32)).cell? ⟨w.heap.size, 1, none⟩ = some (.slice va l.length vc) := by simp [ze]
 have hz0 : w.heap.size < (w.alloc (.cells #[.int .i64 n, .slice va l.length vc] 32)).heap.size := by simp
 clear hv hs hb0 hm
 unfold setV
 go_enter Tryz.func29, Tryz.ntmps29
 go_wp2_with fail
 generalize w.alloc (.cells #[.int .i64 n, .slice va l.length vc] 32) = w0 at *
 refine (zb2 n (.slice va l.length vc) l w0 HM.out (HV.out.below HB0.out) HS.out HL.out).mono ?_
 rintro e w1 ⟨rfl, hb1⟩
 have HB1 := zvr HB0 hb1
 have d0 := za hb1 c0
 have d1 := za hb1 c1
 have hz1 : w.heap.size < w1.heap.size := Nat.lt_of_lt_of_le hz0 hb1.size
 clear hb1 c0 c1 hz0 HM
 rcases hok : V.okR n l with _ | _
 ·exact z0e
 ·have HOK := zvq (V.zca hok)
  have HF2 : Hid (V.yc n l = (V.xl l, 0)) := zvq (by rw [HF.out, hok]; rfl)
  clear hok
  by_cases h0 : l = []
  ·exact zzd
  ·have HNE := zvq h0
   have hq : ((l.length : Int) == 0) = false := by rw [zvu]; have := List.length_pos_iff.2 h0; omega
   clear h0
   have h32 : l.length ≤ 32 := HOK.out.len
   have HD := zvq d1
   go_wp2_with fail
   clear d0 d1
   go_loopw [4, 5] (fun v iv wx => ∃ k : Nat, k ≤ l.length /\ iv = .int .i64 k /\ SRow wx w1.heap.size v ((l.take k).map txtB) /\ Below w1.heap.size w1 wx) (fun _ iv _ => l.length - (intOf iv).toNat)
   case atStart => exact ⟨0, Nat.zero_le _, rfl, GRow.nil _ _, zvt _ _⟩
   case round =>
    obtain ⟨k, hk, rfl, hr, hbx⟩ := hrel
    have HR0 := zvq hr
    have HBX := zvq hbx
    have HBF := zvr HB1 hbx
    have e1 := za hbx HD.out
    clear hr hbx
    by_cases hlt : k < l.length
    ·obtain ⟨b, off, rfl, hb0, hx⟩ := HV.out.at k hlt
     obtain ⟨h0, h1, h2, h3⟩ := hx.below hb0 HBF.out
     have hi1 : (0 : Int) ≤ (k : Int) := by omega
     have hi2 : (k : Int) < (l.length : Int) := by omega
     have HBK : Hid (V.zj n l[k] = true) := zvq (HOK.out.bnd _ (List.getElem_mem hlt))
     have HST := zvq (zqq hlt)
     have HLK : Hid (((l.take k).map txtB).length ≤ 32) := zvq (by rw [List.length_map, List.length_take]; omega)
     clear hx
     generalize l[k] = x at *
     generalize (l.take k).map txtB = L at *
     have HXA := zvq ((zvt wr.heap.size wr).alloc (zvs _) (.cells #[.string ⟨x.lo.toArray⟩, .int .i64 x.lk, .string ⟨x.hi.toArray⟩, .int .i64 x.hk] 87))
     go_wp2_with fail
     refine (zsw n x wr HBK.out).mono ?_
     rintro e w2 ⟨rfl, hb2⟩
     have HB2 := zvq hb2
     exact zw8
    ·exact zxb
theorem zba {ops : Array Oper} {o : Oper} {a : Act} {w : World} {K : Act -> World -> Prop} {Q : Exit -> Act -> World -> Prop} {E : Prop} (hgd : o.guard = none) (e1 e2 e3 e4 : Operand) (ho : o.op = .buildSlice 47 4 #[(0, e1), (1, e2), (2, e3), (3, e4)])
  (s1 s2 s3 s4 : V.Bs) (h1 : a.eval e1 = .string ⟨s1.toArray⟩) (h2 : a.eval e2 = .string ⟨s2.toArray⟩) (h3 : a.eval e3 = .string ⟨s3.toArray⟩) (h4 : a.eval e4 = .string ⟨s4.toArray⟩)
  (h : K (a.put o.dst (.slice (some ⟨w.heap.size, 0, none⟩) 4 4)) (w.alloc (.cells (uf [s1, s2, s3, s4]) 9))) : if Region.wanted o (yielded ops a.tmps) = true then Oper.wp Tryz.prog o a w K Q else E := by
 rw [if_pos (by simp [Region.wanted, hgd])]
 obtain ⟨i, hi, hz, hs, hb⟩ := infoS
 refine wp_buildSlice _ 9 4 _ ho (uf [s1, s2, s3, s4]) i _ Tryz.underlying47 hi hz (by rw [hs]; decide) (by rw [hs]; decide) ?_ h
 have := Great.fill_whole (s := 1) (by decide) [Value.string ⟨s1.toArray⟩, Value.string ⟨s2.toArray⟩, Value.string ⟨s3.toArray⟩, Value.string ⟨s4.toArray⟩] ((Array.range (4 * i.size)).map ((Value.string ⟨#[]⟩).cells[· % (Value.string ⟨#[]⟩).cells.size]!)) (fun v hv => by
   simp only [List.mem_cons, List.not_mem_nil, or_false] at hv
   rcases hv with rfl | rfl | rfl | rfl <;> rfl) (by rw [hs]; simp)
 rw [hs] at this ⊢
 simp only [h1, h2, h3, h4, List.map_toArray, List.map_cons, List.map_nil]
 exact this
theorem V.advLines_len (x : V.Adv) (k : Nat) : (V.jt x k).length ≤ x.aff.length + 1 := by
 unfold V.jt
 rw [List.length_cons, List.length_map, List.length_take]
 omega
theorem V.adv_words {x : V.Adv} (h : V.qp x = true) : ∀ l ∈ V.qi x, l.length = 4 /\ ∀ u ∈ l, u.length ≤ 10000 := by
 have hp := V.jh h
 intro l hl
 unfold V.qi V.jt at hl
 rcases List.mem_cons.1 hl with rfl | hl
 ·refine ⟨rfl, fun u hu => ?_⟩
  have h1 := V.name_len hp.id
  have h2 := zi1 (n := x.rev.toNat) (by have := hp.rev1; omega)
  have h3 := zi1 (n := x.sev.toNat) (by have := hp.sev1; omega)
  simp only [V.xo, List.mem_cons, List.not_mem_nil, or_false] at hu
  rcases hu with rfl | rfl | rfl | rfl
  ·decide
  ·omega
  ·omega
  ·omega
 ·rw [List.take_length] at hl
  obtain ⟨a, ha, rfl⟩ := List.mem_map.1 hl
  obtain ⟨s1, s2, s3, s4⟩ := V.yk (hp.sound ha)
  refine ⟨rfl, fun u hu => ?_⟩
  have h1 := V.zfj s1
  have h2 := V.zd8 a.sch
  have h3 := zoh (V.zca s4) (fun e => by rw [e] at s3; simp at s3)
  simp only [V.uk, List.mem_cons, List.not_mem_nil, or_false] at hu
  rcases hu with rfl | rfl | rfl | rfl
  ·decide
  ·omega
  ·omega
  ·exact h3
theorem V.adv_sz {x : V.Adv} (h : V.qp x = true) : V.jl (V.qi x) (V.qi x).length ≤ 9000000 := by
 have hl := V.advLines_len x x.aff.length
 have h16 := (V.jh h).len
 have := V.zhr (ls := V.qi x) (M := 4 * 30002) (fun l hm => by
   obtain ⟨h4, hw⟩ := V.adv_words h l hm
   have := V.zr3 (x := l) (M := 30002) (fun u hu => by
     have h1 := hw u hu
     have h2 := V.xk u
     omega)
   rw [h4] at this ⊢; exact this) (V.qi x).length (zvs _)
 have h17 : (V.qi x).length ≤ 17 := by unfold V.qi; omega
 have := Nat.mul_le_mul_right (4 * 30002) h17
 omega
def EncV (x : V.Adv) (w : World) (e : Ending) (w' : World) : Prop :=
 ((V.encV x).2 = 0 -> ∃ u N W0, e = .returned (.tuple #[u, .int .i64 0]) /\ Buf N u (V.encV x).1 W0 w') /\
 (¬ (V.encV x).2 = 0 -> e = .returned (.tuple #[.slice none 0 0, .int .i64 (V.encV x).2])) /\ Below w.heap.size w w'
open Go.RowKit
theorem zv5 {P : Prop} (h : P := by
 rintro e wS ⟨rfl, rfl⟩
 try dsimp only
 refine hK.out _ _ ?_ (fun hHeld => nx ?_)
 ·(try dsimp only); exact hHeld
 clear hK K
 refine rd 7 fun K hK => ?_
 refine zba rfl _ _ _ _ rfl V.affW (V.qb a.sch) a.name (V.xl a.its) rfl rfl rfl rfl ?_
 refine hK.out _ _ ?_ (fun hHeld => nx ?_)
 ·(try dsimp only); exact ⟨zb ((zvt _ _).alloc (zvs _) _) hHeld.1, zb ((zvt _ _).alloc (zvs _) _) hHeld.2⟩
 clear hK K
 refine rd 8 fun K hK => ?_
 have hbC : Below wF.heap.size wF (wF.drew.alloc (.cells (uf [V.affW, V.qb a.sch, a.name, V.xl a.its]) 9)) := ((zvt _ wF).drew).alloc (zvs _) _
 refine za7 rfl _ rfl ⟨some ⟨wF.heap.size, 0, none⟩, 4, 4⟩ rfl ?_
 refine hK.out _ _ ?_ (fun hHeld => nx ?_)
 ·(try dsimp only); exact ⟨zb ((zvt _ _).alloc (zvs _) _) hHeld.1, zb ((zvt _ _).alloc (zvs _) _) hHeld.2⟩
 clear hK K
 refine rd 9 fun K hK => ?_
 have hbD := hbC.alloc hbC.size (.cells #[(⟨some ⟨wF.heap.size, 0, none⟩, 4, 4⟩ : Lsl).v] 47)
 have HLZ := zvq (HRZ.out.later hbD)
 have HUS := zvq (kp (zcf wF.drew [V.affW, V.qb a.sch, a.name, V.xl a.its]) ((zvt _ _).alloc (zvs _) (.cells #[(⟨some ⟨wF.heap.size, 0, none⟩, 4, 4⟩ : Lsl).v] 47)))
 have hszC := hbC.size
 have hszD := hbD.size
 refine zgm zal (by decide) zbv zat (by decide) rfl _ _ 50 rfl Tryz.underlying50 (w.heap.size + 1) (.slice oa (V.jt x k).length oc) us rfl HLZ.out.row _ ⟨some ⟨wF.heap.size, 0, none⟩, 4, 4⟩ rfl (zn9 _ _) (by rw [HRZ.out.len]; have := V.advLines_len x k; omega) (by omega) (fun v9 w9 hr9 hg9 ho9 => ?_)
 refine hK.out _ _ ?_ (fun hHeld => nx ?_)
 ·(try dsimp only); exact ⟨hg9.cell hHeld.1 (fun e => HXB.out e), hg9.cell hHeld.2 (fun e => HXB.out e)⟩
 clear hK K
 refine tk 10 ?_
 refine wpAnyH_done (by kernel_rfl) ?_ _
 have HN9 := zvq (HLZ.out.add hr9 hg9 ho9 HUS.out (fun _ c hc => by
   have := HRZ.out.row.lt
   intro e
   have h1 := this c e
   simp [Lsl.v, Value.ownBlock] at hc
   omega))
 have HB9 := zvq (HBZ.out.trans ((hbD.mono hNz).trans (zp hg9 HLZ.out.row.block (zvs _) (by omega))))
 have hs9 : w.heap.size + 1 ≤ w9.heap.size := by have := hg9.size; omega
 have HS9 := zvq hs9
 clear hr9 hg9 ho9 hHeld hbD hbC hszC hszD hs9 hNz HLZ HUS HRZ HBZ x0 x1
 go_wp2
 go_roundw
 case rel => exact ⟨k + 1, by omega, by go_num, ⟨⟨_, by rw [HST.out]; exact HN9.out⟩, HB9.out, HS9.out⟩⟩
 case measure => simp [intOf]; omega) : P := h
theorem zxy {P : Prop} (h : P := by
 (try dsimp only); exact ⟨zb ((zvt _ _).alloc (zvs _) _) hHeld.1, zb ((zvt _ _).alloc (zvs _) _) hHeld.2.1, zb ((zvt _ _).alloc (zvs _) _) hHeld.2.2⟩) : P := h
theorem zye {P : Prop} (h : P := by
 have hq := he.2.1 hz
 subst hq
 have HE2 : Hid (V.encV x = ([], V.encE (V.qi x))) := zvq (by rw [HEV.out, if_neg hz])
 have HNZ := zvq hz
 clear he hz
 generalize V.encE (V.qi x) = ee at *
 go_wp2
 go_ret2
 exact ⟨fun h => absurd (by rw [HE2.out] at h; exact h) HNZ.out, fun _ => (by rw [HE2.out]; rfl), HBE.out⟩) : P := h
theorem zy9 {P : Prop} (h : P := by
 have HEV : Hid (V.encV x = ([], 1)) := zvq (by unfold V.encV; rw [if_neg (by rw [hok]; simp)])
 clear hok
 go_wp2
 go_ret2
 exact ⟨fun h => (by rw [HEV.out] at h; cases h), fun _ => (by rw [HEV.out]; rfl), HBW.out⟩) : P := h
theorem ze4 (x : V.Adv) (v : Value) (w : World) (hm : zg w) (hp : zcx w) (hv : Affs w v x.aff) (hid : x.id.length ≤ maxLen) (hl : x.aff.length ≤ maxLen) :
  Calls Tryz.prog 9 #[advV x v] w (EncV x w) := by
 obtain ⟨pa, pc, rfl⟩ := hv.slice
 obtain ⟨hb, c0, c1, c2, c3⟩ := zbb x (.slice pa x.aff.length pc) w
 have HM1 := zvq (hm.below hb)
 have HP1 := zvq (hp.below hb)
 have HV1 := zvq (hv.below hb)
 have HB1 := zvq hb
 have HL := zvq (And.intro hid hl)
 have H3 := zvq c3
 have hsz1 : (w.alloc (.cells #[.string ⟨x.id.toArray⟩, .int .i64 x.rev, .int .i64 x.sev, .slice pa x.aff.length pc] 25)).heap.size = w.heap.size + 1 := by simp
 have HSZ := zvq hsz1
 clear hm hp hv hid hl hb hsz1
 unfold advV
 go_enter Tryz.func9, Tryz.ntmps9
 go_wp2_with fail
 generalize w.alloc (.cells #[.string ⟨x.id.toArray⟩, .int .i64 x.rev, .int .i64 x.sev, .slice pa x.aff.length pc] 25) = W1 at *
 refine (zc4 x (.slice pa x.aff.length pc) W1 HM1.out HV1.out HL.out.1 HL.out.2).mono ?_
 rintro e w2 ⟨rfl, hb2⟩
 replace c0 := zb hb2 c0
 replace c1 := zb hb2 c1
 replace c2 := zb hb2 c2
 replace c3 := zb hb2 c3
 have HP2 := zvq (HP1.out.below hb2)
 have HB2 := zvq hb2
 have HBW := zvr HB1 hb2
 clear hb2
 rcases hok : V.qp x with _ | _
 ·exact zy9
 ·have HEV : Hid (V.encV x = if V.encE (V.qi x) = 0 then (V.doc (V.qi x), 0) else ([], V.encE (V.qi x))) := zvq (by unfold V.encV; rw [if_pos hok])
  have HOK := zvq hok
  have HWD : Hid (∀ l ∈ V.qi x, ∀ u ∈ l, u.length ≤ maxLen) := zvq (fun l hm u hu => by have := (V.adv_words hok l hm).2 u hu; unfold maxLen; omega)
  have hpt := V.jh hok
  have HT : Hid (1 ≤ x.rev /\ x.rev ≤ 1099511627776 /\ 1 ≤ x.sev /\ x.sev ≤ 10) := zvq ⟨hpt.rev0, hpt.rev1, hpt.sev0, hpt.sev1⟩
  have HSN : Hid (∀ a ∈ x.aff, V.kt a = true) := zvq (fun a ha => hpt.sound ha)
  have hl16 := hpt.len
  clear hok hpt
  go_wp2_with fail
  refine wp_region_held_drew (S := (fun W' => W'.cell? ⟨w.heap.size, 0, none⟩ = some (.string ⟨x.id.toArray⟩) /\ W'.cell? ⟨w.heap.size, 1, none⟩ = some (.int .i64 x.rev) /\ W'.cell? ⟨w.heap.size, 2, none⟩ = some (.int .i64 x.sev))) (by kernel_rfl) (by (try dsimp only); exact ⟨zb (zvt _ w2).drew c0, zb (zvt _ w2).drew c1, zb (zvt _ w2).drew c2⟩) (fun hHeld => ?_)
  refine tk 0 ?_
  refine tk 1 ?_
  refine tk 2 ?_
  refine tk 3 ?_
  refine tk 5 ?_
  refine tk 6 ?_
  refine rd 4 fun K hK => ?_
  go_simp
  refine (zie (by have := HT.out.1; omega) (by have := HT.out.2.1; omega) _ (HP2.out.below (zvt _ w2).drew)).mono ?_
  rintro e wA ⟨rfl, hbA⟩
  try dsimp only
  have hbA2 := (zvt w2.heap.size w2).drew.trans hbA
  refine hK.out _ _ ?_ (fun hHeld => nx ?_)
  ·(try dsimp only); exact ⟨zb hbA hHeld.1, zb hbA hHeld.2.1, zb hbA hHeld.2.2⟩
  clear hK K
  refine rd 7 fun K hK => ?_
  go_simp
  refine (zie (by have := HT.out.2.2.1; omega) (by have := HT.out.2.2.2; omega) _ (HP2.out.below hbA2)).mono ?_
  rintro e wB ⟨rfl, hbB⟩
  try dsimp only
  have hbB2 := hbA2.trans (hbB.mono hbA2.size)
  refine hK.out _ _ ?_ (fun hHeld => nx ?_)
  ·(try dsimp only); exact ⟨zb hbB hHeld.1, zb hbB hHeld.2.1, zb hbB hHeld.2.2⟩
  clear hK K
  refine rd 8 fun K hK => ?_
  refine zba rfl _ _ _ _ rfl V.advW x.id (Lib.decDigits x.rev.toNat) (Lib.decDigits x.sev.toNat) rfl rfl rfl rfl ?_
  refine hK.out _ _ ?_ (fun hHeld => nx ?_)
  ·exact zxy
  clear hK K
  refine rd 9 fun K hK => ?_
  have hbC : Below w2.heap.size w2 (wB.alloc (.cells (uf [V.advW, x.id, Lib.decDigits x.rev.toNat, Lib.decDigits x.sev.toNat]) 9)) := hbB2.alloc hbB2.size _
  refine za7 rfl _ rfl ⟨some ⟨wB.heap.size, 0, none⟩, 4, 4⟩ rfl ?_
  refine hK.out _ _ ?_ (fun hHeld => nx ?_)
  ·exact zxy
  clear hK K
  refine tk 10 ?_
  refine wpAnyH_done (by kernel_rfl) ?_ _
  have hu0 := zcf wB [V.advW, x.id, Lib.decDigits x.rev.toNat, Lib.decDigits x.sev.toNat]
  have hsC : (wB.alloc (.cells (uf [V.advW, x.id, Lib.decDigits x.rev.toNat, Lib.decDigits x.sev.toNat]) 9)).heap.size = wB.heap.size + 1 := by simp
  have hw2z : w.heap.size + 1 ≤ w2.heap.size := by rw [← HSZ.out]; exact HB2.out.size
  have hlr := LRow.one (N := w.heap.size + 1) (u := ⟨some ⟨wB.heap.size, 0, none⟩, 4, 4⟩) (by change _ ≤ (wB.alloc (.cells (uf [V.advW, x.id, Lib.decDigits x.rev.toNat, Lib.decDigits x.sev.toNat]) 9)).heap.size; rw [hsC]; have := hbB2.size; omega) hu0 (by simp)
  have hbD := hbC.alloc hbC.size (.cells #[(⟨some ⟨wB.heap.size, 0, none⟩, 4, 4⟩ : Lsl).v] 47)
  have hbE := HB2.out.trans (hbD.mono HB2.out.size)
  rw [HSZ.out] at hbE
  have y3 := zb hbD c3
  have HS0 : Hid (EncS (w.heap.size + 1) W1 (.slice (some ⟨wB.heap.size + 1, 0, none⟩) 1 1) (V.jt x 0) ((wB.alloc (.cells (uf [V.advW, x.id, Lib.decDigits x.rev.toNat, Lib.decDigits x.sev.toNat]) 9)).alloc (.cells #[(⟨some ⟨wB.heap.size, 0, none⟩, 4, 4⟩ : Lsl).v] 47))) := zvq ⟨⟨_, by rw [← hsC]; exact hlr⟩, hbE, by have := hbD.size; omega⟩
  change Exit.then _ _ _ _ ((wB.alloc (.cells (uf [V.advW, x.id, Lib.decDigits x.rev.toNat, Lib.decDigits x.sev.toNat]) 9)).alloc (.cells #[(⟨some ⟨wB.heap.size, 0, none⟩, 4, 4⟩ : Lsl).v] 47))
  try simp only [World.size_alloc]
  clear hu0 hlr hbE hHeld c0 c1 c2 hw2z hbA hbA2 hbB hbB2 hbC hbD c3
  generalize (wB.alloc (.cells (uf [V.advW, x.id, Lib.decDigits x.rev.toNat, Lib.decDigits x.sev.toNat]) 9)).alloc (.cells #[(⟨some ⟨wB.heap.size, 0, none⟩, 4, 4⟩ : Lsl).v] 47) = W4 at *
  clear hsC
  generalize wB.heap.size + 1 = b4 at *
  go_wp2
  go_loopw [4, 25] (fun ov iv wx => ∃ k : Nat, k ≤ x.aff.length /\ iv = .int .i64 k /\ EncS (w.heap.size + 1) W1 ov (V.jt x k) wx) (fun _ iv _ => x.aff.length - (intOf iv).toNat)
  case atStart => exact ⟨0, Nat.zero_le _, rfl, HS0.out⟩
  case round =>
   obtain ⟨k, hk, rfl, hes⟩ := hrel
   obtain ⟨us, hrow⟩ := hes.row
   obtain ⟨oa, oc, rfl⟩ := hrow.slice
   have HR := zvq hrow
   have HBR := zvq hes.below
   have hNs := hes.size
   clear hrow hes HS0 y3
   by_cases hlt : k < x.aff.length
   ·obtain ⟨hwf, b, off, ua, uc, rfl, hblt, ha⟩ := HV1.out.at k hlt
    have HBR1 : Hid (Below W1.heap.size W1 wr) := zvq (by rw [HSZ.out]; exact HBR.out)
    have HW := zvq hwf
    have HA := zvq (ha.below HBR1.out)
    have HST := zvq (V.zfd hlt)
    have hso := HSN.out x.aff[k] (List.getElem_mem hlt)
    have HFM : Hid (V.yc x.aff[k].rs x.aff[k].its = (V.xl x.aff[k].its, 0)) := zvq (by
      obtain ⟨_, h2, _, h4⟩ := V.yk hso
      unfold V.yc
      rw [h2, if_pos h4])
    have HLA : Hid (V.uk x.aff[k] = [V.affW, V.qb x.aff[k].sch, x.aff[k].name, V.xl x.aff[k].its]) := zvq rfl
    rw [HLA.out] at HST
    have hi1 : (0 : Int) ≤ (k : Int) := by omega
    have hi2 : (k : Int) < (x.aff.length : Int) := by omega
    have wr1 : IntKind.i64.wrap ((k : Int) + 1) = (k : Int) + 1 := IntWalk.i64_in _ (by omega)
    clear hwf ha hso HLA
    generalize x.aff[k] = a at *
    have e0 := HA.out.c0
    have e1 := HA.out.c1
    have e2 := HA.out.c2
    have e3 := HA.out.c3
    obtain ⟨hbZ, x0, x1, x2, x3⟩ := zc6 a (.slice ua a.its.length uc) wr
    have HIZ := zvq (HA.out.its.below hbZ)
    have HRZ := zvq (HR.out.later hbZ)
    have HBZ := zvq (HBR.out.trans (hbZ.mono hNs))
    have HMZ := zvq (HM1.out.below (HBR1.out.trans (hbZ.mono HBR1.out.size)))
    have hzZ := hbZ.size
    have HXB : Hid (some wr.heap.size = (Value.slice oa (V.jt x k).length oc).ownBlock -> False) := zvq (fun e => by
      have := HR.out.row.lt _ e.symm
      omega)
    clear hbZ HR HBR HBR1
    go_wp2_with fail
    generalize wr.alloc (.cells #[.int .i64 a.sch, .string ⟨a.name.toArray⟩, .int .i64 a.rs, .slice ua a.its.length uc] 34) = wz at *
    generalize wr.heap.size = X at *
    clear e0 e1 e2 e3
    refine (zot a.rs (.slice ua a.its.length uc) a.its wz HMZ.out HIZ.out HW.out.lens HW.out.len).mono ?_
    rintro e wF ⟨rfl, hbF⟩
    rw [HFM.out]
    replace x0 := zb hbF x0
    replace x1 := zb hbF x1
    replace HRZ := zvq (HRZ.out.later hbF)
    replace HBZ := zvq (HBZ.out.trans (hbF.mono (by omega)))
    have hzF := hbF.size
    have hNz : w.heap.size + 1 ≤ wF.heap.size := by omega
    clear hbF HIZ HMZ x2 x3
    go_wp2_with fail
    refine wp_region_held_drew (S := (fun W' => W'.cell? ⟨X, 0, none⟩ = some (.int .i64 a.sch) /\ W'.cell? ⟨X, 1, none⟩ = some (.string ⟨a.name.toArray⟩))) (by kernel_rfl) (by (try dsimp only); exact ⟨zb (zvt _ wF).drew x0, zb (zvt _ wF).drew x1⟩) (fun hHeld => ?_)
    refine tk 0 ?_
    refine tk 1 ?_
    refine tk 2 ?_
    refine tk 4 ?_
    refine tk 5 ?_
    refine tk 6 ?_
    refine rd 3 fun K hK => ?_
    go_simp
    refine (zki a.sch wF.drew).mono ?_
    exact zv5
   ·obtain rfl : k = x.aff.length := by omega
    have HLN := zvq HR.out.lines
    go_wp2_with fail
    refine (zta _ (V.qi x) wr HLN.out HWD.out).mono ?_
    intro e w3 he
    have HBE : Hid (Below w.heap.size w w3) := zvq (HB1.out.trans ((HBR.out.trans (he.2.2.mono hNs)).mono (by omega)))
    by_cases hz : V.encE (V.qi x) = 0
    ·obtain ⟨u, rfl, hbuf⟩ := he.1 hz
     have HE2 : Hid (V.encV x = (V.doc (V.qi x), 0)) := zvq (by rw [HEV.out, if_pos hz])
     have HBF := zvq hbuf
     clear he hz hbuf
     go_wp2
     go_ret2
     exact ⟨fun _ => ⟨u, wr.heap.size, wr, rfl, by rw [HE2.out]; exact HBF.out⟩, fun h => absurd (by rw [HE2.out]) h, HBE.out⟩
    ·exact zye
variable {F : Fence} {n : Nat} {P : Program}
def HandsP {α : Type} (F : Fence) (n : Nat) (P : Program) (g : Nat) (lb : Array Value) (encs : α -> Array Value) (Kp : World -> World -> Prop) (S Sp : List α -> Prop) (Ok : List α -> α -> Prop) (w : World) (b : Nat) : Prop :=
 ∀ (l : Nat) (J Jx : List α -> World -> Prop) (W : World), Below w.heap.size w W -> (∀ s A v, J s A -> J s (A.setCell ⟨b, 0, none⟩ v)) ->
  (∀ pre x W1, J pre W1 -> Ok pre x -> YieldAt F (n - 1) P l (encs x) W1 fun e W' =>
    (e = .returned (.bool true) /\ J (pre ++ [x]) W' /\ Kp W1 W') ∨ (e = .returned (.bool false) /\ Jx (pre ++ [x]) W')) ->
  J [] W ->
  CallsIn F n P g (#[.func (.yield l) #[] #[]] ++ lb) W fun e W' => (∃ v, e = .returned v) /\ ((∃ xs, S xs /\ J xs W') ∨ (∃ pre, Sp pre /\ Jx pre W'))
structure RoundP {α : Type} (F : Fence) (n : Nat) (P : Program) (B b : Nat) (ps : Array Tmp) (t : Array Value) (assign body : Code) (encs : α -> Array Value) (Kp : World -> World -> Prop) (Ok : List α -> α -> Prop) (I : List α -> World -> Prop) (Ix : Code -> List α -> World -> Prop) (act : α -> Act) : Prop where
 own : OwnFrom B I
 ownx : ∀ c, OwnFrom B (Ix c)
 state : ∀ s A v, I s A -> I s (A.setCell ⟨b, 0, none⟩ v)
 assigned : ∀ (l : Nat) (x : α) (W : World) (K : Act -> World -> Prop), K (act x) W ->
  assign.wpIn (F.inRound l) (n - 1 - 1) P (Exit.then K (fun _ _ _ => False)) { tmps := (ps.zip (encs x)).foldl (fun t (p, v) => t.setIfInBounds p v) t, defers := [] } W
 run : ∀ (l : Nat) (pre : List α) (x : α) (W : World), I pre W -> Ok pre x -> body.wpIn (F.inRound l) (n - 1 - 1) P (ownPostK Kp I Ix (pre ++ [x]) W) (act x) W
theorem RoundP.yields {α : Type} {B b : Nat} {ps : Array Tmp} {t : Array Value} {assign body : Code} {encs : α -> Array Value} {Kp : World -> World -> Prop} {Ok : List α -> α -> Prop} {I : List α -> World -> Prop} {Ix : Code -> List α -> World -> Prop} {act : α -> Act}
  (h : RoundP F n P B b ps t assign body encs Kp Ok I Ix act) {fn : FuncId} (hfn : F.fn fn) (hps : ∀ x, (encs x).size = ps.size)
  (hKt : ∀ {A C D : World}, Kp A C -> Kp C D -> Kp A D) (hKb : ∀ (W : World) (l : Nat) (o o' : Obj), B ≤ l -> W.heap[l]? = some o -> o.isCells = false -> o.isWalk = false -> Kp W (W.putObj l o'))
  {pre : List α} {x : α} {W : World} (hi : I pre W) (hB : Booked B (recd fn t ps assign body B .ready none) W) (hx : Ok pre x) :
  YieldAt F (n - 1 - 1) P (B + 1) (encs x) W fun e W' =>
   (e = .returned (.bool true) /\ (I (pre ++ [x]) W' /\ Booked B (recd fn t ps assign body B .ready none) W') /\ Kp W W') ∨
   (e = .returned (.bool false) /\ ∃ c, Ix c (pre ++ [x]) W' /\ Booked B (recd fn t ps assign body B .done (some c)) W') := by
 have hbusy := hB.turn (recd fn t ps assign body B .busy none)
 have hk0 := hKb W (B + 1) _ (.loop (recd fn t ps assign body B .busy none)) (Nat.le_succ B) hB.at1 rfl rfl
 refine ⟨fn, _, assign, body, run_yield (P := P) (args := encs x) hB.at1 (hps x), roundIn_of_wpIn hfn (h.assigned _ x W _ ⟨_, run_beginRound hB.at1 rfl, ?_⟩)⟩
 refine wpIn_mono (h.run _ pre x _ (hB.own h.own hi _) hx) fun e a3 W3 hp => ?_
 have left : ∀ c, KeepsOthers (W.putObj (B + 1) (.loop (recd fn t ps assign body B .busy none))) W3 -> Ix c (pre ++ [x]) W3 ->
   ∃ c', Ix c' (pre ++ [x]) (W3.putObj (B + 1) (.loop (recd fn t ps assign body B .done (some c)))) /\ Booked B (recd fn t ps assign body B .done (some c')) (W3.putObj (B + 1) (.loop (recd fn t ps assign body B .done (some c)))) :=
  fun c k hx => ⟨c, (hbusy.keep k).own (h.ownx c) hx _, (hbusy.keep k).turn _⟩
 cases e with
 | normal => exact ⟨_, _, (hbusy.keep hp.1).ends none, .inl ⟨rfl, ⟨(hbusy.keep hp.1).own h.own hp.2.2 _, (hbusy.keep hp.1).turn _⟩, hKt (hKt hk0 hp.2.1) (hKb _ _ _ _ (Nat.le_succ B) (hbusy.keep hp.1).at1 rfl rfl)⟩⟩
 | ret => exact ⟨_, _, (hbusy.keep hp.1).ends (some .ret), .inr ⟨rfl, left _ hp.1 hp.2⟩⟩
 | exit id => exact ⟨_, _, (hbusy.keep hp.1).ends (some (.exit id)), .inr ⟨rfl, left _ hp.1 hp.2⟩⟩
 | goto c => exact ⟨_, _, (hbusy.keep hp.1).ends (some (.goto c)), .inr ⟨rfl, left _ hp.1 hp.2⟩⟩
 | panic ch => exact hp.elim
 | outgrown => exact hp.elim
theorem zgb {α : Type} {g : Operand} {ps : Array Tmp} {assign body : Code} {Q : Exit -> Act -> World -> Prop} {a : Act} {w : World}
  (hro : F.round = none) (h1 : 1 ≤ n) {gf : Nat} {lb : Array Value} (hg : a.eval g = .func (.func gf) #[] lb) (hFg : F.fn gf) (eg : ∀ args w, (callFunc gf args).run P w = .ok (.enter gf args) w)
  {encs : α -> Array Value} {Kp : World -> World -> Prop} {S Sp : List α -> Prop} {Ok : List α -> α -> Prop} {b : Nat} (hb : b < w.heap.size) (hseq : HandsP F (n - 1) P gf lb encs Kp S Sp Ok w b)
  (hKt : ∀ {A B C : World}, Kp A B -> Kp B C -> Kp A C) (hKb : ∀ (W : World) (l : Nat) (o o' : Obj), w.heap.size ≤ l -> W.heap[l]? = some o -> o.isCells = false -> o.isWalk = false -> Kp W (W.putObj l o')) (hps : ∀ x, (encs x).size = ps.size)
  {I : List α -> World -> Prop} {Ix : Code -> List α -> World -> Prop} {act : α -> Act} (hr : RoundP F n P w.heap.size b ps a.tmps assign body encs Kp Ok I Ix act) (h0 : I [] w)
  (hdone : ∀ (D : Nat) (xs : List α) (W : World), w.heap.size ≤ D -> S xs -> I xs W -> W.heap[D]? = some (.deferred (some [])) -> Q .normal { a with defers := { target := .collected D, args := #[] } :: a.defers } W)
  (hstop : ∀ (D : Nat) (c : Code) (pre : List α) (W : World), w.heap.size ≤ D -> Sp pre -> Ix c pre W -> W.heap[D]? = some (.deferred (some [])) -> c.wpIn F n P Q { a with defers := { target := .collected D, args := #[] } :: a.defers } W) :
  (Code.rangeFunc g ps assign body).wpIn F n P Q a w := by
 refine wpIn_rangeFunc fun fn hfn => ?_
 have hbk := Booked.fresh w (recd fn a.tmps ps assign body w.heap.size .ready none)
 have hbel : Below w.heap.size w ((w.alloc (.deferred (some []))).alloc (.loop (recd fn a.tmps ps assign body w.heap.size .ready none))) := ((zvt _ w).alloc (zvs _) _).alloc (by simp) _
 have hI1 := hr.own.alloc (.loop (recd fn a.tmps ps assign body w.heap.size .ready none)) (hr.own.alloc (.deferred (some [])) h0)
 rw [hro]
 have hent := run_enterLoop_outer (P := P) (w := w) fn a.tmps ps assign body
 obtain ⟨W1, hW1⟩ : ∃ W1, W1 = (w.alloc (.deferred (some []))).alloc (.loop (recd fn a.tmps ps assign body w.heap.size .ready none)) := ⟨_, rfl⟩
 rw [← hW1] at hbk hbel hI1
 refine ⟨w.heap.size + 1, [{ target := .collected w.heap.size, args := #[] }], W1, { target := .fn (.func gf) lb, args := #[.func (.yield (w.heap.size + 1)) #[] #[]] }, W1, gf,
   #[.func (.yield (w.heap.size + 1)) #[] #[]] ++ lb, W1, by rw [hW1]; exact hent, ?called, ?led, ?entered, fun _ => h1, ?it⟩
 case called => simp only [resolve, hg]; simp [go_sem]
 case led => intro f' hf'; simp [Target.leads] at hf'; exact hf' ▸ hFg
 case entered => simp [invoke, go_sem, eg]
 case it =>
  exact zw7
end Go.Proofs.YtiloljoancdcbaaGreatDoor
