/-
  Lemmas for the law.
-/
import Derived.Test.YtiloljoancdcbaaGreatDoorC40x42
import Derived.Test.YtiloljoancdcbaaGreatDoorC40x43
import Derived.Test.YtiloljoancdcbaaGreatDoorC40x44
import Derived.Test.YtiloljoancdcbaaGreatDoorC40x45
import Derived.Test.YtiloljoancdcbaaGreatDoorC40x20
set_option linter.all false
set_option maxRecDepth 100000
set_option maxHeartbeats 12800000
namespace Go.Proofs.YtiloljoancdcbaaGreatDoor
open Go.RowKit
theorem zg4 {ops : Array Oper} {o : Oper} {a : Act} {w : World} {K : Act -> World -> Prop} {Q : Exit -> Act -> World -> Prop} {E : Prop} (hgd : o.guard = none) (v : Value) (he : (execOp a.eval o).run Tryz.prog w = .ok (.value v) w)
  (h : K (a.put o.dst v) w) : if Region.wanted o (yielded ops a.tmps) = true then Oper.wp Tryz.prog o a w K Q else E := by
 rw [if_pos (by simp [Region.wanted, hgd])]
 unfold Oper.wp
 rw [he]
 exact h
theorem zg5 {ops : Array Oper} {o : Oper} {a : Act} {w : World} {K : Act -> World -> Prop} {Q : Exit -> Act -> World -> Prop} {E : Prop} (hgd : o.guard = none) (ty : TypeId) (x y : Operand) (ho : o.op = .store ty x y)
  (b off : Nat) (hx : a.eval x = .pointer (some ⟨b, off, none⟩)) (v : Value) (hy : a.eval y = v) (u : Value) (hc : w.cell? ⟨b, off, none⟩ = some u) (hf : w.frozen? ⟨b, off, none⟩ = false) (hi : (Tryz.prog.info? ty).map (·.size) = some 1) (h1 : v.oneCell' = true)
  (h : K (a.put o.dst undef) (w.setCell ⟨b, off, none⟩ v)) : if Region.wanted o (yielded ops a.tmps) = true then Oper.wp Tryz.prog o a w K Q else E := by
 rw [if_pos (by simp [Region.wanted, hgd])]
 unfold Oper.wp execOp
 simp only [ho, hx, hy, Instr.storeAt, Instr.sureAddr, Sem.run_bind, Sem.run_pure, Result.andThen_ok, ztd hc hf hi h1]
 exact h
theorem vf {ops : Array Oper} {o : Oper} {a : Act} {w : World} {K : Act -> World -> Prop} {Q : Exit -> Act -> World -> Prop} {E : Prop} (hgd : o.guard = none) (ty : TypeId) (x y : Operand) (ho : o.op = .store ty x y)
  (g : Nat) (old : Array Value) (t : TypeId) (hg : w.heap[g]? = some (.cells old t (0, 0))) (hx : a.eval x = .pointer (some ⟨g, 0, none⟩)) (new : Array Value) (hy : a.eval y = .agg new) (hs : old.size = new.size) (hi : (Tryz.prog.info? ty).map (·.size) = some new.size) (h1 : new.all (·.oneCell') = true)
  (h : ∀ W, PutAt w W g new t -> K (a.put o.dst undef) W) : if Region.wanted o (yielded ops a.tmps) = true then Oper.wp Tryz.prog o a w K Q else E := by
 rw [if_pos (by simp [Region.wanted, hgd])]
 exact wp_store_row ty x y ho g new hx hy t old hg hi hs h1 (h _ (zno hg))
theorem zy {W W' : World} {row : Option Nat} {b o : Nat} {u : Value} (hg : W.grownBy W' row) (hb : row ≠ some b) (h : W.cell? ⟨b, o, none⟩ = some u) : W'.cell? ⟨b, o, none⟩ = some u := hg.cell h (fun e => hb e.symm)
structure R18 (wr W : World) (X : Nat) (rs : Int) (u : Value) (its : List V.Itv) : Prop where
 below : Below wr.heap.size wr W
 heap : W.heap[X]? = some (.cells #[.int .i64 rs, u] 32 (0, 0))
 itvs : Itvs W u its
 own : ∀ c, u.ownBlock = some c -> wr.heap.size ≤ c
 base : wr.heap.size ≤ X
theorem R18.one {wr wd w7 W9 : World} {o : Obj} {rs : Int} {u : Value} {its : List V.Itv} (hz : wr.heap.size ≤ wd.heap.size) (hu : Itvs w7 u its) (how : ∀ c, u.ownBlock = some c -> (wd.alloc o).heap.size ≤ c) (_hb7 : Below (wd.alloc o).heap.size (wd.alloc o) w7) (hb : Below wr.heap.size wr w7) (hp : PutAt w7 W9 wd.heap.size #[.int .i64 rs, u] 32) : R18 wr W9 wd.heap.size rs u its :=
 ⟨hp.below hb hz, hp.here, hu.grown hp.grown (fun _ c hc e => by have := how c hc; simp at this; cases e; omega), (fun c hc => by have := how c hc; simp at this; omega), hz⟩
theorem R18.two {wr wd w7 W9 : World} {o : Obj} {rs : Int} {u : Value} {its : List V.Itv} (hz : wr.heap.size ≤ wd.heap.size) (hu : Itvs w7 u its) (how : ∀ c, u.ownBlock = some c -> wd.heap.size ≤ c) (hb7 : Below wd.heap.size wd w7) (hb : Below wr.heap.size wr (w7.alloc o)) (hp : PutAt (w7.alloc o) W9 w7.heap.size #[.int .i64 rs, u] 32) : R18 wr W9 w7.heap.size rs u its := by
 have hz7 : wr.heap.size ≤ w7.heap.size := Nat.le_trans hz hb7.size
 refine ⟨hp.below hb hz7, hp.here, (hu.below ((zvt _ w7).alloc (zvs _) o)).grown hp.grown (fun hne c hc e => ?_), (fun c hc => by have := how c hc; omega), hz7⟩
 have := hu.lt hne hc
 cases e
 omega
theorem VInv.fin {V0 : World} {N0 O : Nat} {i r s v : Value} {us : List Fs} {W w8 : World} {p : Fs} {v8 : Value} (h : VInv V0 N0 O i r s v us W) (hr8 : GRow 34 4 fE w8 O v8 (us ++ [p])) (hg8 : W.grownBy w8 v.ownBlock) (ho8 : v8.ownBlock = v.ownBlock ∨ v8.ownBlock = some W.heap.size) (hp : FOk W v p) (how : ∀ c, p.2.v.ownBlock = some c -> O < c) :
  ∃ va vc, v8 = .slice va (us.length + 1) vc /\ w8.cell? ⟨O, 3, none⟩ = some v /\ w8.frozen? ⟨O, 3, none⟩ = false /\ VInv V0 N0 O i r s v8 (us ++ [p]) (w8.setCell ⟨O, 3, none⟩ v8) := by
 have hk8 := h.invKept hg8
 have hfr := h.row.add hr8 hg8 ho8 hp
 obtain ⟨va, vc, e⟩ := hfr.slice
 exact ⟨va, vc, by rw [e]; simp, (zau hk8).2.2.2, zbj hk8, h.append hfr hg8 how⟩
theorem VInv.start {w1 : World} {N0 : Nat} {i r s : Value} (hz : w1.heap[N0]? = some (.cells #[.string ⟨#[]⟩, .int .i64 0, .int .i64 0, .slice none 0 0] 25 (0, 0))) (hN : N0 + 1 ≤ w1.heap.size) : VInv w1 N0 w1.heap.size i r s (.slice none 0 0) [] (((w1.alloc (.cells #[i, .int .i64 0, .int .i64 0, .slice none 0 0] 25)).setCell ⟨w1.heap.size, 1, none⟩ r).setCell ⟨w1.heap.size, 2, none⟩ s) := by
 have hb : Below w1.heap.size w1 (((w1.alloc (.cells #[i, .int .i64 0, .int .i64 0, .slice none 0 0] 25)).setCell ⟨w1.heap.size, 1, none⟩ r).setCell ⟨w1.heap.size, 2, none⟩ s) := ((((zvt _ w1).alloc (zvs _) _).setCell (zvs _) _).setCell (zvs _) _)
 exact ⟨FRow.nil _ _, by rw [vw _ _ (vw _ _ (heap_alloc_new w1 _))]; rfl, (hb.block _ (by omega)).trans hz, (fun p hp => by simp at hp), hb, hN⟩
theorem i64Size : (Tryz.prog.info? 2).map (·.size) = some 1 := by kernel_rfl
theorem intSizeA : (Tryz.prog.info? 3).map (·.size) = some 1 := by kernel_rfl
theorem zv3 {P : Prop} (h : P := by
 clear hK K
 refine rd 12 fun K hK => ?_
 refine zcb zhk (by decide) zon affGI (by decide) rfl _ _ 23 rfl Tryz.underlying23 O (.slice vao us.length vco) us rfl HA.out.row.row wd.heap.size ((⟨V.qh s, n, rs, its⟩, ⟨up, its.length, uq⟩) : Fs) rfl HNW.out (by have := HUL.out; omega) HO8.out ?_
 intro v8 w8 hr8 hg8 ho8
 obtain ⟨va8, vc8, rfl, hc8, hf8, hM9⟩ := HA.out.fin hr8 hg8 ho8 HP8.out HOW8.out
 try dsimp only
 refine hK.out _ _ ?_ (fun hHeld => nx ?_)
 ·(try dsimp only); exact ⟨zy hg8 HN1.out hHeld.1, zy hg8 HN1.out hHeld.2.1, zy hg8 HN2.out hHeld.2.2.1, zy hg8 HN2.out hHeld.2.2.2⟩
 clear hK K
 refine tk 13 ?_
 refine rd 14 fun K hK => ?_
 refine zg5 rfl 23 _ _ rfl O 3 rfl (.slice va8 (us.length + 1) vc8) rfl _ hc8 hf8 zev rfl ?_
 have hgs := zbf w8 O 3 (.slice va8 (us.length + 1) vc8)
 generalize w8.setCell ⟨O, 3, none⟩ (.slice va8 (us.length + 1) vc8) = w9 at *
 try dsimp only
 refine hK.out _ _ ?_ (fun hHeld => nx ?_)
 ·(try dsimp only); exact ⟨zy hgs HN3.out hHeld.1, zy hgs HN3.out hHeld.2.1, zy hgs HN4.out hHeld.2.2.1, zy hgs HN4.out hHeld.2.2.2⟩
 clear hK K
 refine wpAnyH_done (by kernel_rfl) ?_ _
 clear hHeld hO3 hO3b y1 y2 s0 s1 hgs
 go_wp2
 go_roundw
 case rel => exact ⟨k + 1, _, us ++ [((⟨V.qh s, n, rs, its⟩, ⟨up, its.length, uq⟩) : Fs)], by omega, by rw [List.length_append, HOK.out]; rfl, by go_num, by rw [List.map_append]; exact HR8.out, hM9⟩
 case measure => simp [intOf]; omega) : P := h
theorem zxc {P : Prop} (h : P := by
 go_wp2_with (first | (refine qr rfl qa _ _ rfl w.heap.size #[.string ⟨#[]⟩, .int .i64 0, .int .i64 0, .slice none 0 0] 25 HKZ.out rfl (.string ⟨#[]⟩) (.int .i64 0) (.int .i64 0) (.slice none 0 0) ⟨rfl, rfl, rfl, rfl⟩ rfl rfl ?_) | fail)
 exact HEX.out 2 _ HE.out HKZ.out HBW.out _ Tryz.results15 _ rfl rfl rfl) : P := h
theorem zxd {P : Prop} (h : P := by
 go_wp2_with (first | (refine qr rfl qa _ _ rfl w.heap.size #[.string ⟨#[]⟩, .int .i64 0, .int .i64 0, .slice none 0 0] 25 HK1.out rfl (.string ⟨#[]⟩) (.int .i64 0) (.int .i64 0) (.slice none 0 0) ⟨rfl, rfl, rfl, rfl⟩ rfl rfl ?_) | fail)
 exact HEX.out 2 _ HE.out HK1.out HB1.out _ Tryz.results15 _ rfl rfl rfl) : P := h
theorem zx0 {P : Prop} (h : P := by
 go_wp2_with (first | (refine qr rfl qa _ _ rfl w.heap.size #[.string ⟨#[]⟩, .int .i64 0, .int .i64 0, .slice none 0 0] 25 HD4.out.zero rfl (.string ⟨#[]⟩) (.int .i64 0) (.int .i64 0) (.slice none 0 0) ⟨rfl, rfl, rfl, rfl⟩ rfl rfl ?_) | fail)
 exact HEX.out 1 _ HE.out HD4.out.zero HB4.out _ Tryz.results15 _ rfl rfl rfl) : P := h
theorem zx2 {P : Prop} (h : P := by
 go_wp2_with (first | (refine qr rfl qa _ _ rfl w.heap.size #[.string ⟨#[]⟩, .int .i64 0, .int .i64 0, .slice none 0 0] 25 HK2.out rfl (.string ⟨#[]⟩) (.int .i64 0) (.int .i64 0) (.slice none 0 0) ⟨rfl, rfl, rfl, rfl⟩ rfl rfl ?_) | fail)
 exact HEX.out 2 _ HE.out HK2.out HB2.out _ Tryz.results15 _ rfl rfl rfl) : P := h
theorem zjv (v : Value) (bs : V.Bs) (w : World) (hm : zg w) (hp : zcx w) (hv : zae w v bs) (hl : bs.length ≤ maxLen) :
  Calls Tryz.prog 15 #[v] w (zgo bs w) := by
 obtain ⟨hb0, hk0, hz0⟩ := zlg w
 have HM := zvq hm
 have HP := zvq hp
 have HB0 := zvq hb0
 have HK0 := zvq hk0
 have HZ0 := zvq hz0
 have HV := zvq (hv.below hb0)
 have HLB := zvq hl
 have HEX : Hid (∀ (k : Int) (W : World), V.decV bs = (V.zV, k) -> W.heap[w.heap.size]? = some (.cells #[.string ⟨#[]⟩, .int .i64 0, .int .i64 0, .slice none 0 0] 25 (0, 0)) -> Below w.heap.size w W ->
     ∀ fn : Func, fn.results = #[.cell 2 25, .tmp 3] -> ∀ a : Act, a.tmps.getD 2 undef = .pointer (some ⟨w.heap.size, 0, none⟩) -> a.tmps.getD 3 undef = .int .i64 k -> a.defers = [] ->
     bodyPost Tryz.prog fn (zgo bs w) .ret a (W.setRow w.heap.size #[.string ⟨#[]⟩, .int .i64 0, .int .i64 0, .slice none 0 0])) := zvq (by
   intro k W hr hg hb fn hfn a h4 h5 h6
   refine bodyPost_ret (jz hfn h4 h5 (zdg Tryz.underlying25 qa (setRow_heap _ _ _ _ _ _ hg))) h6 ?_
   exact ⟨.slice none 0 0, by rw [hr]; rfl, by rw [hr]; exact Affs.nil _, qu hb _ _ (zvs _) (Array.getElem?_eq_some_iff.1 hg).1⟩)
 obtain ⟨va, vc, rfl⟩ : ∃ va vc, v = .slice va bs.length vc := by obtain ⟨a, c, e, _⟩ := hv; exact ⟨a, c, e⟩
 clear hm hp hv hl hb0 hk0 hz0
 go_enter Tryz.func15, Tryz.ntmps15
 go_wp2_with fail
 generalize w.alloc (.cells #[.string ⟨#[]⟩, .int .i64 0, .int .i64 0, .slice none 0 0] 25) = w0 at *
 refine (zkl (.slice va bs.length vc) bs w0 (HM.out.below HB0.out) HV.out HLB.out).mono ?_
 rintro e w1 ⟨u, rfl, hu, hcap, hb1⟩
 have HB1 := zvr HB0 hb1
 have HK1 := zvq ((hb1.block _ (by have := HZ0.out; omega)).trans HK0.out)
 have HZ1 : Hid (w.heap.size + 1 ≤ w1.heap.size) := zvq (by have := hb1.size; have := HZ0.out; omega)
 have HU := zvq hu
 have HV1 := zvq (HV.out.below hb1)
 have HWD := zvq (V.decP_words (bs := bs))
 have HLN := zvq (V.decP_len bs)
 obtain ⟨ua, un, uc, rfl, hvc⟩ := hcap
 clear hb1 hu HB0 HK0 HZ0 HV
 obtain ⟨⟨ls, c⟩, hdp⟩ : ∃ p, V.decP bs = p := ⟨_, rfl⟩
 rw [hdp] at HU HWD HLN ⊢
 simp only at HU HWD HLN ⊢
 have HDP := zvq hdp
 clear hdp
 obtain rfl : un = ls.length := by obtain ⟨_, _, e, _⟩ := HU.out; cases e; rfl
 by_cases hc : c = 0
 case neg =>
  have HE := zvq (V.zkt HDP.out hc)
  have hcb : (c != 0) = true := by simp [hc]
  go_wp2_with (first | (refine qr rfl qa _ _ rfl w.heap.size #[.string ⟨#[]⟩, .int .i64 0, .int .i64 0, .slice none 0 0] 25 HK1.out rfl (.string ⟨#[]⟩) (.int .i64 0) (.int .i64 0) (.slice none 0 0) ⟨rfl, rfl, rfl, rfl⟩ rfl rfl ?_) | fail)
  exact HEX.out c _ HE.out HK1.out HB1.out _ Tryz.results15 _ rfl rfl rfl
 subst hc
 have HNO : Hid (V.jk ls = none -> V.decV bs = (V.zV, 2)) := zvq (fun h => V.zhp HDP.out h)
 have HYES : Hid (∀ x, V.jk ls = some x -> V.decV bs = if (V.encV x).2 = 0 /\ (V.encV x).1 = bs then (x, 0) else (V.zV, 1)) := zvq (fun x h => V.ze1 HDP.out h)
 have HRF : Hid (∀ x, V.jk ls = some x -> x.id.length ≤ maxLen /\ x.aff.length ≤ maxLen) := zvq (fun x h => V.readV_facts HWD.out HLN.out h)
 have HBS : Hid (∀ x, V.jk ls = some x -> 0 < bs.length) := zvq (fun x h => by
   rcases Nat.eq_zero_or_pos bs.length with e | e
   · have e2 := List.eq_nil_of_length_eq_zero e
     have h1 := HDP.out
     rw [e2, V.zfm] at h1
     cases h1
     cases h
   · exact e)
 have hn := HLN.out
 clear HDP
 match ls, HU, HWD, hvc, hn, HNO, HYES, HRF, HBS with
 | [], HU, HWD, hvc, hn, HNO, HYES, HRF, HBS =>
  have HE := zvq (HNO.out rfl)
  clear HU HWD HNO HYES HRF HBS
  exact zxd
 | l0 :: rest, HU, HWD, hvc, hn, HNO, HYES, HRF, HBS =>
  obtain ⟨B, off, u0, rfl, hBlt, hu0, hs0⟩ := HU.out.at 0 (by simp)
  rw [Nat.add_zero] at hu0
  simp only [List.getElem_cons_zero] at hs0
  obtain ⟨m, hmm⟩ : ∃ m, m = rest.length + 1 := ⟨_, rfl⟩
  have hls : (l0 :: rest).length = m := by rw [hmm]; rfl
  rw [hls] at hvc hn HU ⊢
  have HMM := zvq hmm
  have q1 : (m : Int) ≠ 0 := by omega
  have q2 : ((m : Int) == 0) = false := by rw [zvu]; omega
  have q3 : (0 : Int) < (m : Int) := by omega
  clear hls hmm
  by_cases h4 : l0.length = 4
  case neg =>
   have HE := zvq (HNO.out (V.zne (rest := rest) h4))
   obtain ⟨a0, c0, rfl, hjunk⟩ := hs0
   have q4 : ((l0.length : Int) != 4) = true := by simp; omega
   have q5 : ¬ (l0.length : Int) = 4 := by omega
   clear hjunk HU HWD h4 HNO HYES HRF HBS
   generalize l0.length = m0 at *
   exact zxd
  obtain ⟨a, i, r0, t0, rfl⟩ := zde h4
  obtain ⟨b0, o0, c0, rfl, hb0lt, ca, ci, cr, cs⟩ := zd4 hs0
  have hrl : (⟨r0.toArray⟩ : ByteArray).size ≤ maxLen := by rw [yi]; have := HWD.out _ (List.mem_cons_self ..) r0 (by simp); unfold maxLen; omega
  have hsl : (⟨t0.toArray⟩ : ByteArray).size ≤ maxLen := by rw [yi]; have := HWD.out _ (List.mem_cons_self ..) t0 (by simp); unfold maxLen; omega
  clear h4 hs0
  by_cases ha : a = V.advW
  case neg =>
   have HE : Hid (V.decV bs = (V.zV, 2)) := zvq (HNO.out (by rw [V.zbr, if_neg (fun e => ha e.1)]))
   have hne : (a == [97, 100, 118, 105, 115, 111, 114, 121]) = false := by rw [zvu]; exact ha
   clear HU HWD ha ci cr cs hrl hsl HNO HYES HRF HBS
   exact zxd
  subst ha
  have hcw : (⟨V.advW.toArray⟩ : ByteArray) = ⟨#[97, 100, 118, 105, 115, 111, 114, 121]⟩ := rfl
  rw [hcw] at ca
  clear hcw
  have HF := zvq (V.zbr V.advW i r0 t0 rest)
  have HRL0 := zvq hrl
  have HSL0 := zvq hsl
  clear hrl hsl
  have HST : Hid (∀ r s, VInv w1 w.heap.size w1.heap.size (.string ⟨i.toArray⟩) r s (.slice none 0 0) [] (((w1.alloc (.cells #[.string ⟨i.toArray⟩, .int .i64 0, .int .i64 0, .slice none 0 0] 25)).setCell ⟨w1.heap.size, 1, none⟩ r).setCell ⟨w1.heap.size, 2, none⟩ s)) := zvq (fun r s => VInv.start HK1.out HZ1.out)
  have hbO : Below w1.heap.size w1 (w1.alloc (.cells #[.string ⟨i.toArray⟩, .int .i64 0, .int .i64 0, .slice none 0 0] 25)) := (zvt _ w1).alloc (zvs _) _
  have HKO : Hid ((w1.alloc (.cells #[.string ⟨i.toArray⟩, .int .i64 0, .int .i64 0, .slice none 0 0] 25)).heap[w1.heap.size]? = some (.cells #[.string ⟨i.toArray⟩, .int .i64 0, .int .i64 0, .slice none 0 0] 25 (0, 0))) := zvq (heap_alloc_new w1 _)
  have HK2 := zvq ((hbO.block _ (by have := HZ1.out; omega)).trans HK1.out)
  have HB2 := zvr HB1 hbO
  have e0 := zb hbO hu0
  have e2 := zb hbO cr
  have e3 := zb hbO cs
  clear hbO
  go_wp2_with fail
  generalize w1.alloc (.cells #[.string ⟨i.toArray⟩, .int .i64 0, .int .i64 0, .slice none 0 0] 25) = w2 at *
  clear hu0 ca ci cr cs
  refine (zay ⟨r0.toArray⟩ w2 HRL0.out).mono ?_
  rintro e w' ⟨rfl, rfl⟩
  rw [kk] at *
  have HF1 : Hid ((V.numP r0).2 = false -> V.jk ([V.advW, i, r0, t0] :: rest) = none) := zvq (fun h => by rw [HF.out, if_neg (fun e => by rw [h] at e; cases e.2.1)])
  have HF2 : Hid ((V.numP t0).2 = false -> V.jk ([V.advW, i, r0, t0] :: rest) = none) := zvq (fun h => by rw [HF.out, if_neg (fun e => by rw [h] at e; cases e.2.2)])
  have HF3 : Hid ((V.numP r0).2 = true -> (V.numP t0).2 = true -> V.jk ([V.advW, i, r0, t0] :: rest) = (V.ks rest).map fun l => ⟨i, (V.numP r0).1, (V.numP t0).1, l⟩) := zvq (fun h g => by rw [HF.out, if_pos (by simp [h, g])])
  clear HF
  generalize (V.numP r0).1 = nr at *
  generalize (V.numP r0).2 = okr at *
  go_wp2_with fail
  refine (zay ⟨t0.toArray⟩ _ HSL0.out).mono ?_
  rintro e w' ⟨rfl, rfl⟩
  rw [kk] at *
  have hns := zmv t0
  generalize (V.numP t0).1 = ns at *
  generalize (V.numP t0).2 = oks at *
  by_cases hno : okr = true /\ oks = true
  case neg =>
   have HE : Hid (V.decV bs = (V.zV, 2)) := zvq (HNO.out (by
     rcases okr with _ | _
     · exact HF1.out rfl
     · rcases oks with _ | _
       · exact HF2.out rfl
       · exact absurd ⟨rfl, rfl⟩ hno))
   clear HF1 HF2 HF3 HU HWD e0 e2 e3 HNO HYES HRF HBS HST
   rcases okr with _ | _
   ·exact zx2
   ·rcases oks with _ | _
    ·exact zx2
    ·exact absurd ⟨rfl, rfl⟩ hno
  obtain ⟨rfl, rfl⟩ := hno
  have HN3 : Hid (V.ks rest = none -> V.decV bs = (V.zV, 2)) := zvq (fun h => HNO.out (by rw [HF3.out rfl rfl, h]; rfl))
  have HN4 : Hid (∀ l, V.ks rest = some l -> V.jk ([V.advW, i, r0, t0] :: rest) = some ⟨i, nr, ns, l⟩) := zvq (fun l h => by rw [HF3.out rfl rfl, h]; rfl)
  have wns : IntKind.i64.wrap ns = ns := IntWalk.i64_in _ (by omega)
  have HBO : Hid (w.heap.size + 1 ≤ w1.heap.size /\ B < w1.heap.size /\ rest.length ≤ 999) := zvq ⟨HZ1.out, hBlt, by have := HMM.out; omega⟩
  have hc1 := (zau HKO.out).2.1
  have hf1 : w'.frozen? ⟨w1.heap.size, 1, none⟩ = false := zbj HKO.out
  have HKP : Hid ((w'.setCell ⟨w1.heap.size, 1, none⟩ (.int .i64 nr)).heap[w1.heap.size]? = some (.cells #[.string ⟨i.toArray⟩, .int .i64 nr, .int .i64 0, .slice none 0 0] 25 (0, 0))) := zvq (by rw [vw _ _ HKO.out]; rfl)
  have hc2 := (zau HKP.out).2.2.1
  have hf2 : (w'.setCell ⟨w1.heap.size, 1, none⟩ (.int .i64 nr)).frozen? ⟨w1.heap.size, 2, none⟩ = false := zbj HKP.out
  have HD5 := zvq (HST.out (.int .i64 nr) (.int .i64 ns))
  clear HF1 HF2 HF3 HNO HST hb0lt e0 e2 e3 hns
  go_wp2_with (first | (refine zpb rfl 2 _ _ rfl w1.heap.size 1 rfl (.int .i64 nr) rfl _ hc1 hf1 i64Size rfl ?_)
                     | (refine zpb rfl 3 _ _ rfl w1.heap.size 2 rfl (.int .i64 ns) rfl _ hc2 hf2 intSizeA rfl ?_) | fail)
  clear hc1 hf1 hc2 hf2 HKP HKO
  generalize (w'.setCell ⟨w1.heap.size, 1, none⟩ (.int .i64 nr)).setCell ⟨w1.heap.size, 2, none⟩ (.int .i64 ns) = w5 at *
  obtain ⟨O, hO⟩ : ∃ O, O = w1.heap.size := ⟨_, rfl⟩
  rw [← hO] at HD5 HBO ⊢
  have HOE := zvq hO
  have hn2 : rest.length ≤ 999 := HBO.out.2.2
  clear hO hBlt hvc hn q1 q2 q3 HB2 HK2 HK1
  go_loopw [11] (fun jv W => ∃ (k : Nat) (vo : Value) (us : List Fs), k ≤ rest.length /\ us.length = k /\ jv = .int .i64 ((k : Int) + 1) /\ V.vx rest k (us.map (·.1)) /\ VInv w1 w.heap.size O (.string ⟨i.toArray⟩) (.int .i64 nr) (.int .i64 ns) vo us W) (fun jv _ => rest.length + 1 - (intOf jv).toNat)
  case atStart => exact ⟨0, _, [], Nat.zero_le _, rfl, rfl, V.zgr _, HD5.out⟩
  case round =>
   obtain ⟨k, vo, us, hk, hok, rfl, hrt, hdi⟩ := hrel
   have HRT := zvq hrt
   have HOK := zvq hok
   have HDI := zvq hdi
   obtain ⟨vao, vco, hvo⟩ := hdi.row.slice
   subst hvo
   have hold : Below w1.heap.size w1 wr := by rw [← HOE.out]; exact hdi.old
   have HOLD := zvq hold
   have hMM := HMM.out
   clear hok hrt HD5
   by_cases hlt : k < rest.length
   ·have i1 : (k : Int) + 1 < (m : Int) := by omega
    have i2 : (0 : Int) ≤ (k : Int) + 1 := by omega
    have i3 : ((k : Int) + 1).toNat = k + 1 := by omega
    have wr1 : IntKind.i64.wrap ((k : Int) + 1 + 1) = (k : Int) + 1 + 1 := IntWalk.i64_in _ (by omega)
    obtain ⟨B2, off2, u, e2, hB2, hu, hs⟩ := HU.out.at (k + 1) (by simpa using hlt)
    cases e2
    rw [List.getElem_cons_succ] at hs
    have huW := zb hold hu
    have huV := huW
    rw [← Nat.add_assoc] at huV
    have HSW := zvq (kp hs hold)
    have HS1 := zvq hs
    have HWL : Hid (∀ x ∈ rest[k], x.length ≤ 32768) := zvq (fun x hx => HWD.out _ (List.mem_cons_of_mem _ (List.getElem_mem hlt)) x hx)
    have HMW := zvq (HM.out.below (HB1.out.trans (hold.mono HB1.out.size)))
    have HNF := zvq (V.zkz HRT.out hlt)
    have HYF := zvq (V.zgq HRT.out hlt)
    have HWF := zvq (V.readF_wf HWL.out)
    have HKZ := zvq hdi.zero
    have HBW : Hid (Below w.heap.size w wr) := zvr HB1 hold
    clear hold hu hs hdi hB2 hMM
    obtain ⟨lk, hlk⟩ : ∃ lk, rest[k] = lk := ⟨_, rfl⟩
    rw [hlk] at HSW HS1 HWL HNF HYF HWF
    clear hlk
    by_cases h4 : lk.length = 4
    case neg =>
     have HE := zvq (HN3.out (HNF.out (by rw [V.zms h4])))
     obtain ⟨a0, c0, rfl, hjunk⟩ := HSW.out
     have q4 : ((lk.length : Int) != 4) = true := by simp; omega
     have q5 : ¬ (lk.length : Int) = 4 := by omega
     clear hjunk h4 HSW HS1 HWL HNF HYF HWF HRT
     generalize lk.length = m0 at *
     exact zxc
    obtain ⟨a, s, n, r, rfl⟩ := zde h4
    obtain ⟨b, o, cq, hue, hblt, x0, x1, x2, x3⟩ := zd4 HSW.out
    subst hue
    have HBL1 : Hid (b < w1.heap.size) := zvq (by
      obtain ⟨b', o', c', e, h1, _⟩ := zd4 HS1.out
      cases e
      exact h1)
    clear h4 HSW HS1
    by_cases ha : a = V.affW
    case neg =>
     have HE := zvq (HN3.out (HNF.out (by rw [V.zj1 (s := s) (n := n) (r := r) ha])))
     have hne : (a == [97, 102, 102, 101, 99, 116, 115]) = false := by rw [zvu]; exact ha
     clear ha x1 x2 x3 HNF HYF HWF HRT HWL
     exact zxc
    subst ha
    have hcw : (⟨V.affW.toArray⟩ : ByteArray) = ⟨#[97, 102, 102, 101, 99, 116, 115]⟩ := rfl
    rw [hcw] at x0
    clear hcw
    rw [V.zfw] at HNF HYF HWF
    have hsr := zil s
    have HRL : Hid (r.length ≤ maxLen) := zvq (by have := HWL.out r (by simp); unfold maxLen; omega)
    clear HWL
    by_cases hz : V.qh s = 0
    case pos =>
     have HE := zvq (HN3.out (HNF.out (by rw [hz]; rfl)))
     have hzb : (V.qh s == 0) = true := by rw [hz]; rfl
     clear x2 x3 HNF HYF HWF HRT hsr
     go_wp2_with fail
     refine (yr ⟨s.toArray⟩ wr).mono ?_
     rintro e w' ⟨rfl, hw'⟩
     obtain rfl := hw'.symm
     clear hw'
     rw [kk]
     generalize V.qh s = sc at *
     exact zxc
    have hzb : (V.qh s == 0) = false := by rw [zvu]; exact hz
    have HZS := zvq hz
    have HSR := zvq hsr
    clear hsr
    go_wp2_with fail
    refine (yr ⟨s.toArray⟩ wr).mono ?_
    rintro e w' ⟨rfl, hw'⟩
    obtain rfl := hw'.symm
    clear hw'
    rw [kk]
    go_wp2_with fail
    clear hzb hz
    obtain ⟨⟨rs, its, ec⟩, hpp⟩ : ∃ p, V.parP (V.qh s) r = p := ⟨_, rfl⟩
    rw [hpp] at HNF HYF HWF
    simp only at HNF HYF HWF
    have HPP := zvq hpp
    have X2 := zvq x2
    clear hpp x0 x2 huW huV
    refine wp_region_held_drew (S := (fun W' => Below wr.heap.size wr W' /\ W'.cell? ⟨b, o + 1, none⟩ = some (.string ⟨s.toArray⟩) /\ W'.cell? ⟨b, o + 3, none⟩ = some (.string ⟨r.toArray⟩))) (by kernel_rfl) (⟨(zvt _ _).drew, zb (zvt _ _).drew x1, zb (zvt _ _).drew x3⟩) (fun hHeld => ?_)
    have hz9 : wr.heap.size ≤ wr.drew.heap.size := zvs _
    generalize wr.drew = wd at *
    refine tk 0 ?_
    refine tk 1 ?_
    refine tk 2 ?_
    refine tk 4 ?_
    refine tk 5 ?_
    refine tk 6 ?_
    refine wpAnyH_ready (rs := [3, 11]) (by kernel_rfl) (by simp) ?_
    refine (AllReadyH.cons (o := _) rfl (fun K hK => ?g1) (AllReadyH.cons (o := _) rfl (fun K hK => ?g2) AllReadyH.nil))
    case' g1 =>
     go_simp
     refine (yr ⟨s.toArray⟩ _).mono ?_
     rintro e w' ⟨rfl, hw'⟩
     obtain rfl := hw'.symm
     clear hw'
     rw [kk]
     try dsimp only
     refine hK.out _ _ ?_ (fun hHeld => nx ?_)
     ·(try dsimp only); exact hHeld
     clear hK K
     refine wpAnyH_ready (rs := [7, 11]) (by kernel_rfl) (by simp) ?_
     refine (AllReadyH.cons (o := _) rfl (fun K hK => ?g3) (AllReadyH.cons (o := _) rfl (fun K hK => ?g4) AllReadyH.nil))
     case' g3 =>
      go_simp
      refine (zd0 (V.qh s) r _ (HMW.out.below hHeld.1) HRL.out).mono ?_
      rintro e w7 ⟨u, rfl, hu, how, hb7⟩
      rw [HPP.out] at hu ⊢
      simp only at hu ⊢
      obtain ⟨up, uq, rfl⟩ := hu.slice
      unfold setV
      try dsimp only
      refine hK.out _ _ ?_ (fun hHeld => nx ?_)
      ·(try dsimp only); exact ⟨hHeld.1.trans (hb7.mono hHeld.1.size), zb (hHeld.1.trans (hb7.mono hHeld.1.size)) x1, zb (hHeld.1.trans (hb7.mono hHeld.1.size)) x3⟩
      clear hK K
      refine tk 8 ?_
      refine tk 9 ?_
      refine tk 10 ?_
      refine rd 11 fun K hK => ?_
      go_simp
      refine hK.out _ _ ?_ (fun hHeld => nx ?_)
      ·(try dsimp only); exact ⟨hHeld.1.alloc hHeld.1.size _, zb (hHeld.1.alloc hHeld.1.size _) x1, zb (hHeld.1.alloc hHeld.1.size _) x3⟩
      clear hK K
      refine rd 12 fun K hK => ?_
      first
       | (refine vf rfl 32 _ _ rfl _ #[.int .i64 0, .slice none 0 0] _ (kr hb7 (heap_alloc_new wd _)) rfl #[.int .i64 rs, .slice up its.length uq] rfl rfl (by kernel_rfl) (zt _ _ _ _) ?_; intro W9 hp9; have hR := R18.one hz9 hu how hb7 hHeld.1 hp9; clear hp9; generalize wd.heap.size = X at hR ⊢)
       | (refine vf rfl 32 _ _ rfl _ #[.int .i64 0, .slice none 0 0] _ (heap_alloc_new w7 _) rfl #[.int .i64 rs, .slice up its.length uq] rfl rfl (by kernel_rfl) (zt _ _ _ _) ?_; intro W9 hp9; have hR := R18.two hz9 hu how hb7 hHeld.1 hp9; clear hp9; generalize w7.heap.size = X at hR ⊢)
      refine hK.out _ _ ?_ (fun hHeld => nx ?_)
      ·(try dsimp only); exact ⟨hR.below, zb hR.below x1, zb hR.below x3⟩
      clear hK K
      refine tk 13 ?_
      refine wpAnyH_done (by kernel_rfl) ?_ _
     case' g4 =>
      go_simp
      refine hK.out _ _ ?_ (fun hHeld => nx ?_)
      ·(try dsimp only); exact ⟨hHeld.1.alloc hHeld.1.size _, zb (hHeld.1.alloc hHeld.1.size _) x1, zb (hHeld.1.alloc hHeld.1.size _) x3⟩
      clear hK K
      refine rd 7 fun K hK => ?_
      go_simp
      refine (zd0 (V.qh s) r _ (HMW.out.below hHeld.1) HRL.out).mono ?_
      rintro e w7 ⟨u, rfl, hu, how, hb7⟩
      rw [HPP.out] at hu ⊢
      simp only at hu ⊢
      obtain ⟨up, uq, rfl⟩ := hu.slice
      unfold setV
      try dsimp only
      refine hK.out _ _ ?_ (fun hHeld => nx ?_)
      ·(try dsimp only); exact ⟨hHeld.1.trans (hb7.mono hHeld.1.size), zb (hHeld.1.trans (hb7.mono hHeld.1.size)) x1, zb (hHeld.1.trans (hb7.mono hHeld.1.size)) x3⟩
      clear hK K
      refine tk 8 ?_
      refine tk 9 ?_
      refine tk 10 ?_
      refine rd 12 fun K hK => ?_
      first
       | (refine vf rfl 32 _ _ rfl _ #[.int .i64 0, .slice none 0 0] _ (kr hb7 (heap_alloc_new wd _)) rfl #[.int .i64 rs, .slice up its.length uq] rfl rfl (by kernel_rfl) (zt _ _ _ _) ?_; intro W9 hp9; have hR := R18.one hz9 hu how hb7 hHeld.1 hp9; clear hp9; generalize wd.heap.size = X at hR ⊢)
       | (refine vf rfl 32 _ _ rfl _ #[.int .i64 0, .slice none 0 0] _ (heap_alloc_new w7 _) rfl #[.int .i64 rs, .slice up its.length uq] rfl rfl (by kernel_rfl) (zt _ _ _ _) ?_; intro W9 hp9; have hR := R18.two hz9 hu how hb7 hHeld.1 hp9; clear hp9; generalize w7.heap.size = X at hR ⊢)
      refine hK.out _ _ ?_ (fun hHeld => nx ?_)
      ·(try dsimp only); exact ⟨hR.below, zb hR.below x1, zb hR.below x3⟩
      clear hK K
      refine tk 13 ?_
      refine wpAnyH_done (by kernel_rfl) ?_ _
    case' g2 =>
     go_simp
     refine hK.out _ _ ?_ (fun hHeld => nx ?_)
     ·(try dsimp only); exact ⟨hHeld.1.alloc hHeld.1.size _, zb (hHeld.1.alloc hHeld.1.size _) x1, zb (hHeld.1.alloc hHeld.1.size _) x3⟩
     clear hK K
     refine rd 3 fun K hK => ?_
     go_simp
     refine (yr ⟨s.toArray⟩ _).mono ?_
     rintro e w' ⟨rfl, hw'⟩
     obtain rfl := hw'.symm
     clear hw'
     rw [kk]
     try dsimp only
     refine hK.out _ _ ?_ (fun hHeld => nx ?_)
     ·(try dsimp only); exact hHeld
     clear hK K
     refine rd 7 fun K hK => ?_
     go_simp
     refine (zd0 (V.qh s) r _ (HMW.out.below hHeld.1) HRL.out).mono ?_
     rintro e w7 ⟨u, rfl, hu, how, hb7⟩
     rw [HPP.out] at hu ⊢
     simp only at hu ⊢
     obtain ⟨up, uq, rfl⟩ := hu.slice
     unfold setV
     try dsimp only
     refine hK.out _ _ ?_ (fun hHeld => nx ?_)
     ·(try dsimp only); exact ⟨hHeld.1.trans (hb7.mono hHeld.1.size), zb (hHeld.1.trans (hb7.mono hHeld.1.size)) x1, zb (hHeld.1.trans (hb7.mono hHeld.1.size)) x3⟩
     clear hK K
     refine tk 8 ?_
     refine tk 9 ?_
     refine tk 10 ?_
     refine rd 12 fun K hK => ?_
     first
      | (refine vf rfl 32 _ _ rfl _ #[.int .i64 0, .slice none 0 0] _ (kr hb7 (heap_alloc_new wd _)) rfl #[.int .i64 rs, .slice up its.length uq] rfl rfl (by kernel_rfl) (zt _ _ _ _) ?_; intro W9 hp9; have hR := R18.one hz9 hu how hb7 hHeld.1 hp9; clear hp9; generalize wd.heap.size = X at hR ⊢)
      | (refine vf rfl 32 _ _ rfl _ #[.int .i64 0, .slice none 0 0] _ (heap_alloc_new w7 _) rfl #[.int .i64 rs, .slice up its.length uq] rfl rfl (by kernel_rfl) (zt _ _ _ _) ?_; intro W9 hp9; have hR := R18.two hz9 hu how hb7 hHeld.1 hp9; clear hp9; generalize w7.heap.size = X at hR ⊢)
     refine hK.out _ _ ?_ (fun hHeld => nx ?_)
     ·(try dsimp only); exact ⟨hR.below, zb hR.below x1, zb hR.below x3⟩
     clear hK K
     refine tk 13 ?_
     refine wpAnyH_done (by kernel_rfl) ?_ _
    all_goals
     have HRR := zvq hR
     have HBX := zvq (HBW.out.trans (hR.below.mono HBW.out.size))
     have HD9 := zvq (HDI.out.call hR.below)
     obtain ⟨s0, s1⟩ := zhi hR.heap
     have y1 := zb hR.below x1
     have y2 := zb hR.below X2.out
     clear hb7 hHeld hR hu how x1 x3
     by_cases hec : ec = 0
     case neg =>
      have HE := zvq (HN3.out (HNF.out (by simp [hec])))
      have hcb : (ec != 0) = true := by simp [hec]
      clear s0 s1 y1 y2 HNF HYF HWF HRT
      go_wp2_with (first | (refine qr rfl qa _ _ rfl w.heap.size #[.string ⟨#[]⟩, .int .i64 0, .int .i64 0, .slice none 0 0] 25 HD9.out.zero rfl (.string ⟨#[]⟩) (.int .i64 0) (.int .i64 0) (.slice none 0 0) ⟨rfl, rfl, rfl, rfl⟩ rfl rfl ?_) | fail)
      exact HEX.out 2 _ HE.out HD9.out.zero HBX.out _ Tryz.results15 _ rfl rfl rfl
     subst hec
     have HR8 := zvq (HYF.out (by have := HZS.out; have := HSR.out; simp; omega))
     clear HNF HYF
     have HUL : Hid (us.length ≤ 1000) := zvq (by have := HOK.out; omega)
     have hOz : O < wr.heap.size := HDI.out.lt
     have hXz : wr.heap.size ≤ X := HRR.out.base
     have hbZ9 : Below W9.heap.size W9 (W9.drew.alloc (.cells #[.int .i64 (V.qh s), .string ⟨n.toArray⟩, .int .i64 rs, .slice up its.length uq] 34)) := (zvt _ W9).drew.alloc (zvs _) _
     have HA := zvq (HD9.out.call hbZ9)
     have HN1 : Hid ((Value.slice vao us.length vco).ownBlock ≠ some b) := zvq (fun e => by have := GRow.block HDI.out.row.row _ e; have := HBL1.out; have := HOE.out; omega)
     have HRW : Hid (∀ c, (Value.slice vao us.length vco).ownBlock = some c -> c < wr.heap.size) := zvq (fun c e => GRow.lt HDI.out.row.row _ e)
     have HN2 : Hid ((Value.slice vao us.length vco).ownBlock ≠ some X) := zvq (fun e => by have := HRW.out _ e; omega)
     have HN3 : Hid (some O ≠ some b) := zvq (fun e => by cases e; have := HBL1.out; have := HOE.out; omega)
     have HN4 : Hid (some O ≠ some X) := zvq (fun e => by cases e; omega)
     have HOW8 : Hid (∀ c, (Value.slice up its.length uq).ownBlock = some c -> O < c) := zvq (fun c hc => by have := HRR.out.own c hc; omega)
     have HP8 : Hid (FOk (W9.drew.alloc (.cells #[.int .i64 (V.qh s), .string ⟨n.toArray⟩, .int .i64 rs, .slice up its.length uq] 34)) (.slice vao us.length vco) ((⟨V.qh s, n, rs, its⟩, ⟨up, its.length, uq⟩) : Fs)) := zvq ⟨HWF.out, rfl, HRR.out.itvs.below hbZ9, fun _ c hc e => by have := HRR.out.own c hc; have := HRW.out c e; omega⟩
     have HNW : Hid (∀ j u, (fE ((⟨V.qh s, n, rs, its⟩, ⟨up, its.length, uq⟩) : Fs))[j]? = some u -> (W9.drew.alloc (.cells #[.int .i64 (V.qh s), .string ⟨n.toArray⟩, .int .i64 rs, .slice up its.length uq] 34)).cell? ⟨W9.drew.heap.size, j, none⟩ = some u) := zvq (fun j u hj => by rw [ze, if_pos rfl]; simpa [fE, Sl.v] using hj)
     have HO8 : Hid (O ≤ (W9.drew.alloc (.cells #[.int .i64 (V.qh s), .string ⟨n.toArray⟩, .int .i64 rs, .slice up its.length uq] 34)).heap.size) := zvq (Nat.le_of_lt HA.out.lt)
     have hO3b := (zau HA.out.inv).2.2.2
     have hO3 := zb (zvt _ W9).drew (zau HD9.out.inv).2.2.2
     replace y1 := zb (zvt _ W9).drew y1
     replace y2 := zb (zvt _ W9).drew y2
     replace s0 := zb (zvt _ W9).drew s0
     replace s1 := zb (zvt _ W9).drew s1
     clear hbZ9 hOz hXz HD9 HRT HRW
     go_wp2_with fail
     refine wp_region_held_drew (S := (fun W' => W'.cell? ⟨b, o + 1, none⟩ = some (.string ⟨s.toArray⟩) /\ W'.cell? ⟨b, o + 2, none⟩ = some (.string ⟨n.toArray⟩) /\ W'.cell? ⟨X, 0, none⟩ = some (.int .i64 rs) /\ W'.cell? ⟨X, 1, none⟩ = some (.slice up its.length uq))) (by kernel_rfl) (⟨y1, y2, s0, s1⟩) (fun hHeld => ?_)
     generalize W9.drew = wd at *
     refine tk 0 ?_
     refine tk 2 ?_
     refine tk 3 ?_
     refine tk 4 ?_
     refine tk 6 ?_
     refine tk 7 ?_
     refine tk 8 ?_
     refine tk 9 ?_
     refine wpAnyH_ready (rs := [1, 5]) (by kernel_rfl) (by simp) ?_
     refine (AllReadyH.cons (o := _) rfl (fun K hK => ?_) (AllReadyH.cons (o := _) rfl (fun K hK => ?_) AllReadyH.nil))
     ·refine zg4 rfl (.slice vao us.length vco) (by go_simp) ?_
      try dsimp only
      refine hK.out _ _ ?_ (fun hHeld => nx ?_)
      ·exact hHeld
      clear hK K
      refine rd 5 fun K hK => ?_
      go_simp
      refine (yr ⟨s.toArray⟩ _).mono ?_
      rintro e w' ⟨rfl, hw'⟩
      obtain rfl := hw'.symm
      clear hw'
      rw [kk]
      try dsimp only
      refine hK.out _ _ ?_ (fun hHeld => nx ?_)
      ·(try dsimp only); exact hHeld
      clear hK K
      refine tk 10 ?_
      refine rd 11 fun K hK => ?_
      go_simp
      refine hK.out _ _ ?_ (fun hHeld => nx ?_)
      ·exact zxo
      exact zv3
     ·go_simp
      refine (yr ⟨s.toArray⟩ _).mono ?_
      rintro e w' ⟨rfl, hw'⟩
      obtain rfl := hw'.symm
      clear hw'
      rw [kk]
      try dsimp only
      refine hK.out _ _ ?_ (fun hHeld => nx ?_)
      ·(try dsimp only); exact hHeld
      clear hK K
      refine tk 10 ?_
      refine wpAnyH_ready (rs := [1, 11]) (by kernel_rfl) (by simp) ?_
      refine (AllReadyH.cons (o := _) rfl (fun K hK => ?_) (AllReadyH.cons (o := _) rfl (fun K hK => ?_) AllReadyH.nil))
      ·refine zg4 rfl (.slice vao us.length vco) (by go_simp) ?_
       try dsimp only
       refine hK.out _ _ ?_ (fun hHeld => nx ?_)
       ·exact hHeld
       clear hK K
       refine rd 11 fun K hK => ?_
       go_simp
       refine hK.out _ _ ?_ (fun hHeld => nx ?_)
       ·exact zxo
       exact zv3
      ·go_simp
       refine hK.out _ _ ?_ (fun hHeld => nx ?_)
       ·exact zxo
       clear hK K
       refine rd 1 fun K hK => ?_
       refine zg4 rfl (.slice vao us.length vco) (by go_simp) ?_
       try dsimp only
       refine hK.out _ _ ?_ (fun hHeld => nx ?_)
       ·exact hHeld
       exact zv3
   ·obtain rfl : k = rest.length := by omega
    have i1 : ¬ (rest.length : Int) + 1 < (m : Int) := by omega
    obtain ⟨x, hx⟩ : ∃ x : V.Adv, x = ⟨i, nr, ns, us.map (·.1)⟩ := ⟨_, rfl⟩
    have hrv : V.jk ([V.advW, i, r0, t0] :: rest) = some x := by rw [hx]; exact HN4.out _ (V.zii HRT.out)
    have HXE := zvq hx
    have HY := zvq (HYES.out x hrv)
    have HF := zvq (HRF.out x hrv)
    have HBP := zvq (HBS.out x hrv)
    have HM3 := zvq (HM.out.below (HB1.out.trans (hold.mono HB1.out.size)))
    have HP3 := zvq (HP.out.below (HB1.out.trans (hold.mono HB1.out.size)))
    have HAF : Hid (Affs wr (.slice vao us.length vco) x.aff) := zvq (by rw [hx]; exact hdi.row.affs)
    have HV3 := zvq (HV1.out.below hold)
    have HB3 : Hid (Below w.heap.size w wr) := zvr HB1 hold
    have e5 : (Value.agg #[.string ⟨i.toArray⟩, .int .i64 nr, .int .i64 ns, .slice vao us.length vco]) = advV x (.slice vao us.length vco) := by rw [hx]; rfl
    obtain ⟨z0, z1, z2, z3⟩ := zau hdi.inv
    clear hrv hx HYES HRF HBS HN3 HN4 HRT hold hdi HU HWD hMM
    go_wp2_with fail
    try rw [e5]
    refine (zl1 x (.slice vao us.length vco) wr HM3.out HP3.out HAF.out HF.out.1 HF.out.2).mono ?_
    intro e w4 he
    have hb4 := he.2.2
    have HB4 := zvr HB3 hb4
    have HD4 := zvq (HDI.out.call hb4)
    have HV4 := zvq (HV3.out.below hb4)
    obtain ⟨z0, z1, z2, z3⟩ := zau HD4.out.inv
    clear hb4 HV3 HM3 HP3 HAF HDI e5 HB3
    by_cases hz : (V.encV x).2 = 0
    case neg =>
     have hq := he.2.1 hz
     subst hq
     have HE : Hid (V.decV bs = (V.zV, 1)) := zvq (by rw [HY.out, if_neg (fun e => hz e.1)])
     have hzb : ((V.encV x).2 != 0) = true := by simp [hz]
     clear he
     generalize (V.encV x).2 = ee at *
     exact zx0
    obtain ⟨u4, N4, W4, rfl, hbuf⟩ := he.1 hz
    have h1 := zcn hbuf (by rw [(V.zi7 hz).2.2]; exact V.doc_pos)
    have h2 := ztn HV4.out HBP.out
    obtain ⟨a4, c4, rfl⟩ := hbuf.slice
    have HZ := zvq hz
    clear he hbuf hz
    generalize hD : (V.encV x).1 = D at *
    have HD := zvq hD
    clear hD
    by_cases heq : D = bs
    case neg =>
     have HE : Hid (V.decV bs = (V.zV, 1)) := zvq (by rw [HY.out, if_neg (fun e => heq e.2)])
     have hb : (D == bs) = false := by rw [zvu]; exact heq
     exact zx0
    have HE : Hid (V.decV bs = (x, 0)) := zvq (by rw [HY.out, if_pos ⟨HZ.out, heq⟩])
    subst heq
    go_wp2_with (first | (refine qr rfl qa _ _ rfl w.heap.size #[.string ⟨#[]⟩, .int .i64 0, .int .i64 0, .slice none 0 0] 25 HD4.out.zero rfl (.string ⟨i.toArray⟩) (.int .i64 nr) (.int .i64 ns) (.slice vao us.length vco) ⟨rfl, rfl, rfl, rfl⟩ rfl rfl ?_) | fail)
    refine bodyPost_ret (v := .tuple #[.agg #[.string ⟨i.toArray⟩, .int .i64 nr, .int .i64 ns, .slice vao us.length vco], .int .i64 0]) (jz Tryz.results15 rfl rfl (zdg Tryz.underlying25 qa (setRow_heap _ _ _ _ _ _ HD4.out.zero))) rfl ?_
    have hbase : w.heap.size + 1 ≤ O := HD4.out.base
    refine ⟨.slice vao us.length vco, by rw [HE.out, HXE.out]; rfl, ?_, qu HB4.out _ _ (zvs _) (Array.getElem?_eq_some_iff.1 HD4.out.zero).1⟩
    rw [HE.out, HXE.out]
    exact (HD4.out.row.kept (qk _ _ _) (HD4.out.rowNe HD4.out.zero (by decide)) (fun p hp c hc => by have := HD4.out.own p hp c hc; omega)).affs
end Go.Proofs.YtiloljoancdcbaaGreatDoor
