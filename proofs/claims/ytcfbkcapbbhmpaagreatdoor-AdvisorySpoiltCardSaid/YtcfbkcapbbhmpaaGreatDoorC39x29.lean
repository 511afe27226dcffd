import Derived.Test.YtcfbkcapbbhmpaaGreatDoorC39x27
import Derived.Test.YtcfbkcapbbhmpaaGreatDoorC39x28
import Derived.Test.YtcfbkcapbbhmpaaGreatDoorC39x11
set_option linter.all false
set_option maxRecDepth 100000
set_option maxHeartbeats 12800000
namespace Go.Proofs.YtcfbkcapbbhmpaaGreatDoor
open Go.RowKit
theorem zbm {ops : Array Oper} {o : Oper} {a : Act} {w : World} {K : Act -> World -> Prop} {Q : Exit -> Act -> World -> Prop} {E : Prop} (hgd : o.guard = none) (v : Value) (he : (execOp a.eval o).run Tryz.prog w = .ok (.value v) w)
  (h : K (a.put o.dst v) w) : if Region.wanted o (yielded ops a.tmps) = true then Oper.wp Tryz.prog o a w K Q else E := by
 rw [if_pos (by simp [Region.wanted, hgd])]
 unfold Oper.wp
 rw [he]
 exact h
theorem zbn {ops : Array Oper} {o : Oper} {a : Act} {w : World} {K : Act -> World -> Prop} {Q : Exit -> Act -> World -> Prop} {E : Prop} (hgd : o.guard = none) (ty : TypeId) (x y : Operand) (ho : o.op = .store ty x y)
  (b off : Nat) (hx : a.eval x = .pointer (some ⟨b, off, none⟩)) (v : Value) (hy : a.eval y = v) (u : Value) (hc : w.cell? ⟨b, off, none⟩ = some u) (hf : w.frozen? ⟨b, off, none⟩ = false) (hi : (Tryz.prog.info? ty).map (·.size) = some 1) (h1 : v.oneCell' = true)
  (h : K (a.put o.dst undef) (w.setCell ⟨b, off, none⟩ v)) : if Region.wanted o (yielded ops a.tmps) = true then Oper.wp Tryz.prog o a w K Q else E := by
 rw [if_pos (by simp [Region.wanted, hgd])]
 unfold Oper.wp execOp
 simp only [ho, hx, hy, Instr.storeAt, Instr.sureAddr, Sem.run_bind, Sem.run_pure, Result.andThen_ok, zt4 hc hf hi h1]
 exact h
theorem vp {ops : Array Oper} {o : Oper} {a : Act} {w : World} {K : Act -> World -> Prop} {Q : Exit -> Act -> World -> Prop} {E : Prop} (hgd : o.guard = none) (ty : TypeId) (x y : Operand) (ho : o.op = .store ty x y)
  (g : Nat) (old : Array Value) (t : TypeId) (hg : w.heap[g]? = some (.cells old t (0, 0))) (hx : a.eval x = .pointer (some ⟨g, 0, none⟩)) (new : Array Value) (hy : a.eval y = .agg new) (hs : old.size = new.size) (hi : (Tryz.prog.info? ty).map (·.size) = some new.size) (h1 : new.all (·.oneCell') = true)
  (h : ∀ W, PutAt w W g new t -> K (a.put o.dst undef) W) : if Region.wanted o (yielded ops a.tmps) = true then Oper.wp Tryz.prog o a w K Q else E := by
 rw [if_pos (by simp [Region.wanted, hgd])]
 exact wp_store_row ty x y ho g new hx hy t old hg hi hs h1 (h _ (zn7 hg))
theorem zo {W W' : World} {row : Option Nat} {b o : Nat} {u : Value} (hg : W.grownBy W' row) (hb : row ≠ some b) (h : W.cell? ⟨b, o, none⟩ = some u) : W'.cell? ⟨b, o, none⟩ = some u := hg.cell h (fun e => hb e.symm)
structure R18 (wr W : World) (X : Nat) (rs : Int) (u : Value) (its : List V.Itv) : Prop where
 below : Below wr.heap.size wr W
 heap : W.heap[X]? = some (.cells #[.int .i64 rs, u] 45 (0, 0))
 itvs : Itvs W u its
 own : ∀ c, u.ownBlock = some c -> wr.heap.size ≤ c
 base : wr.heap.size ≤ X
theorem R18.one {wr wd w7 W9 : World} {o : Obj} {rs : Int} {u : Value} {its : List V.Itv} (hz : wr.heap.size ≤ wd.heap.size) (hu : Itvs w7 u its) (how : ∀ c, u.ownBlock = some c -> (wd.alloc o).heap.size ≤ c) (_hb7 : Below (wd.alloc o).heap.size (wd.alloc o) w7) (hb : Below wr.heap.size wr w7) (hp : PutAt w7 W9 wd.heap.size #[.int .i64 rs, u] 45) : R18 wr W9 wd.heap.size rs u its :=
 ⟨hp.below hb hz, hp.here, hu.grown hp.grown (fun _ c hc e => by have := how c hc; simp at this; cases e; omega), (fun c hc => by have := how c hc; simp at this; omega), hz⟩
theorem R18.two {wr wd w7 W9 : World} {o : Obj} {rs : Int} {u : Value} {its : List V.Itv} (hz : wr.heap.size ≤ wd.heap.size) (hu : Itvs w7 u its) (how : ∀ c, u.ownBlock = some c -> wd.heap.size ≤ c) (hb7 : Below wd.heap.size wd w7) (hb : Below wr.heap.size wr (w7.alloc o)) (hp : PutAt (w7.alloc o) W9 w7.heap.size #[.int .i64 rs, u] 45) : R18 wr W9 w7.heap.size rs u its := by
 have hz7 : wr.heap.size ≤ w7.heap.size := Nat.le_trans hz hb7.size
 refine ⟨hp.below hb hz7, hp.here, (hu.below ((zwh _ w7).alloc (zwg _) o)).grown hp.grown (fun hne c hc e => ?_), (fun c hc => by have := how c hc; omega), hz7⟩
 have := hu.lt hne hc
 cases e
 omega
theorem VInv.fin {V0 : World} {N0 O : Nat} {i r s v : Value} {us : List Fs} {W w8 : World} {p : Fs} {v8 : Value} (h : VInv V0 N0 O i r s v us W) (hr8 : GRow 47 4 fE w8 O v8 (us ++ [p])) (hg8 : W.grownBy w8 v.ownBlock) (ho8 : v8.ownBlock = v.ownBlock ∨ v8.ownBlock = some W.heap.size) (hp : FOk W v p) (how : ∀ c, p.2.v.ownBlock = some c -> O < c) :
  ∃ va vc, v8 = .slice va (us.length + 1) vc /\ w8.cell? ⟨O, 3, none⟩ = some v /\ w8.frozen? ⟨O, 3, none⟩ = false /\ VInv V0 N0 O i r s v8 (us ++ [p]) (w8.setCell ⟨O, 3, none⟩ v8) := by
 have hk8 := h.invKept hg8
 have hfr := h.row.add hr8 hg8 ho8 hp
 obtain ⟨va, vc, e⟩ := hfr.slice
 exact ⟨va, vc, by rw [e]; simp, (xk hk8).2.2.2, zbs hk8, h.append hfr hg8 how⟩
theorem VInv.start {w1 : World} {N0 : Nat} {i r s : Value} (hz : w1.heap[N0]? = some (.cells #[.string ⟨#[]⟩, .int .i64 0, .int .i64 0, .slice none 0 0] 29 (0, 0))) (hN : N0 + 1 ≤ w1.heap.size) : VInv w1 N0 w1.heap.size i r s (.slice none 0 0) [] (((w1.alloc (.cells #[i, .int .i64 0, .int .i64 0, .slice none 0 0] 29)).setCell ⟨w1.heap.size, 1, none⟩ r).setCell ⟨w1.heap.size, 2, none⟩ s) := by
 have hb : Below w1.heap.size w1 (((w1.alloc (.cells #[i, .int .i64 0, .int .i64 0, .slice none 0 0] 29)).setCell ⟨w1.heap.size, 1, none⟩ r).setCell ⟨w1.heap.size, 2, none⟩ s) := ((((zwh _ w1).alloc (zwg _) _).setCell (zwg _) _).setCell (zwg _) _)
 exact ⟨FRow.nil _ _, by rw [zba _ _ (zba _ _ (heap_alloc_new w1 _))]; rfl, (hb.block _ (by omega)).trans hz, (fun p hp => by simp at hp), hb, hN⟩
theorem i64Size : (Tryz.prog.info? 2).map (·.size) = some 1 := by kernel_rfl
theorem intSizeA : (Tryz.prog.info? 3).map (·.size) = some 1 := by kernel_rfl
theorem zwu {P : Prop} (h : P := by
 clear hK K
 refine rd 12 fun K hK => ?_
 refine yc zee (by decide) zf1 zla (by decide) rfl _ _ 27 rfl Tryz.underlying27 O (.slice vao us.length vco) us rfl HA.out.row.row wd.heap.size ((⟨V.qh s, n, rs, its⟩, ⟨up, its.length, uq⟩) : Fs) rfl HNW.out (by have := HUL.out; omega) HO8.out ?_
 intro v8 w8 hr8 hg8 ho8
 obtain ⟨va8, vc8, rfl, hc8, hf8, hM9⟩ := HA.out.fin hr8 hg8 ho8 HP8.out HOW8.out
 try dsimp only
 refine hK.out _ _ ?_ (fun hHeld => nx ?_)
 ·(try dsimp only); exact ⟨zo hg8 HN1.out hHeld.1, zo hg8 HN1.out hHeld.2.1, zo hg8 HN2.out hHeld.2.2.1, zo hg8 HN2.out hHeld.2.2.2⟩
 clear hK K
 refine tk 13 ?_
 refine rd 14 fun K hK => ?_
 refine zbn rfl 27 _ _ rfl O 3 rfl (.slice va8 (us.length + 1) vc8) rfl _ hc8 hf8 zah rfl ?_
 have hgs := yd w8 O 3 (.slice va8 (us.length + 1) vc8)
 generalize w8.setCell ⟨O, 3, none⟩ (.slice va8 (us.length + 1) vc8) = w9 at *
 try dsimp only
 refine hK.out _ _ ?_ (fun hHeld => nx ?_)
 ·(try dsimp only); exact ⟨zo hgs HN3.out hHeld.1, zo hgs HN3.out hHeld.2.1, zo hgs HN4.out hHeld.2.2.1, zo hgs HN4.out hHeld.2.2.2⟩
 clear hK K
 refine wpAnyH_done (by kernel_rfl) ?_ _
 clear hHeld hO3 hO3b y1 y2 s0 s1 hgs
 go_wp2
 go_roundw
 case rel => exact ⟨k + 1, _, us ++ [((⟨V.qh s, n, rs, its⟩, ⟨up, its.length, uq⟩) : Fs)], by omega, by rw [List.length_append, HOK.out]; rfl, by go_num, by rw [List.map_append]; exact HR8.out, hM9⟩
 case measure => simp [intOf]; omega) : P := h
theorem zxu {P : Prop} (h : P := by
 go_wp2_with (first | (refine qr rfl qa _ _ rfl w.heap.size #[.string ⟨#[]⟩, .int .i64 0, .int .i64 0, .slice none 0 0] 29 HKZ.out rfl (.string ⟨#[]⟩) (.int .i64 0) (.int .i64 0) (.slice none 0 0) ⟨rfl, rfl, rfl, rfl⟩ rfl rfl ?_) | fail)
 exact HEX.out 2 _ HE.out HKZ.out HBW.out _ Tryz.results9 _ rfl rfl rfl) : P := h
theorem zxv {P : Prop} (h : P := by
 go_wp2_with (first | (refine qr rfl qa _ _ rfl w.heap.size #[.string ⟨#[]⟩, .int .i64 0, .int .i64 0, .slice none 0 0] 29 HK1.out rfl (.string ⟨#[]⟩) (.int .i64 0) (.int .i64 0) (.slice none 0 0) ⟨rfl, rfl, rfl, rfl⟩ rfl rfl ?_) | fail)
 exact HEX.out 2 _ HE.out HK1.out HB1.out _ Tryz.results9 _ rfl rfl rfl) : P := h
theorem zyh {P : Prop} (h : P := by
 go_wp2_with (first | (refine qr rfl qa _ _ rfl w.heap.size #[.string ⟨#[]⟩, .int .i64 0, .int .i64 0, .slice none 0 0] 29 HD4.out.zero rfl (.string ⟨#[]⟩) (.int .i64 0) (.int .i64 0) (.slice none 0 0) ⟨rfl, rfl, rfl, rfl⟩ rfl rfl ?_) | fail)
 exact HEX.out 1 _ HE.out HD4.out.zero HB4.out _ Tryz.results9 _ rfl rfl rfl) : P := h
theorem zyj {P : Prop} (h : P := by
 go_wp2_with (first | (refine qr rfl qa _ _ rfl w.heap.size #[.string ⟨#[]⟩, .int .i64 0, .int .i64 0, .slice none 0 0] 29 HK2.out rfl (.string ⟨#[]⟩) (.int .i64 0) (.int .i64 0) (.slice none 0 0) ⟨rfl, rfl, rfl, rfl⟩ rfl rfl ?_) | fail)
 exact HEX.out 2 _ HE.out HK2.out HB2.out _ Tryz.results9 _ rfl rfl rfl) : P := h
theorem zkd (v : Value) (bs : V.Bs) (w : World) (hm : zg w) (hp : zc6 w) (hv : wl w v bs) (hl : bs.length ≤ maxLen) :
  Calls Tryz.prog 9 #[v] w (zg1 bs w) := by
 obtain ⟨hb0, hk0, hz0⟩ := zg3 w
 have HM := zwe hm
 have HP := zwe hp
 have HB0 := zwe hb0
 have HK0 := zwe hk0
 have HZ0 := zwe hz0
 have HV := zwe (hv.below hb0)
 have HLB := zwe hl
 have HEX : Hid (∀ (k : Int) (W : World), V.decV bs = (V.zV, k) -> W.heap[w.heap.size]? = some (.cells #[.string ⟨#[]⟩, .int .i64 0, .int .i64 0, .slice none 0 0] 29 (0, 0)) -> Below w.heap.size w W ->
     ∀ fn : Func, fn.results = #[.cell 2 29, .tmp 3] -> ∀ a : Act, a.tmps.getD 2 undef = .pointer (some ⟨w.heap.size, 0, none⟩) -> a.tmps.getD 3 undef = .int .i64 k -> a.defers = [] ->
     bodyPost Tryz.prog fn (zg1 bs w) .ret a (W.setRow w.heap.size #[.string ⟨#[]⟩, .int .i64 0, .int .i64 0, .slice none 0 0])) := zwe (by
   intro k W hr hg hb fn hfn a h4 h5 h6
   refine bodyPost_ret (kb hfn h4 h5 (zcw Tryz.underlying29 qa (setRow_heap _ _ _ _ _ _ hg))) h6 ?_
   exact ⟨.slice none 0 0, by rw [hr]; rfl, by rw [hr]; exact Affs.nil _, qu hb _ _ (zwg _) (Array.getElem?_eq_some_iff.1 hg).1⟩)
 obtain ⟨va, vc, rfl⟩ : ∃ va vc, v = .slice va bs.length vc := by obtain ⟨a, c, e, _⟩ := hv; exact ⟨a, c, e⟩
 clear hm hp hv hl hb0 hk0 hz0
 go_enter Tryz.func9, Tryz.ntmps9
 go_wp2_with fail
 generalize w.alloc (.cells #[.string ⟨#[]⟩, .int .i64 0, .int .i64 0, .slice none 0 0] 29) = w0 at *
 refine (zk4 (.slice va bs.length vc) bs w0 (HM.out.below HB0.out) HV.out HLB.out).mono ?_
 rintro e w1 ⟨u, rfl, hu, hcap, hb1⟩
 have HB1 := zwf HB0 hb1
 have HK1 := zwe ((hb1.block _ (by have := HZ0.out; omega)).trans HK0.out)
 have HZ1 : Hid (w.heap.size + 1 ≤ w1.heap.size) := zwe (by have := hb1.size; have := HZ0.out; omega)
 have HU := zwe hu
 have HV1 := zwe (HV.out.below hb1)
 have HWD := zwe (V.decP_words (bs := bs))
 have HLN := zwe (V.decP_len bs)
 obtain ⟨ua, un, uc, rfl, hvc⟩ := hcap
 clear hb1 hu HB0 HK0 HZ0 HV
 obtain ⟨⟨ls, c⟩, hdp⟩ : ∃ p, V.decP bs = p := ⟨_, rfl⟩
 rw [hdp] at HU HWD HLN ⊢
 simp only at HU HWD HLN ⊢
 have HDP := zwe hdp
 clear hdp
 obtain rfl : un = ls.length := by obtain ⟨_, _, e, _⟩ := HU.out; cases e; rfl
 by_cases hc : c = 0
 case neg =>
  have HE := zwe (V.zlb HDP.out hc)
  have hcb : (c != 0) = true := by simp [hc]
  go_wp2_with (first | (refine qr rfl qa _ _ rfl w.heap.size #[.string ⟨#[]⟩, .int .i64 0, .int .i64 0, .slice none 0 0] 29 HK1.out rfl (.string ⟨#[]⟩) (.int .i64 0) (.int .i64 0) (.slice none 0 0) ⟨rfl, rfl, rfl, rfl⟩ rfl rfl ?_) | fail)
  exact HEX.out c _ HE.out HK1.out HB1.out _ Tryz.results9 _ rfl rfl rfl
 subst hc
 have HNO : Hid (V.jm ls = none -> V.decV bs = (V.zV, 2)) := zwe (fun h => V.zh2 HDP.out h)
 have HYES : Hid (∀ x, V.jm ls = some x -> V.decV bs = if (V.encV x).2 = 0 /\ (V.encV x).1 = bs then (x, 0) else (V.zV, 1)) := zwe (fun x h => V.zfc HDP.out h)
 have HRF : Hid (∀ x, V.jm ls = some x -> x.id.length ≤ maxLen /\ x.aff.length ≤ maxLen) := zwe (fun x h => V.readV_facts HWD.out HLN.out h)
 have HBS : Hid (∀ x, V.jm ls = some x -> 0 < bs.length) := zwe (fun x h => by
   rcases Nat.eq_zero_or_pos bs.length with e | e
   · have e2 := List.eq_nil_of_length_eq_zero e
     have h1 := HDP.out
     rw [e2, V.zfy] at h1
     cases h1
     cases h
   · exact e)
 have hn := HLN.out
 clear HDP
 match ls, HU, HWD, hvc, hn, HNO, HYES, HRF, HBS with
 | [], HU, HWD, hvc, hn, HNO, HYES, HRF, HBS =>
  have HE := zwe (HNO.out rfl)
  clear HU HWD HNO HYES HRF HBS
  exact zxv
 | l0 :: rest, HU, HWD, hvc, hn, HNO, HYES, HRF, HBS =>
  obtain ⟨B, off, u0, rfl, hBlt, hu0, hs0⟩ := HU.out.at 0 (by simp)
  rw [Nat.add_zero] at hu0
  simp only [List.getElem_cons_zero] at hs0
  obtain ⟨m, hmm⟩ : ∃ m, m = rest.length + 1 := ⟨_, rfl⟩
  have hls : (l0 :: rest).length = m := by rw [hmm]; rfl
  rw [hls] at hvc hn HU ⊢
  have HMM := zwe hmm
  have q1 : (m : Int) ≠ 0 := by omega
  have q2 : ((m : Int) == 0) = false := by rw [zwi]; omega
  have q3 : (0 : Int) < (m : Int) := by omega
  clear hls hmm
  by_cases h4 : l0.length = 4
  case neg =>
   have HE := zwe (HNO.out (V.znx (rest := rest) h4))
   obtain ⟨a0, c0, rfl, hjunk⟩ := hs0
   have q4 : ((l0.length : Int) != 4) = true := by simp; omega
   have q5 : ¬ (l0.length : Int) = 4 := by omega
   clear hjunk HU HWD h4 HNO HYES HRF HBS
   generalize l0.length = m0 at *
   exact zxv
  obtain ⟨a, i, r0, t0, rfl⟩ := zdp h4
  obtain ⟨b0, o0, c0, rfl, hb0lt, ca, ci, cr, cs⟩ := zeh hs0
  have hrl : (⟨r0.toArray⟩ : ByteArray).size ≤ maxLen := by rw [yo]; have := HWD.out _ (List.mem_cons_self ..) r0 (by simp); unfold maxLen; omega
  have hsl : (⟨t0.toArray⟩ : ByteArray).size ≤ maxLen := by rw [yo]; have := HWD.out _ (List.mem_cons_self ..) t0 (by simp); unfold maxLen; omega
  clear h4 hs0
  by_cases ha : a = V.advW
  case neg =>
   have HE : Hid (V.decV bs = (V.zV, 2)) := zwe (HNO.out (by rw [V.zb0, if_neg (fun e => ha e.1)]))
   have hne : (a == [97, 100, 118, 105, 115, 111, 114, 121]) = false := by rw [zwi]; exact ha
   clear HU HWD ha ci cr cs hrl hsl HNO HYES HRF HBS
   exact zxv
  subst ha
  have hcw : (⟨V.advW.toArray⟩ : ByteArray) = ⟨#[97, 100, 118, 105, 115, 111, 114, 121]⟩ := rfl
  rw [hcw] at ca
  clear hcw
  have HF := zwe (V.zb0 V.advW i r0 t0 rest)
  have HRL0 := zwe hrl
  have HSL0 := zwe hsl
  clear hrl hsl
  have HST : Hid (∀ r s, VInv w1 w.heap.size w1.heap.size (.string ⟨i.toArray⟩) r s (.slice none 0 0) [] (((w1.alloc (.cells #[.string ⟨i.toArray⟩, .int .i64 0, .int .i64 0, .slice none 0 0] 29)).setCell ⟨w1.heap.size, 1, none⟩ r).setCell ⟨w1.heap.size, 2, none⟩ s)) := zwe (fun r s => VInv.start HK1.out HZ1.out)
  have hbO : Below w1.heap.size w1 (w1.alloc (.cells #[.string ⟨i.toArray⟩, .int .i64 0, .int .i64 0, .slice none 0 0] 29)) := (zwh _ w1).alloc (zwg _) _
  have HKO : Hid ((w1.alloc (.cells #[.string ⟨i.toArray⟩, .int .i64 0, .int .i64 0, .slice none 0 0] 29)).heap[w1.heap.size]? = some (.cells #[.string ⟨i.toArray⟩, .int .i64 0, .int .i64 0, .slice none 0 0] 29 (0, 0))) := zwe (heap_alloc_new w1 _)
  have HK2 := zwe ((hbO.block _ (by have := HZ1.out; omega)).trans HK1.out)
  have HB2 := zwf HB1 hbO
  have e0 := zb hbO hu0
  have e2 := zb hbO cr
  have e3 := zb hbO cs
  clear hbO
  go_wp2_with fail
  generalize w1.alloc (.cells #[.string ⟨i.toArray⟩, .int .i64 0, .int .i64 0, .slice none 0 0] 29) = w2 at *
  clear hu0 ca ci cr cs
  refine (za5 ⟨r0.toArray⟩ w2 HRL0.out).mono ?_
  rintro e w' ⟨rfl, rfl⟩
  rw [kn] at *
  have HF1 : Hid ((V.numP r0).2 = false -> V.jm ([V.advW, i, r0, t0] :: rest) = none) := zwe (fun h => by rw [HF.out, if_neg (fun e => by rw [h] at e; cases e.2.1)])
  have HF2 : Hid ((V.numP t0).2 = false -> V.jm ([V.advW, i, r0, t0] :: rest) = none) := zwe (fun h => by rw [HF.out, if_neg (fun e => by rw [h] at e; cases e.2.2)])
  have HF3 : Hid ((V.numP r0).2 = true -> (V.numP t0).2 = true -> V.jm ([V.advW, i, r0, t0] :: rest) = (V.kw rest).map fun l => ⟨i, (V.numP r0).1, (V.numP t0).1, l⟩) := zwe (fun h g => by rw [HF.out, if_pos (by simp [h, g])])
  clear HF
  generalize (V.numP r0).1 = nr at *
  generalize (V.numP r0).2 = okr at *
  go_wp2_with fail
  refine (za5 ⟨t0.toArray⟩ _ HSL0.out).mono ?_
  rintro e w' ⟨rfl, rfl⟩
  rw [kn] at *
  have hns := znd t0
  generalize (V.numP t0).1 = ns at *
  generalize (V.numP t0).2 = oks at *
  by_cases hno : okr = true /\ oks = true
  case neg =>
   have HE : Hid (V.decV bs = (V.zV, 2)) := zwe (HNO.out (by
     rcases okr with _ | _
     · exact HF1.out rfl
     · rcases oks with _ | _
       · exact HF2.out rfl
       · exact absurd ⟨rfl, rfl⟩ hno))
   clear HF1 HF2 HF3 HU HWD e0 e2 e3 HNO HYES HRF HBS HST
   rcases okr with _ | _
   ·exact zyj
   ·rcases oks with _ | _
    ·exact zyj
    ·exact absurd ⟨rfl, rfl⟩ hno
  obtain ⟨rfl, rfl⟩ := hno
  have HN3 : Hid (V.kw rest = none -> V.decV bs = (V.zV, 2)) := zwe (fun h => HNO.out (by rw [HF3.out rfl rfl, h]; rfl))
  have HN4 : Hid (∀ l, V.kw rest = some l -> V.jm ([V.advW, i, r0, t0] :: rest) = some ⟨i, nr, ns, l⟩) := zwe (fun l h => by rw [HF3.out rfl rfl, h]; rfl)
  have wns : IntKind.i64.wrap ns = ns := IntWalk.i64_in _ (by omega)
  have HBO : Hid (w.heap.size + 1 ≤ w1.heap.size /\ B < w1.heap.size /\ rest.length ≤ 999) := zwe ⟨HZ1.out, hBlt, by have := HMM.out; omega⟩
  have hc1 := (xk HKO.out).2.1
  have hf1 : w'.frozen? ⟨w1.heap.size, 1, none⟩ = false := zbs HKO.out
  have HKP : Hid ((w'.setCell ⟨w1.heap.size, 1, none⟩ (.int .i64 nr)).heap[w1.heap.size]? = some (.cells #[.string ⟨i.toArray⟩, .int .i64 nr, .int .i64 0, .slice none 0 0] 29 (0, 0))) := zwe (by rw [zba _ _ HKO.out]; rfl)
  have hc2 := (xk HKP.out).2.2.1
  have hf2 : (w'.setCell ⟨w1.heap.size, 1, none⟩ (.int .i64 nr)).frozen? ⟨w1.heap.size, 2, none⟩ = false := zbs HKP.out
  have HD5 := zwe (HST.out (.int .i64 nr) (.int .i64 ns))
  clear HF1 HF2 HF3 HNO HST hb0lt e0 e2 e3 hns
  go_wp2_with (first | (refine zpz rfl 2 _ _ rfl w1.heap.size 1 rfl (.int .i64 nr) rfl _ hc1 hf1 i64Size rfl ?_)
                     | (refine zpz rfl 3 _ _ rfl w1.heap.size 2 rfl (.int .i64 ns) rfl _ hc2 hf2 intSizeA rfl ?_) | fail)
  clear hc1 hf1 hc2 hf2 HKP HKO
  generalize (w'.setCell ⟨w1.heap.size, 1, none⟩ (.int .i64 nr)).setCell ⟨w1.heap.size, 2, none⟩ (.int .i64 ns) = w5 at *
  obtain ⟨O, hO⟩ : ∃ O, O = w1.heap.size := ⟨_, rfl⟩
  rw [← hO] at HD5 HBO ⊢
  have HOE := zwe hO
  have hn2 : rest.length ≤ 999 := HBO.out.2.2
  clear hO hBlt hvc hn q1 q2 q3 HB2 HK2 HK1
  go_loopw [11] (fun jv W => ∃ (k : Nat) (vo : Value) (us : List Fs), k ≤ rest.length /\ us.length = k /\ jv = .int .i64 ((k : Int) + 1) /\ V.wm rest k (us.map (·.1)) /\ VInv w1 w.heap.size O (.string ⟨i.toArray⟩) (.int .i64 nr) (.int .i64 ns) vo us W) (fun jv _ => rest.length + 1 - (intOf jv).toNat)
  case atStart => exact ⟨0, _, [], Nat.zero_le _, rfl, rfl, V.zg6 _, HD5.out⟩
  case round =>
   obtain ⟨k, vo, us, hk, hok, rfl, hrt, hdi⟩ := hrel
   have HRT := zwe hrt
   have HOK := zwe hok
   have HDI := zwe hdi
   obtain ⟨vao, vco, hvo⟩ := hdi.row.slice
   subst hvo
   have hold : Below w1.heap.size w1 wr := by rw [← HOE.out]; exact hdi.old
   have HOLD := zwe hold
   have hMM := HMM.out
   clear hok hrt HD5
   by_cases hlt : k < rest.length
   ·have i1 : (k : Int) + 1 < (m : Int) := by omega
    have i2 : (0 : Int) ≤ (k : Int) + 1 := by omega
    have i3 : ((k : Int) + 1).toNat = k + 1 := by omega
    have wr1 : IntKind.i64.wrap ((k : Int) + 1 + 1) = (k : Int) + 1 + 1 := IntWalk.i64_in _ (by omega)
    obtain ⟨B2, off2, u, e2, hB2, hu, hs⟩ := HU.out.at (k + 1) (by simpa using hlt)
    cases e2
    rw [List.getElem_cons_succ] at hs
    have huW := zb hold hu
    have huV := huW
    rw [← Nat.add_assoc] at huV
    have HSW := zwe (xt hs hold)
    have HS1 := zwe hs
    have HWL : Hid (∀ x ∈ rest[k], x.length ≤ 32768) := zwe (fun x hx => HWD.out _ (List.mem_cons_of_mem _ (List.getElem_mem hlt)) x hx)
    have HMW := zwe (HM.out.below (HB1.out.trans (hold.mono HB1.out.size)))
    have HNF := zwe (V.zlh HRT.out hlt)
    have HYF := zwe (V.zg4 HRT.out hlt)
    have HWF := zwe (V.readF_wf HWL.out)
    have HKZ := zwe hdi.zero
    have HBW : Hid (Below w.heap.size w wr) := zwf HB1 hold
    clear hold hu hs hdi hB2 hMM
    obtain ⟨lk, hlk⟩ : ∃ lk, rest[k] = lk := ⟨_, rfl⟩
    rw [hlk] at HSW HS1 HWL HNF HYF HWF
    clear hlk
    by_cases h4 : lk.length = 4
    case neg =>
     have HE := zwe (HN3.out (HNF.out (by rw [V.zna h4])))
     obtain ⟨a0, c0, rfl, hjunk⟩ := HSW.out
     have q4 : ((lk.length : Int) != 4) = true := by simp; omega
     have q5 : ¬ (lk.length : Int) = 4 := by omega
     clear hjunk h4 HSW HS1 HWL HNF HYF HWF HRT
     generalize lk.length = m0 at *
     exact zxu
    obtain ⟨a, s, n, r, rfl⟩ := zdp h4
    obtain ⟨b, o, cq, hue, hblt, x0, x1, x2, x3⟩ := zeh HSW.out
    subst hue
    have HBL1 : Hid (b < w1.heap.size) := zwe (by
      obtain ⟨b', o', c', e, h1, _⟩ := zeh HS1.out
      cases e
      exact h1)
    clear h4 HSW HS1
    by_cases ha : a = V.affW
    case neg =>
     have HE := zwe (HN3.out (HNF.out (by rw [V.zkj (s := s) (n := n) (r := r) ha])))
     have hne : (a == [97, 102, 102, 101, 99, 116, 115]) = false := by rw [zwi]; exact ha
     clear ha x1 x2 x3 HNF HYF HWF HRT HWL
     exact zxu
    subst ha
    have hcw : (⟨V.affW.toArray⟩ : ByteArray) = ⟨#[97, 102, 102, 101, 99, 116, 115]⟩ := rfl
    rw [hcw] at x0
    clear hcw
    rw [V.zgb] at HNF HYF HWF
    have hsr := zi0 s
    have HRL : Hid (r.length ≤ maxLen) := zwe (by have := HWL.out r (by simp); unfold maxLen; omega)
    clear HWL
    by_cases hz : V.qh s = 0
    case pos =>
     have HE := zwe (HN3.out (HNF.out (by rw [hz]; rfl)))
     have hzb : (V.qh s == 0) = true := by rw [hz]; rfl
     clear x2 x3 HNF HYF HWF HRT hsr
     go_wp2_with fail
     refine (ub ⟨s.toArray⟩ wr).mono ?_
     rintro e w' ⟨rfl, hw'⟩
     obtain rfl := hw'.symm
     clear hw'
     rw [kn]
     generalize V.qh s = sc at *
     exact zxu
    have hzb : (V.qh s == 0) = false := by rw [zwi]; exact hz
    have HZS := zwe hz
    have HSR := zwe hsr
    clear hsr
    go_wp2_with fail
    refine (ub ⟨s.toArray⟩ wr).mono ?_
    rintro e w' ⟨rfl, hw'⟩
    obtain rfl := hw'.symm
    clear hw'
    rw [kn]
    go_wp2_with fail
    clear hzb hz
    obtain ⟨⟨rs, its, ec⟩, hpp⟩ : ∃ p, V.parP (V.qh s) r = p := ⟨_, rfl⟩
    rw [hpp] at HNF HYF HWF
    simp only at HNF HYF HWF
    have HPP := zwe hpp
    have X2 := zwe x2
    clear hpp x0 x2 huW huV
    refine wp_region_held_drew (S := (fun W' => Below wr.heap.size wr W' /\ W'.cell? ⟨b, o + 1, none⟩ = some (.string ⟨s.toArray⟩) /\ W'.cell? ⟨b, o + 3, none⟩ = some (.string ⟨r.toArray⟩))) (by kernel_rfl) (⟨(zwh _ _).drew, zb (zwh _ _).drew x1, zb (zwh _ _).drew x3⟩) (fun hHeld => ?_)
    have hz9 : wr.heap.size ≤ wr.drew.heap.size := zwg _
    generalize wr.drew = wd at *
    refine tk 0 ?_
    refine tk 1 ?_
    refine tk 2 ?_
    refine tk 4 ?_
    refine tk 5 ?_
    refine tk 6 ?_
    refine wpAnyH_ready (rs := [3, 11]) (by kernel_rfl) (by simp) ?_
    refine (AllReadyH.cons (o := _) rfl (fun K hK => ?g1) (AllReadyH.cons (o := _) rfl (fun K hK => ?g2) AllReadyH.nil))
    case' g1 =>
     go_simp
     refine (ub ⟨s.toArray⟩ _).mono ?_
     rintro e w' ⟨rfl, hw'⟩
     obtain rfl := hw'.symm
     clear hw'
     rw [kn]
     try dsimp only
     refine hK.out _ _ ?_ (fun hHeld => nx ?_)
     ·(try dsimp only); exact hHeld
     clear hK K
     refine wpAnyH_ready (rs := [7, 11]) (by kernel_rfl) (by simp) ?_
     refine (AllReadyH.cons (o := _) rfl (fun K hK => ?g3) (AllReadyH.cons (o := _) rfl (fun K hK => ?g4) AllReadyH.nil))
     case' g3 =>
      go_simp
      refine (zau (V.qh s) r _ (HMW.out.below hHeld.1) HRL.out).mono ?_
      rintro e w7 ⟨u, rfl, hu, how, hb7⟩
      rw [HPP.out] at hu ⊢
      simp only at hu ⊢
      obtain ⟨up, uq, rfl⟩ := hu.slice
      unfold setV
      try dsimp only
      refine hK.out _ _ ?_ (fun hHeld => nx ?_)
      ·(try dsimp only); exact ⟨hHeld.1.trans (hb7.mono hHeld.1.size), zb (hHeld.1.trans (hb7.mono hHeld.1.size)) x1, zb (hHeld.1.trans (hb7.mono hHeld.1.size)) x3⟩
      clear hK K
      refine tk 8 ?_
      refine tk 9 ?_
      refine tk 10 ?_
      refine rd 11 fun K hK => ?_
      go_simp
      refine hK.out _ _ ?_ (fun hHeld => nx ?_)
      ·(try dsimp only); exact ⟨hHeld.1.alloc hHeld.1.size _, zb (hHeld.1.alloc hHeld.1.size _) x1, zb (hHeld.1.alloc hHeld.1.size _) x3⟩
      clear hK K
      refine rd 12 fun K hK => ?_
      first
       | (refine vp rfl 45 _ _ rfl _ #[.int .i64 0, .slice none 0 0] _ (ku hb7 (heap_alloc_new wd _)) rfl #[.int .i64 rs, .slice up its.length uq] rfl rfl (by kernel_rfl) (zt _ _ _ _) ?_; intro W9 hp9; have hR := R18.one hz9 hu how hb7 hHeld.1 hp9; clear hp9; generalize wd.heap.size = X at hR ⊢)
       | (refine vp rfl 45 _ _ rfl _ #[.int .i64 0, .slice none 0 0] _ (heap_alloc_new w7 _) rfl #[.int .i64 rs, .slice up its.length uq] rfl rfl (by kernel_rfl) (zt _ _ _ _) ?_; intro W9 hp9; have hR := R18.two hz9 hu how hb7 hHeld.1 hp9; clear hp9; generalize w7.heap.size = X at hR ⊢)
      refine hK.out _ _ ?_ (fun hHeld => nx ?_)
      ·(try dsimp only); exact ⟨hR.below, zb hR.below x1, zb hR.below x3⟩
      clear hK K
      refine tk 13 ?_
      refine wpAnyH_done (by kernel_rfl) ?_ _
     case' g4 =>
      go_simp
      refine hK.out _ _ ?_ (fun hHeld => nx ?_)
      ·(try dsimp only); exact ⟨hHeld.1.alloc hHeld.1.size _, zb (hHeld.1.alloc hHeld.1.size _) x1, zb (hHeld.1.alloc hHeld.1.size _) x3⟩
      clear hK K
      refine rd 7 fun K hK => ?_
      go_simp
      refine (zau (V.qh s) r _ (HMW.out.below hHeld.1) HRL.out).mono ?_
      rintro e w7 ⟨u, rfl, hu, how, hb7⟩
      rw [HPP.out] at hu ⊢
      simp only at hu ⊢
      obtain ⟨up, uq, rfl⟩ := hu.slice
      unfold setV
      try dsimp only
      refine hK.out _ _ ?_ (fun hHeld => nx ?_)
      ·(try dsimp only); exact ⟨hHeld.1.trans (hb7.mono hHeld.1.size), zb (hHeld.1.trans (hb7.mono hHeld.1.size)) x1, zb (hHeld.1.trans (hb7.mono hHeld.1.size)) x3⟩
      clear hK K
      refine tk 8 ?_
      refine tk 9 ?_
      refine tk 10 ?_
      refine rd 12 fun K hK => ?_
      first
       | (refine vp rfl 45 _ _ rfl _ #[.int .i64 0, .slice none 0 0] _ (ku hb7 (heap_alloc_new wd _)) rfl #[.int .i64 rs, .slice up its.length uq] rfl rfl (by kernel_rfl) (zt _ _ _ _) ?_; intro W9 hp9; have hR := R18.one hz9 hu how hb7 hHeld.1 hp9; clear hp9; generalize wd.heap.size = X at hR ⊢)
       | (refine vp rfl 45 _ _ rfl _ #[.int .i64 0, .slice none 0 0] _ (heap_alloc_new w7 _) rfl #[.int .i64 rs, .slice up its.length uq] rfl rfl (by kernel_rfl) (zt _ _ _ _) ?_; intro W9 hp9; have hR := R18.two hz9 hu how hb7 hHeld.1 hp9; clear hp9; generalize w7.heap.size = X at hR ⊢)
      refine hK.out _ _ ?_ (fun hHeld => nx ?_)
      ·(try dsimp only); exact ⟨hR.below, zb hR.below x1, zb hR.below x3⟩
      clear hK K
      refine tk 13 ?_
      refine wpAnyH_done (by kernel_rfl) ?_ _
    case' g2 =>
     go_simp
     refine hK.out _ _ ?_ (fun hHeld => nx ?_)
     ·(try dsimp only); exact ⟨hHeld.1.alloc hHeld.1.size _, zb (hHeld.1.alloc hHeld.1.size _) x1, zb (hHeld.1.alloc hHeld.1.size _) x3⟩
     clear hK K
     refine rd 3 fun K hK => ?_
     go_simp
     refine (ub ⟨s.toArray⟩ _).mono ?_
     rintro e w' ⟨rfl, hw'⟩
     obtain rfl := hw'.symm
     clear hw'
     rw [kn]
     try dsimp only
     refine hK.out _ _ ?_ (fun hHeld => nx ?_)
     ·(try dsimp only); exact hHeld
     clear hK K
     refine rd 7 fun K hK => ?_
     go_simp
     refine (zau (V.qh s) r _ (HMW.out.below hHeld.1) HRL.out).mono ?_
     rintro e w7 ⟨u, rfl, hu, how, hb7⟩
     rw [HPP.out] at hu ⊢
     simp only at hu ⊢
     obtain ⟨up, uq, rfl⟩ := hu.slice
     unfold setV
     try dsimp only
     refine hK.out _ _ ?_ (fun hHeld => nx ?_)
     ·(try dsimp only); exact ⟨hHeld.1.trans (hb7.mono hHeld.1.size), zb (hHeld.1.trans (hb7.mono hHeld.1.size)) x1, zb (hHeld.1.trans (hb7.mono hHeld.1.size)) x3⟩
     clear hK K
     refine tk 8 ?_
     refine tk 9 ?_
     refine tk 10 ?_
     refine rd 12 fun K hK => ?_
     first
      | (refine vp rfl 45 _ _ rfl _ #[.int .i64 0, .slice none 0 0] _ (ku hb7 (heap_alloc_new wd _)) rfl #[.int .i64 rs, .slice up its.length uq] rfl rfl (by kernel_rfl) (zt _ _ _ _) ?_; intro W9 hp9; have hR := R18.one hz9 hu how hb7 hHeld.1 hp9; clear hp9; generalize wd.heap.size = X at hR ⊢)
      | (refine vp rfl 45 _ _ rfl _ #[.int .i64 0, .slice none 0 0] _ (heap_alloc_new w7 _) rfl #[.int .i64 rs, .slice up its.length uq] rfl rfl (by kernel_rfl) (zt _ _ _ _) ?_; intro W9 hp9; have hR := R18.two hz9 hu how hb7 hHeld.1 hp9; clear hp9; generalize w7.heap.size = X at hR ⊢)
     refine hK.out _ _ ?_ (fun hHeld => nx ?_)
     ·(try dsimp only); exact ⟨hR.below, zb hR.below x1, zb hR.below x3⟩
     clear hK K
     refine tk 13 ?_
     refine wpAnyH_done (by kernel_rfl) ?_ _
    all_goals
     have HRR := zwe hR
     have HBX := zwe (HBW.out.trans (hR.below.mono HBW.out.size))
     have HD9 := zwe (HDI.out.call hR.below)
     obtain ⟨s0, s1⟩ := zaj hR.heap
     have y1 := zb hR.below x1
     have y2 := zb hR.below X2.out
     clear hb7 hHeld hR hu how x1 x3
     by_cases hec : ec = 0
     case neg =>
      have HE := zwe (HN3.out (HNF.out (by simp [hec])))
      have hcb : (ec != 0) = true := by simp [hec]
      clear s0 s1 y1 y2 HNF HYF HWF HRT
      go_wp2_with (first | (refine qr rfl qa _ _ rfl w.heap.size #[.string ⟨#[]⟩, .int .i64 0, .int .i64 0, .slice none 0 0] 29 HD9.out.zero rfl (.string ⟨#[]⟩) (.int .i64 0) (.int .i64 0) (.slice none 0 0) ⟨rfl, rfl, rfl, rfl⟩ rfl rfl ?_) | fail)
      exact HEX.out 2 _ HE.out HD9.out.zero HBX.out _ Tryz.results9 _ rfl rfl rfl
     subst hec
     have HR8 := zwe (HYF.out (by have := HZS.out; have := HSR.out; simp; omega))
     clear HNF HYF
     have HUL : Hid (us.length ≤ 1000) := zwe (by have := HOK.out; omega)
     have hOz : O < wr.heap.size := HDI.out.lt
     have hXz : wr.heap.size ≤ X := HRR.out.base
     have hbZ9 : Below W9.heap.size W9 (W9.drew.alloc (.cells #[.int .i64 (V.qh s), .string ⟨n.toArray⟩, .int .i64 rs, .slice up its.length uq] 47)) := (zwh _ W9).drew.alloc (zwg _) _
     have HA := zwe (HD9.out.call hbZ9)
     have HN1 : Hid ((Value.slice vao us.length vco).ownBlock ≠ some b) := zwe (fun e => by have := GRow.block HDI.out.row.row _ e; have := HBL1.out; have := HOE.out; omega)
     have HRW : Hid (∀ c, (Value.slice vao us.length vco).ownBlock = some c -> c < wr.heap.size) := zwe (fun c e => GRow.lt HDI.out.row.row _ e)
     have HN2 : Hid ((Value.slice vao us.length vco).ownBlock ≠ some X) := zwe (fun e => by have := HRW.out _ e; omega)
     have HN3 : Hid (some O ≠ some b) := zwe (fun e => by cases e; have := HBL1.out; have := HOE.out; omega)
     have HN4 : Hid (some O ≠ some X) := zwe (fun e => by cases e; omega)
     have HOW8 : Hid (∀ c, (Value.slice up its.length uq).ownBlock = some c -> O < c) := zwe (fun c hc => by have := HRR.out.own c hc; omega)
     have HP8 : Hid (FOk (W9.drew.alloc (.cells #[.int .i64 (V.qh s), .string ⟨n.toArray⟩, .int .i64 rs, .slice up its.length uq] 47)) (.slice vao us.length vco) ((⟨V.qh s, n, rs, its⟩, ⟨up, its.length, uq⟩) : Fs)) := zwe ⟨HWF.out, rfl, HRR.out.itvs.below hbZ9, fun _ c hc e => by have := HRR.out.own c hc; have := HRW.out c e; omega⟩
     have HNW : Hid (∀ j u, (fE ((⟨V.qh s, n, rs, its⟩, ⟨up, its.length, uq⟩) : Fs))[j]? = some u -> (W9.drew.alloc (.cells #[.int .i64 (V.qh s), .string ⟨n.toArray⟩, .int .i64 rs, .slice up its.length uq] 47)).cell? ⟨W9.drew.heap.size, j, none⟩ = some u) := zwe (fun j u hj => by rw [ze, if_pos rfl]; simpa [fE, Sl.v] using hj)
     have HO8 : Hid (O ≤ (W9.drew.alloc (.cells #[.int .i64 (V.qh s), .string ⟨n.toArray⟩, .int .i64 rs, .slice up its.length uq] 47)).heap.size) := zwe (Nat.le_of_lt HA.out.lt)
     have hO3b := (xk HA.out.inv).2.2.2
     have hO3 := zb (zwh _ W9).drew (xk HD9.out.inv).2.2.2
     replace y1 := zb (zwh _ W9).drew y1
     replace y2 := zb (zwh _ W9).drew y2
     replace s0 := zb (zwh _ W9).drew s0
     replace s1 := zb (zwh _ W9).drew s1
     clear hbZ9 hOz hXz HD9 HRT HRW
     go_wp2_with fail
     refine wp_region_held_drew (S := (fun W' => W'.cell? ⟨b, o + 1, none⟩ = some (.string ⟨s.toArray⟩) /\ W'.cell? ⟨b, o + 2, none⟩ = some (.string ⟨n.toArray⟩) /\ W'.cell? ⟨X, 0, none⟩ = some (.int .i64 rs) /\ W'.cell? ⟨X, 1, none⟩ = some (.slice up its.length uq))) (by kernel_rfl) (⟨y1, y2, s0, s1⟩) (fun hHeld => ?_)
     generalize W9.drew = wd at *
     refine tk 0 ?_
     refine tk 2 ?_
     refine tk 3 ?_
     refine tk 4 ?_
     refine tk 6 ?_
     refine tk 7 ?_
     refine tk 8 ?_
     refine tk 9 ?_
     refine wpAnyH_ready (rs := [1, 5]) (by kernel_rfl) (by simp) ?_
     refine (AllReadyH.cons (o := _) rfl (fun K hK => ?_) (AllReadyH.cons (o := _) rfl (fun K hK => ?_) AllReadyH.nil))
     ·refine zbm rfl (.slice vao us.length vco) (by go_simp) ?_
      try dsimp only
      refine hK.out _ _ ?_ (fun hHeld => nx ?_)
      ·exact hHeld
      clear hK K
      refine rd 5 fun K hK => ?_
      go_simp
      refine (ub ⟨s.toArray⟩ _).mono ?_
      rintro e w' ⟨rfl, hw'⟩
      obtain rfl := hw'.symm
      clear hw'
      rw [kn]
      try dsimp only
      refine hK.out _ _ ?_ (fun hHeld => nx ?_)
      ·(try dsimp only); exact hHeld
      clear hK K
      refine tk 10 ?_
      refine rd 11 fun K hK => ?_
      go_simp
      refine hK.out _ _ ?_ (fun hHeld => nx ?_)
      ·exact zx6
      exact zwu
     ·go_simp
      refine (ub ⟨s.toArray⟩ _).mono ?_
      rintro e w' ⟨rfl, hw'⟩
      obtain rfl := hw'.symm
      clear hw'
      rw [kn]
      try dsimp only
      refine hK.out _ _ ?_ (fun hHeld => nx ?_)
      ·(try dsimp only); exact hHeld
      clear hK K
      refine tk 10 ?_
      refine wpAnyH_ready (rs := [1, 11]) (by kernel_rfl) (by simp) ?_
      refine (AllReadyH.cons (o := _) rfl (fun K hK => ?_) (AllReadyH.cons (o := _) rfl (fun K hK => ?_) AllReadyH.nil))
      ·refine zbm rfl (.slice vao us.length vco) (by go_simp) ?_
       try dsimp only
       refine hK.out _ _ ?_ (fun hHeld => nx ?_)
       ·exact hHeld
       clear hK K
       refine rd 11 fun K hK => ?_
       go_simp
       refine hK.out _ _ ?_ (fun hHeld => nx ?_)
       ·exact zx6
       exact zwu
      ·go_simp
       refine hK.out _ _ ?_ (fun hHeld => nx ?_)
       ·exact zx6
       clear hK K
       refine rd 1 fun K hK => ?_
       refine zbm rfl (.slice vao us.length vco) (by go_simp) ?_
       try dsimp only
       refine hK.out _ _ ?_ (fun hHeld => nx ?_)
       ·exact hHeld
       exact zwu
   ·obtain rfl : k = rest.length := by omega
    have i1 : ¬ (rest.length : Int) + 1 < (m : Int) := by omega
    obtain ⟨x, hx⟩ : ∃ x : V.Adv, x = ⟨i, nr, ns, us.map (·.1)⟩ := ⟨_, rfl⟩
    have hrv : V.jm ([V.advW, i, r0, t0] :: rest) = some x := by rw [hx]; exact HN4.out _ (V.zix HRT.out)
    have HXE := zwe hx
    have HY := zwe (HYES.out x hrv)
    have HF := zwe (HRF.out x hrv)
    have HBP := zwe (HBS.out x hrv)
    have HM3 := zwe (HM.out.below (HB1.out.trans (hold.mono HB1.out.size)))
    have HP3 := zwe (HP.out.below (HB1.out.trans (hold.mono HB1.out.size)))
    have HAF : Hid (Affs wr (.slice vao us.length vco) x.aff) := zwe (by rw [hx]; exact hdi.row.affs)
    have HV3 := zwe (HV1.out.below hold)
    have HB3 : Hid (Below w.heap.size w wr) := zwf HB1 hold
    have e5 : (Value.agg #[.string ⟨i.toArray⟩, .int .i64 nr, .int .i64 ns, .slice vao us.length vco]) = advV x (.slice vao us.length vco) := by rw [hx]; rfl
    obtain ⟨z0, z1, z2, z3⟩ := xk hdi.inv
    clear hrv hx HYES HRF HBS HN3 HN4 HRT hold hdi HU HWD hMM
    go_wp2_with fail
    try rw [e5]
    refine (zmk x (.slice vao us.length vco) wr HM3.out HP3.out HAF.out HF.out.1 HF.out.2).mono ?_
    intro e w4 he
    have hb4 := he.2.2
    have HB4 := zwf HB3 hb4
    have HD4 := zwe (HDI.out.call hb4)
    have HV4 := zwe (HV3.out.below hb4)
    obtain ⟨z0, z1, z2, z3⟩ := xk HD4.out.inv
    clear hb4 HV3 HM3 HP3 HAF HDI e5 HB3
    by_cases hz : (V.encV x).2 = 0
    case neg =>
     have hq := he.2.1 hz
     subst hq
     have HE : Hid (V.decV bs = (V.zV, 1)) := zwe (by rw [HY.out, if_neg (fun e => hz e.1)])
     have hzb : ((V.encV x).2 != 0) = true := by simp [hz]
     clear he
     generalize (V.encV x).2 = ee at *
     exact zyh
    obtain ⟨u4, N4, W4, rfl, hbuf⟩ := he.1 hz
    have h1 := zcu hbuf (by rw [(V.zjl hz).2.2]; exact V.doc_pos)
    have h2 := zjm HV4.out HBP.out
    obtain ⟨a4, c4, rfl⟩ := hbuf.slice
    have HZ := zwe hz
    clear he hbuf hz
    generalize hD : (V.encV x).1 = D at *
    have HD := zwe hD
    clear hD
    by_cases heq : D = bs
    case neg =>
     have HE : Hid (V.decV bs = (V.zV, 1)) := zwe (by rw [HY.out, if_neg (fun e => heq e.2)])
     have hb : (D == bs) = false := by rw [zwi]; exact heq
     exact zyh
    have HE : Hid (V.decV bs = (x, 0)) := zwe (by rw [HY.out, if_pos ⟨HZ.out, heq⟩])
    subst heq
    go_wp2_with (first | (refine qr rfl qa _ _ rfl w.heap.size #[.string ⟨#[]⟩, .int .i64 0, .int .i64 0, .slice none 0 0] 29 HD4.out.zero rfl (.string ⟨i.toArray⟩) (.int .i64 nr) (.int .i64 ns) (.slice vao us.length vco) ⟨rfl, rfl, rfl, rfl⟩ rfl rfl ?_) | fail)
    refine bodyPost_ret (v := .tuple #[.agg #[.string ⟨i.toArray⟩, .int .i64 nr, .int .i64 ns, .slice vao us.length vco], .int .i64 0]) (kb Tryz.results9 rfl rfl (zcw Tryz.underlying29 qa (setRow_heap _ _ _ _ _ _ HD4.out.zero))) rfl ?_
    have hbase : w.heap.size + 1 ≤ O := HD4.out.base
    refine ⟨.slice vao us.length vco, by rw [HE.out, HXE.out]; rfl, ?_, qu HB4.out _ _ (zwg _) (Array.getElem?_eq_some_iff.1 HD4.out.zero).1⟩
    rw [HE.out, HXE.out]
    exact (HD4.out.row.kept (qj _ _ _) (HD4.out.rowNe HD4.out.zero (by decide)) (fun p hp c hc => by have := HD4.out.own p hp c hc; omega)).affs
end Go.Proofs.YtcfbkcapbbhmpaaGreatDoor
