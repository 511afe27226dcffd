/-
  Lemmas for the law.
-/
import Derived.Test.YtiloljoancdcbaaGreatDoorC38x38
import Derived.Test.YtiloljoancdcbaaGreatDoorC38x44
import Derived.Test.YtiloljoancdcbaaGreatDoorC38x37
import Derived.Test.YtiloljoancdcbaaGreatDoorC38x20
import Derived.Test.YtiloljoancdcbaaGreatDoorC38x41
import Derived.Test.YtiloljoancdcbaaGreatDoorC38x43
set_option linter.all false
set_option maxRecDepth 100000
set_option maxHeartbeats 6400000
namespace Go.Proofs.YtiloljoancdcbaaGreatDoor
open Go.RowKit
def EncVZ (x : V.Adv) (w : World) (e : Ending) (w' : World) : Prop :=
 ((V.encV x).2 = 0 -> ∃ u N W0, e = .returned (.tuple #[u, .int .i64 0]) /\ BufZ N u (V.encV x).1 W0 w' /\ w.heap.size ≤ N) /\
 (¬ (V.encV x).2 = 0 -> e = .returned (.tuple #[.slice none 0 0, .int .i64 (V.encV x).2])) /\ Below w.heap.size w w'
theorem zib (x : V.Adv) (v : Value) (w : World) (hm : zg w) (hp : zdi w) (hv : Affs w v x.aff) (hid : x.id.length ≤ maxLen) (hl : x.aff.length ≤ maxLen) :
  Calls Tryz.prog 10 #[advV x v] w (EncVZ x w) := by
 obtain ⟨pa, pc, rfl⟩ := hv.slice
 obtain ⟨hb, c0, c1, c2, c3⟩ := zdc x (.slice pa x.aff.length pc) w
 have HM1 := zvr (hm.below hb)
 have HP1 := zvr (hp.below hb)
 have HV1 := zvr (hv.below hb)
 have HB1 := zvr hb
 have HL := zvr (And.intro hid hl)
 have H3 := zvr c3
 have hsz1 : (w.alloc (.cells #[.string ⟨x.id.toArray⟩, .int .i64 x.rev, .int .i64 x.sev, .slice pa x.aff.length pc] 25)).heap.size = w.heap.size + 1 := by simp
 have HSZ := zvr hsz1
 clear hm hp hv hid hl hb hsz1
 unfold advV
 go_enter Tryz.func10, Tryz.ntmps10
 go_wp2_with fail
 generalize w.alloc (.cells #[.string ⟨x.id.toArray⟩, .int .i64 x.rev, .int .i64 x.sev, .slice pa x.aff.length pc] 25) = W1 at *
 refine (zez x (.slice pa x.aff.length pc) W1 HM1.out HV1.out HL.out.1 HL.out.2).mono ?_
 rintro e w2 ⟨rfl, hb2⟩
 replace c0 := zb hb2 c0
 replace c1 := zb hb2 c1
 replace c2 := zb hb2 c2
 replace c3 := zb hb2 c3
 have HP2 := zvr (HP1.out.below hb2)
 have HB2 := zvr hb2
 have HBW := zvs HB1 hb2
 clear hb2
 rcases hok : V.ql x with _ | _
 ·exact zyd
 ·have HEV : Hid (V.encV x = if V.encE (V.qc x) = 0 then (V.doc (V.qc x), 0) else ([], V.encE (V.qc x))) := zvr (by unfold V.encV; rw [if_pos hok])
  have HOK := zvr hok
  have HWD : Hid (∀ l ∈ V.qc x, ∀ u ∈ l, u.length ≤ maxLen) := zvr (fun l hm u hu => by have := (V.adv_words hok l hm).2 u hu; unfold maxLen; omega)
  have hpt := V.ja hok
  have HT : Hid (1 ≤ x.rev /\ x.rev ≤ 1099511627776 /\ 1 ≤ x.sev /\ x.sev ≤ 10) := zvr ⟨hpt.rev0, hpt.rev1, hpt.sev0, hpt.sev1⟩
  have HSN : Hid (∀ a ∈ x.aff, V.kd a = true) := zvr (fun a ha => hpt.sound ha)
  have hl16 := hpt.len
  clear hok hpt
  go_wp2_with fail
  refine wp_region_held_drew (S := (fun W' => W'.cell? ⟨w.heap.size, 0, none⟩ = some (.string ⟨x.id.toArray⟩) /\ W'.cell? ⟨w.heap.size, 1, none⟩ = some (.int .i64 x.rev) /\ W'.cell? ⟨w.heap.size, 2, none⟩ = some (.int .i64 x.sev))) (by kernel_rfl) (by (try dsimp only); exact ⟨zb (zvu _ w2).drew c0, zb (zvu _ w2).drew c1, zb (zvu _ w2).drew c2⟩) (fun hHeld => ?_)
  refine tk 0 ?_
  refine tk 1 ?_
  refine tk 2 ?_
  refine tk 3 ?_
  refine tk 5 ?_
  refine tk 6 ?_
  refine rd 4 fun K hK => ?_
  go_simp
  refine (zfv (by have := HT.out.1; omega) (by have := HT.out.2.1; omega) _).mono ?_
  rintro e wA ⟨rfl, hbA⟩
  try dsimp only
  have hbA2 := (zvu w2.heap.size w2).drew.trans hbA
  refine hK.out _ _ ?_ (fun hHeld => nx ?_)
  ·(try dsimp only); exact ⟨zb hbA hHeld.1, zb hbA hHeld.2.1, zb hbA hHeld.2.2⟩
  clear hK K
  refine rd 7 fun K hK => ?_
  go_simp
  refine (zfv (by have := HT.out.2.2.1; omega) (by have := HT.out.2.2.2; omega) _).mono ?_
  rintro e wB ⟨rfl, hbB⟩
  try dsimp only
  have hbB2 := hbA2.trans (hbB.mono hbA2.size)
  refine hK.out _ _ ?_ (fun hHeld => nx ?_)
  ·(try dsimp only); exact ⟨zb hbB hHeld.1, zb hbB hHeld.2.1, zb hbB hHeld.2.2⟩
  clear hK K
  refine rd 8 fun K hK => ?_
  refine zbd rfl _ _ _ _ rfl V.advW x.id (Lib.decDigits x.rev.toNat) (Lib.decDigits x.sev.toNat) rfl rfl rfl rfl ?_
  refine hK.out _ _ ?_ (fun hHeld => nx ?_)
  ·exact zw8
  clear hK K
  refine rd 9 fun K hK => ?_
  have hbC : Below w2.heap.size w2 (wB.alloc (.cells (ue [V.advW, x.id, Lib.decDigits x.rev.toNat, Lib.decDigits x.sev.toNat]) 9)) := hbB2.alloc hbB2.size _
  refine za9 rfl _ rfl ⟨some ⟨wB.heap.size, 0, none⟩, 4, 4⟩ rfl ?_
  refine hK.out _ _ ?_ (fun hHeld => nx ?_)
  ·exact zw8
  clear hK K
  refine tk 10 ?_
  refine wpAnyH_done (by kernel_rfl) ?_ _
  have hu0 := zfp wB [V.advW, x.id, Lib.decDigits x.rev.toNat, Lib.decDigits x.sev.toNat]
  have hsC : (wB.alloc (.cells (ue [V.advW, x.id, Lib.decDigits x.rev.toNat, Lib.decDigits x.sev.toNat]) 9)).heap.size = wB.heap.size + 1 := by simp
  have hw2z : w.heap.size + 1 ≤ w2.heap.size := by rw [← HSZ.out]; exact HB2.out.size
  have hlr := LRow.one (N := w.heap.size + 1) (u := ⟨some ⟨wB.heap.size, 0, none⟩, 4, 4⟩) (by change _ ≤ (wB.alloc (.cells (ue [V.advW, x.id, Lib.decDigits x.rev.toNat, Lib.decDigits x.sev.toNat]) 9)).heap.size; rw [hsC]; have := hbB2.size; omega) hu0 (by simp)
  have hbD := hbC.alloc hbC.size (.cells #[(⟨some ⟨wB.heap.size, 0, none⟩, 4, 4⟩ : Lsl).v] 47)
  have hbE := HB2.out.trans (hbD.mono HB2.out.size)
  rw [HSZ.out] at hbE
  have y3 := zb hbD c3
  have HS0 : Hid (EncS (w.heap.size + 1) W1 (.slice (some ⟨wB.heap.size + 1, 0, none⟩) 1 1) (V.jo x 0) ((wB.alloc (.cells (ue [V.advW, x.id, Lib.decDigits x.rev.toNat, Lib.decDigits x.sev.toNat]) 9)).alloc (.cells #[(⟨some ⟨wB.heap.size, 0, none⟩, 4, 4⟩ : Lsl).v] 47))) := zvr ⟨⟨_, by rw [← hsC]; exact hlr⟩, hbE, by have := hbD.size; omega⟩
  change Exit.then _ _ _ _ ((wB.alloc (.cells (ue [V.advW, x.id, Lib.decDigits x.rev.toNat, Lib.decDigits x.sev.toNat]) 9)).alloc (.cells #[(⟨some ⟨wB.heap.size, 0, none⟩, 4, 4⟩ : Lsl).v] 47))
  try simp only [World.size_alloc]
  clear hu0 hlr hbE hHeld c0 c1 c2 hw2z hbA hbA2 hbB hbB2 hbC hbD c3
  generalize (wB.alloc (.cells (ue [V.advW, x.id, Lib.decDigits x.rev.toNat, Lib.decDigits x.sev.toNat]) 9)).alloc (.cells #[(⟨some ⟨wB.heap.size, 0, none⟩, 4, 4⟩ : Lsl).v] 47) = W4 at *
  clear hsC
  generalize wB.heap.size + 1 = b4 at *
  go_wp2
  go_loopw [4, 5] (fun ov iv wx => ∃ k : Nat, k ≤ x.aff.length /\ iv = .int .i64 k /\ EncS (w.heap.size + 1) W1 ov (V.jo x k) wx) (fun _ iv _ => x.aff.length - (intOf iv).toNat)
  case atStart => exact ⟨0, Nat.zero_le _, rfl, HS0.out⟩
  case round =>
   obtain ⟨k, hk, rfl, hes⟩ := hrel
   obtain ⟨us, hrow⟩ := hes.row
   obtain ⟨oa, oc, rfl⟩ := hrow.slice
   have HR := zvr hrow
   have HBR := zvr hes.below
   have hNs := hes.size
   clear hrow hes HS0 y3
   have c3r : wr.cell? ⟨w.heap.size, 3, none⟩ = some (.slice pa x.aff.length pc) := (HBR.out.cell (p := ⟨w.heap.size, 3, none⟩) (Nat.lt_succ_self _)).trans H3.out
   by_cases hlt : k < x.aff.length
   ·obtain ⟨hwf, b, off, ua, uc, rfl, hblt, ha⟩ := HV1.out.at k hlt
    have HBR1 : Hid (Below W1.heap.size W1 wr) := zvr (by rw [HSZ.out]; exact HBR.out)
    have HW := zvr hwf
    have HA := zvr (ha.below HBR1.out)
    have HST := zvr (V.ze7 hlt)
    have hso := HSN.out x.aff[k] (List.getElem_mem hlt)
    have HFM : Hid (V.ye x.aff[k].rs x.aff[k].its = (V.xj x.aff[k].its, 0)) := zvr (by
      obtain ⟨_, h2, _, h4⟩ := V.yk hso
      unfold V.ye
      rw [h2, if_pos h4])
    have HLA : Hid (V.uk x.aff[k] = [V.affW, V.qe x.aff[k].sch, x.aff[k].name, V.xj x.aff[k].its]) := zvr rfl
    rw [HLA.out] at HST
    have hi1 : (0 : Int) ≤ (k : Int) := by omega
    have hi2 : (k : Int) < (x.aff.length : Int) := by omega
    have wr1 : IntKind.i64.wrap ((k : Int) + 1) = (k : Int) + 1 := IntWalk.i64_in _ (by omega)
    clear hwf ha hso HLA
    generalize x.aff[k] = a at *
    have e0 := HA.out.c0
    have e1 := HA.out.c1
    have e2 := HA.out.c2
    have e3 := HA.out.c3
    obtain ⟨hbZ, x0, x1, x2, x3⟩ := zc4 a (.slice ua a.its.length uc) wr
    have HIZ := zvr (HA.out.its.below hbZ)
    have HRZ := zvr (HR.out.later hbZ)
    have HBZ := zvr (HBR.out.trans (hbZ.mono hNs))
    have HMZ := zvr (HM1.out.below (HBR1.out.trans (hbZ.mono HBR1.out.size)))
    have hzZ := hbZ.size
    have HXB : Hid (some wr.heap.size = (Value.slice oa (V.jo x k).length oc).ownBlock -> False) := zvr (fun e => by
      have := HR.out.row.lt _ e.symm
      omega)
    clear hbZ HR HBR HBR1
    go_wp2_with fail
    generalize wr.alloc (.cells #[.int .i64 a.sch, .string ⟨a.name.toArray⟩, .int .i64 a.rs, .slice ua a.its.length uc] 34) = wz at *
    generalize wr.heap.size = X at *
    clear e0 e1 e2 e3
    refine (zn0 a.rs (.slice ua a.its.length uc) a.its wz HMZ.out HIZ.out HW.out.lens HW.out.len).mono ?_
    rintro e wF ⟨rfl, hbF⟩
    rw [HFM.out]
    replace x0 := zb hbF x0
    replace x1 := zb hbF x1
    replace HRZ := zvr (HRZ.out.later hbF)
    replace HBZ := zvr (HBZ.out.trans (hbF.mono (by omega)))
    have hzF := hbF.size
    have hNz : w.heap.size + 1 ≤ wF.heap.size := by omega
    clear hbF HIZ HMZ x2 x3
    go_wp2_with fail
    refine wp_region_held_drew (S := (fun W' => W'.cell? ⟨X, 0, none⟩ = some (.int .i64 a.sch) /\ W'.cell? ⟨X, 1, none⟩ = some (.string ⟨a.name.toArray⟩))) (by kernel_rfl) (by (try dsimp only); exact ⟨zb (zvu _ wF).drew x0, zb (zvu _ wF).drew x1⟩) (fun hHeld => ?_)
    refine tk 0 ?_
    refine tk 1 ?_
    refine tk 2 ?_
    refine tk 4 ?_
    refine tk 5 ?_
    refine tk 6 ?_
    refine rd 3 fun K hK => ?_
    go_simp
    refine (zp7 a.sch wF.drew).mono ?_
    exact zv6
   ·obtain rfl : k = x.aff.length := by omega
    have HLN := zvr HR.out.lines
    have HSZ : Hid (w.heap.size ≤ wr.heap.size) := zvr (Nat.le_trans HB1.out.size HBR.out.size)
    go_wp2_with fail
    refine (zpz _ (V.qc x) wr HLN.out HWD.out (V.adv_sz HOK.out)).mono ?_
    intro e w3 he
    have HBE : Hid (Below w.heap.size w w3) := zvr (HB1.out.trans ((HBR.out.trans (he.2.2.mono hNs)).mono (by omega)))
    by_cases hz : V.encE (V.qc x) = 0
    ·obtain ⟨u, rfl, hbuf⟩ := he.1 hz
     have HE2 : Hid (V.encV x = (V.doc (V.qc x), 0)) := zvr (by rw [HEV.out, if_pos hz])
     have HBF := zvr hbuf
     clear he hz hbuf
     go_wp2
     go_ret2
     exact ⟨fun _ => ⟨u, wr.heap.size, wr, rfl, by rw [HE2.out]; exact HBF.out, HSZ.out⟩, fun h => absurd (by rw [HE2.out]) h, HBE.out⟩
    ·exact zxk
theorem zlj (x : V.Adv) (v : Value) (w : World) (hm : zg w) (hp : zdi w) (hv : Affs w v x.aff) (hid : x.id.length ≤ maxLen) (hl : x.aff.length ≤ maxLen) :
  Calls Tryz.prog 10 #[advV x v] w (EncV x w) := by
 refine (zib x v w hm hp hv hid hl).mono ?_
 intro e w' h
 refine ⟨fun hz => ?_, h.2⟩
 obtain ⟨u, N, W0, he, hb, _⟩ := h.1 hz
 exact ⟨u, N, W0, he, hb.buf⟩
open Go.RowKit
theorem kr {ops : Array Oper} {o : Oper} {a : Act} {w : World} {K : Act -> World -> Prop} {Q : Exit -> Act -> World -> Prop} {E : Prop} (hgd : o.guard = none) (v : Value) (he : (execOp a.eval o).run Tryz.prog w = .ok (.value v) w)
  (h : K (a.put o.dst v) w) : if Region.wanted o (yielded ops a.tmps) = true then Oper.wp Tryz.prog o a w K Q else E := by
 rw [if_pos (by simp [Region.wanted, hgd])]
 unfold Oper.wp
 rw [he]
 exact h
theorem yq {ops : Array Oper} {o : Oper} {a : Act} {w : World} {K : Act -> World -> Prop} {Q : Exit -> Act -> World -> Prop} {E : Prop} (hgd : o.guard = none) (ty : TypeId) (x y : Operand) (ho : o.op = .store ty x y)
  (b off : Nat) (hx : a.eval x = .pointer (some ⟨b, off, none⟩)) (v : Value) (hy : a.eval y = v) (u : Value) (hc : w.cell? ⟨b, off, none⟩ = some u) (hf : w.frozen? ⟨b, off, none⟩ = false) (hi : (Tryz.prog.info? ty).map (·.size) = some 1) (h1 : v.oneCell' = true)
  (h : K (a.put o.dst undef) (w.setCell ⟨b, off, none⟩ v)) : if Region.wanted o (yielded ops a.tmps) = true then Oper.wp Tryz.prog o a w K Q else E := by
 rw [if_pos (by simp [Region.wanted, hgd])]
 unfold Oper.wp execOp
 simp only [ho, hx, hy, Instr.storeAt, Instr.sureAddr, Sem.run_bind, Sem.run_pure, Result.andThen_ok, zs8 hc hf hi h1]
 exact h
theorem qm {W W' : World} {row : Option Nat} {b o : Nat} {u : Value} (hg : W.grownBy W' row) (hb : row ≠ some b) (h : W.cell? ⟨b, o, none⟩ = some u) : W'.cell? ⟨b, o, none⟩ = some u := hg.cell h (fun e => hb e.symm)
structure R18 (wr W : World) (X : Nat) (rs : Int) (u : Value) (its : List V.Itv) : Prop where
 below : Below wr.heap.size wr W
 heap : W.heap[X]? = some (.cells #[.int .i64 rs, u] 32 (0, 0))
 itvs : Itvs W u its
 own : ∀ c, u.ownBlock = some c -> wr.heap.size ≤ c
 base : wr.heap.size ≤ X
theorem R18.two {wr wd w7 W9 : World} {o : Obj} {rs : Int} {u : Value} {its : List V.Itv} (hz : wr.heap.size ≤ wd.heap.size) (hu : Itvs w7 u its) (how : ∀ c, u.ownBlock = some c -> wd.heap.size ≤ c) (hb7 : Below wd.heap.size wd w7) (hb : Below wr.heap.size wr (w7.alloc o)) (hp : PutAt (w7.alloc o) W9 w7.heap.size #[.int .i64 rs, u] 32) : R18 wr W9 w7.heap.size rs u its := by
 have hz7 : wr.heap.size ≤ w7.heap.size := Nat.le_trans hz hb7.size
 refine ⟨hp.below hb hz7, hp.here, (hu.below ((zvu _ w7).alloc (zvt _) o)).grown hp.grown (fun hne c hc e => ?_), (fun c hc => by have := how c hc; omega), hz7⟩
 have := hu.lt hne hc
 cases e
 omega
theorem VInv.fin {V0 : World} {N0 O : Nat} {i r s v : Value} {us : List Fs} {W w8 : World} {p : Fs} {v8 : Value} (h : VInv V0 N0 O i r s v us W) (hr8 : GRow 34 4 fE w8 O v8 (us ++ [p])) (hg8 : W.grownBy w8 v.ownBlock) (ho8 : v8.ownBlock = v.ownBlock ∨ v8.ownBlock = some W.heap.size) (hp : FOk W v p) (how : ∀ c, p.2.v.ownBlock = some c -> O < c) :
  ∃ va vc, v8 = .slice va (us.length + 1) vc /\ w8.cell? ⟨O, 3, none⟩ = some v /\ w8.frozen? ⟨O, 3, none⟩ = false /\ VInv V0 N0 O i r s v8 (us ++ [p]) (w8.setCell ⟨O, 3, none⟩ v8) := by
 have hk8 := h.invKept hg8
 have hfr := h.row.add hr8 hg8 ho8 hp
 obtain ⟨va, vc, e⟩ := hfr.slice
 exact ⟨va, vc, by rw [e]; simp, (yb hk8).2.2.2, xn hk8, h.append hfr hg8 how⟩
end Go.Proofs.YtiloljoancdcbaaGreatDoor
