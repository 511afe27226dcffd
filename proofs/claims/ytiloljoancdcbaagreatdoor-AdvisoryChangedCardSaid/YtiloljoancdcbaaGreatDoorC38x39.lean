/-
  Lemmas for the law.
-/
import Derived.Test.YtiloljoancdcbaaGreatDoorC38x38
import Derived.Test.YtiloljoancdcbaaGreatDoorC38x20
import Derived.Test.YtiloljoancdcbaaGreatDoorC38x08
import Derived.Test.YtiloljoancdcbaaGreatDoorC38x37
set_option linter.all false
set_option maxRecDepth 100000
set_option maxHeartbeats 6400000
namespace Go.Proofs.YtiloljoancdcbaaGreatDoor
open Go.RowKit
theorem zv6 {P : Prop} (h : P := by
 rintro e wS ⟨rfl, rfl⟩
 try dsimp only
 refine hK.out _ _ ?_ (fun hHeld => nx ?_)
 ·(try dsimp only); exact hHeld
 clear hK K
 refine rd 7 fun K hK => ?_
 refine zbd rfl _ _ _ _ rfl V.affW (V.qe a.sch) a.name (V.xj a.its) rfl rfl rfl rfl ?_
 refine hK.out _ _ ?_ (fun hHeld => nx ?_)
 ·(try dsimp only); exact ⟨zb ((zvu _ _).alloc (zvt _) _) hHeld.1, zb ((zvu _ _).alloc (zvt _) _) hHeld.2⟩
 clear hK K
 refine rd 8 fun K hK => ?_
 have hbC : Below wF.heap.size wF (wF.drew.alloc (.cells (ue [V.affW, V.qe a.sch, a.name, V.xj a.its]) 9)) := ((zvu _ wF).drew).alloc (zvt _) _
 refine za9 rfl _ rfl ⟨some ⟨wF.heap.size, 0, none⟩, 4, 4⟩ rfl ?_
 refine hK.out _ _ ?_ (fun hHeld => nx ?_)
 ·(try dsimp only); exact ⟨zb ((zvu _ _).alloc (zvt _) _) hHeld.1, zb ((zvu _ _).alloc (zvt _) _) hHeld.2⟩
 clear hK K
 refine rd 9 fun K hK => ?_
 have hbD := hbC.alloc hbC.size (.cells #[(⟨some ⟨wF.heap.size, 0, none⟩, 4, 4⟩ : Lsl).v] 47)
 have HLZ := zvr (HRZ.out.later hbD)
 have HUS := zvr (uy (zfp wF.drew [V.affW, V.qe a.sch, a.name, V.xj a.its]) ((zvu _ _).alloc (zvt _) (.cells #[(⟨some ⟨wF.heap.size, 0, none⟩, 4, 4⟩ : Lsl).v] 47)))
 have hszC := hbC.size
 have hszD := hbD.size
 refine zgd zf4 (by decide) zkx zgi (by decide) rfl _ _ 50 rfl Tryz.underlying50 (w.heap.size + 1) (.slice oa (V.jo x k).length oc) us rfl HLZ.out.row _ ⟨some ⟨wF.heap.size, 0, none⟩, 4, 4⟩ rfl (znq _ _) (by rw [HRZ.out.len]; have := V.advLines_len x k; omega) (by omega) (fun v9 w9 hr9 hg9 ho9 => ?_)
 refine hK.out _ _ ?_ (fun hHeld => nx ?_)
 ·(try dsimp only); exact ⟨hg9.cell hHeld.1 (fun e => HXB.out e), hg9.cell hHeld.2 (fun e => HXB.out e)⟩
 clear hK K
 refine tk 10 ?_
 refine wpAnyH_done (by kernel_rfl) ?_ _
 have HN9 := zvr (HLZ.out.add hr9 hg9 ho9 HUS.out (fun _ c hc => by
   have := HRZ.out.row.lt
   intro e
   have h1 := this c e
   simp [Lsl.v, Value.ownBlock] at hc
   omega))
 have HB9 := zvr (HBZ.out.trans ((hbD.mono hNz).trans (zn hg9 HLZ.out.row.block (zvt _) (by omega))))
 have hs9 : w.heap.size + 1 ≤ w9.heap.size := by have := hg9.size; omega
 have HS9 := zvr hs9
 clear hr9 hg9 ho9 hHeld hbD hbC hszC hszD hs9 hNz HLZ HUS HRZ HBZ x0 x1
 go_wp2
 go_roundw
 case rel => exact ⟨k + 1, by omega, by go_num, ⟨⟨_, by rw [HST.out]; exact HN9.out⟩, HB9.out, HS9.out⟩⟩
 case measure => simp [intOf]; omega) : P := h
theorem zw8 {P : Prop} (h : P := by
 (try dsimp only); exact ⟨zb ((zvu _ _).alloc (zvt _) _) hHeld.1, zb ((zvu _ _).alloc (zvt _) _) hHeld.2.1, zb ((zvu _ _).alloc (zvt _) _) hHeld.2.2⟩) : P := h
theorem zxk {P : Prop} (h : P := by
 have hq := he.2.1 hz
 subst hq
 have HE2 : Hid (V.encV x = ([], V.encE (V.qc x))) := zvr (by rw [HEV.out, if_neg hz])
 have HNZ := zvr hz
 clear he hz
 generalize V.encE (V.qc x) = ee at *
 go_wp2
 go_ret2
 exact ⟨fun h => absurd (by rw [HE2.out] at h; exact h) HNZ.out, fun _ => (by rw [HE2.out]; rfl), HBE.out⟩) : P := h
theorem zyd {P : Prop} (h : P := by
 have HEV : Hid (V.encV x = ([], 1)) := zvr (by unfold V.encV; rw [if_neg (by rw [hok]; simp)])
 clear hok
 go_wp2
 go_ret2
 exact ⟨fun h => (by rw [HEV.out] at h; cases h), fun _ => (by rw [HEV.out]; rfl), HBW.out⟩) : P := h
theorem zb6 (x : V.Adv) (v : Value) (w : World) (hm : zg w) (hp : zdi w) (hv : Affs w v x.aff) (hid : x.id.length ≤ maxLen) (hl : x.aff.length ≤ maxLen) :
  Calls Tryz.prog 9 #[advV x v] w (EncV x w) := by
 obtain ⟨pa, pc, rfl⟩ := hv.slice
 obtain ⟨hb, c0, c1, c2, c3⟩ := zdc x (.slice pa x.aff.length pc) w
 have HM1 := zvr (hm.below hb)
 have HP1 := zvr (hp.below hb)
 have HV1 := zvr (hv.below hb)
 have HB1 := zvr hb
 have HL := zvr (And.intro hid hl)
 have H3 := zvr c3
 have hsz1 : (w.alloc (.cells #[.string ⟨x.id.toArray⟩, .int .i64 x.rev, .int .i64 x.sev, .slice pa x.aff.length pc] 25)).heap.size = w.heap.size + 1 := by simp
 have HSZ := zvr hsz1
 clear hm hp hv hid hl hb hsz1
 unfold advV
 go_enter Tryz.func9, Tryz.ntmps9
 go_wp2_with fail
 generalize w.alloc (.cells #[.string ⟨x.id.toArray⟩, .int .i64 x.rev, .int .i64 x.sev, .slice pa x.aff.length pc] 25) = W1 at *
 refine (za3 x (.slice pa x.aff.length pc) W1 HM1.out HV1.out HL.out.1 HL.out.2).mono ?_
 rintro e w2 ⟨rfl, hb2⟩
 replace c0 := zb hb2 c0
 replace c1 := zb hb2 c1
 replace c2 := zb hb2 c2
 replace c3 := zb hb2 c3
 have HP2 := zvr (HP1.out.below hb2)
 have HB2 := zvr hb2
 have HBW := zvs HB1 hb2
 clear hb2
 rcases hok : V.ql x with _ | _
 ·exact zyd
 ·have HEV : Hid (V.encV x = if V.encE (V.qc x) = 0 then (V.doc (V.qc x), 0) else ([], V.encE (V.qc x))) := zvr (by unfold V.encV; rw [if_pos hok])
  have HOK := zvr hok
  have HWD : Hid (∀ l ∈ V.qc x, ∀ u ∈ l, u.length ≤ maxLen) := zvr (fun l hm u hu => by have := (V.adv_words hok l hm).2 u hu; unfold maxLen; omega)
  have hpt := V.ja hok
  have HT : Hid (1 ≤ x.rev /\ x.rev ≤ 1099511627776 /\ 1 ≤ x.sev /\ x.sev ≤ 10) := zvr ⟨hpt.rev0, hpt.rev1, hpt.sev0, hpt.sev1⟩
  have HSN : Hid (∀ a ∈ x.aff, V.kd a = true) := zvr (fun a ha => hpt.sound ha)
  have hl16 := hpt.len
  clear hok hpt
  go_wp2_with fail
  refine wp_region_held_drew (S := (fun W' => W'.cell? ⟨w.heap.size, 0, none⟩ = some (.string ⟨x.id.toArray⟩) /\ W'.cell? ⟨w.heap.size, 1, none⟩ = some (.int .i64 x.rev) /\ W'.cell? ⟨w.heap.size, 2, none⟩ = some (.int .i64 x.sev))) (by kernel_rfl) (by (try dsimp only); exact ⟨zb (zvu _ w2).drew c0, zb (zvu _ w2).drew c1, zb (zvu _ w2).drew c2⟩) (fun hHeld => ?_)
  refine tk 0 ?_
  refine tk 1 ?_
  refine tk 2 ?_
  refine tk 3 ?_
  refine tk 5 ?_
  refine tk 6 ?_
  refine rd 4 fun K hK => ?_
  go_simp
  refine (zhu (by have := HT.out.1; omega) (by have := HT.out.2.1; omega) _ (HP2.out.below (zvu _ w2).drew)).mono ?_
  rintro e wA ⟨rfl, hbA⟩
  try dsimp only
  have hbA2 := (zvu w2.heap.size w2).drew.trans hbA
  refine hK.out _ _ ?_ (fun hHeld => nx ?_)
  ·(try dsimp only); exact ⟨zb hbA hHeld.1, zb hbA hHeld.2.1, zb hbA hHeld.2.2⟩
  clear hK K
  refine rd 7 fun K hK => ?_
  go_simp
  refine (zhu (by have := HT.out.2.2.1; omega) (by have := HT.out.2.2.2; omega) _ (HP2.out.below hbA2)).mono ?_
  rintro e wB ⟨rfl, hbB⟩
  try dsimp only
  have hbB2 := hbA2.trans (hbB.mono hbA2.size)
  refine hK.out _ _ ?_ (fun hHeld => nx ?_)
  ·(try dsimp only); exact ⟨zb hbB hHeld.1, zb hbB hHeld.2.1, zb hbB hHeld.2.2⟩
  clear hK K
  refine rd 8 fun K hK => ?_
  refine zbd rfl _ _ _ _ rfl V.advW x.id (Lib.decDigits x.rev.toNat) (Lib.decDigits x.sev.toNat) rfl rfl rfl rfl ?_
  refine hK.out _ _ ?_ (fun hHeld => nx ?_)
  ·exact zw8
  clear hK K
  refine rd 9 fun K hK => ?_
  have hbC : Below w2.heap.size w2 (wB.alloc (.cells (ue [V.advW, x.id, Lib.decDigits x.rev.toNat, Lib.decDigits x.sev.toNat]) 9)) := hbB2.alloc hbB2.size _
  refine za9 rfl _ rfl ⟨some ⟨wB.heap.size, 0, none⟩, 4, 4⟩ rfl ?_
  refine hK.out _ _ ?_ (fun hHeld => nx ?_)
  ·exact zw8
  clear hK K
  refine tk 10 ?_
  refine wpAnyH_done (by kernel_rfl) ?_ _
  have hu0 := zfp wB [V.advW, x.id, Lib.decDigits x.rev.toNat, Lib.decDigits x.sev.toNat]
  have hsC : (wB.alloc (.cells (ue [V.advW, x.id, Lib.decDigits x.rev.toNat, Lib.decDigits x.sev.toNat]) 9)).heap.size = wB.heap.size + 1 := by simp
  have hw2z : w.heap.size + 1 ≤ w2.heap.size := by rw [← HSZ.out]; exact HB2.out.size
  have hlr := LRow.one (N := w.heap.size + 1) (u := ⟨some ⟨wB.heap.size, 0, none⟩, 4, 4⟩) (by change _ ≤ (wB.alloc (.cells (ue [V.advW, x.id, Lib.decDigits x.rev.toNat, Lib.decDigits x.sev.toNat]) 9)).heap.size; rw [hsC]; have := hbB2.size; omega) hu0 (by simp)
  have hbD := hbC.alloc hbC.size (.cells #[(⟨some ⟨wB.heap.size, 0, none⟩, 4, 4⟩ : Lsl).v] 47)
  have hbE := HB2.out.trans (hbD.mono HB2.out.size)
  rw [HSZ.out] at hbE
  have y3 := zb hbD c3
  have HS0 : Hid (EncS (w.heap.size + 1) W1 (.slice (some ⟨wB.heap.size + 1, 0, none⟩) 1 1) (V.jo x 0) ((wB.alloc (.cells (ue [V.advW, x.id, Lib.decDigits x.rev.toNat, Lib.decDigits x.sev.toNat]) 9)).alloc (.cells #[(⟨some ⟨wB.heap.size, 0, none⟩, 4, 4⟩ : Lsl).v] 47))) := zvr ⟨⟨_, by rw [← hsC]; exact hlr⟩, hbE, by have := hbD.size; omega⟩
  change Exit.then _ _ _ _ ((wB.alloc (.cells (ue [V.advW, x.id, Lib.decDigits x.rev.toNat, Lib.decDigits x.sev.toNat]) 9)).alloc (.cells #[(⟨some ⟨wB.heap.size, 0, none⟩, 4, 4⟩ : Lsl).v] 47))
  try simp only [World.size_alloc]
  clear hu0 hlr hbE hHeld c0 c1 c2 hw2z hbA hbA2 hbB hbB2 hbC hbD c3
  generalize (wB.alloc (.cells (ue [V.advW, x.id, Lib.decDigits x.rev.toNat, Lib.decDigits x.sev.toNat]) 9)).alloc (.cells #[(⟨some ⟨wB.heap.size, 0, none⟩, 4, 4⟩ : Lsl).v] 47) = W4 at *
  clear hsC
  generalize wB.heap.size + 1 = b4 at *
  go_wp2
  go_loopw [4, 25] (fun ov iv wx => ∃ k : Nat, k ≤ x.aff.length /\ iv = .int .i64 k /\ EncS (w.heap.size + 1) W1 ov (V.jo x k) wx) (fun _ iv _ => x.aff.length - (intOf iv).toNat)
  case atStart => exact ⟨0, Nat.zero_le _, rfl, HS0.out⟩
  case round =>
   obtain ⟨k, hk, rfl, hes⟩ := hrel
   obtain ⟨us, hrow⟩ := hes.row
   obtain ⟨oa, oc, rfl⟩ := hrow.slice
   have HR := zvr hrow
   have HBR := zvr hes.below
   have hNs := hes.size
   clear hrow hes HS0 y3
   by_cases hlt : k < x.aff.length
   ·obtain ⟨hwf, b, off, ua, uc, rfl, hblt, ha⟩ := HV1.out.at k hlt
    have HBR1 : Hid (Below W1.heap.size W1 wr) := zvr (by rw [HSZ.out]; exact HBR.out)
    have HW := zvr hwf
    have HA := zvr (ha.below HBR1.out)
    have HST := zvr (V.ze7 hlt)
    have hso := HSN.out x.aff[k] (List.getElem_mem hlt)
    have HFM : Hid (V.ye x.aff[k].rs x.aff[k].its = (V.xj x.aff[k].its, 0)) := zvr (by
      obtain ⟨_, h2, _, h4⟩ := V.yk hso
      unfold V.ye
      rw [h2, if_pos h4])
    have HLA : Hid (V.uk x.aff[k] = [V.affW, V.qe x.aff[k].sch, x.aff[k].name, V.xj x.aff[k].its]) := zvr rfl
    rw [HLA.out] at HST
    have hi1 : (0 : Int) ≤ (k : Int) := by omega
    have hi2 : (k : Int) < (x.aff.length : Int) := by omega
    have wr1 : IntKind.i64.wrap ((k : Int) + 1) = (k : Int) + 1 := IntWalk.i64_in _ (by omega)
    clear hwf ha hso HLA
    generalize x.aff[k] = a at *
    have e0 := HA.out.c0
    have e1 := HA.out.c1
    have e2 := HA.out.c2
    have e3 := HA.out.c3
    obtain ⟨hbZ, x0, x1, x2, x3⟩ := zc4 a (.slice ua a.its.length uc) wr
    have HIZ := zvr (HA.out.its.below hbZ)
    have HRZ := zvr (HR.out.later hbZ)
    have HBZ := zvr (HBR.out.trans (hbZ.mono hNs))
    have HMZ := zvr (HM1.out.below (HBR1.out.trans (hbZ.mono HBR1.out.size)))
    have hzZ := hbZ.size
    have HXB : Hid (some wr.heap.size = (Value.slice oa (V.jo x k).length oc).ownBlock -> False) := zvr (fun e => by
      have := HR.out.row.lt _ e.symm
      omega)
    clear hbZ HR HBR HBR1
    go_wp2_with fail
    generalize wr.alloc (.cells #[.int .i64 a.sch, .string ⟨a.name.toArray⟩, .int .i64 a.rs, .slice ua a.its.length uc] 34) = wz at *
    generalize wr.heap.size = X at *
    clear e0 e1 e2 e3
    refine (zof a.rs (.slice ua a.its.length uc) a.its wz HMZ.out HIZ.out HW.out.lens HW.out.len).mono ?_
    rintro e wF ⟨rfl, hbF⟩
    rw [HFM.out]
    replace x0 := zb hbF x0
    replace x1 := zb hbF x1
    replace HRZ := zvr (HRZ.out.later hbF)
    replace HBZ := zvr (HBZ.out.trans (hbF.mono (by omega)))
    have hzF := hbF.size
    have hNz : w.heap.size + 1 ≤ wF.heap.size := by omega
    clear hbF HIZ HMZ x2 x3
    go_wp2_with fail
    refine wp_region_held_drew (S := (fun W' => W'.cell? ⟨X, 0, none⟩ = some (.int .i64 a.sch) /\ W'.cell? ⟨X, 1, none⟩ = some (.string ⟨a.name.toArray⟩))) (by kernel_rfl) (by (try dsimp only); exact ⟨zb (zvu _ wF).drew x0, zb (zvu _ wF).drew x1⟩) (fun hHeld => ?_)
    refine tk 0 ?_
    refine tk 1 ?_
    refine tk 2 ?_
    refine tk 4 ?_
    refine tk 5 ?_
    refine tk 6 ?_
    refine rd 3 fun K hK => ?_
    go_simp
    refine (zjz a.sch wF.drew).mono ?_
    exact zv6
   ·obtain rfl : k = x.aff.length := by omega
    have HLN := zvr HR.out.lines
    go_wp2_with fail
    refine (zs5 _ (V.qc x) wr HLN.out HWD.out).mono ?_
    intro e w3 he
    have HBE : Hid (Below w.heap.size w w3) := zvr (HB1.out.trans ((HBR.out.trans (he.2.2.mono hNs)).mono (by omega)))
    by_cases hz : V.encE (V.qc x) = 0
    ·obtain ⟨u, rfl, hbuf⟩ := he.1 hz
     have HE2 : Hid (V.encV x = (V.doc (V.qc x), 0)) := zvr (by rw [HEV.out, if_pos hz])
     have HBF := zvr hbuf
     clear he hz hbuf
     go_wp2
     go_ret2
     exact ⟨fun _ => ⟨u, wr.heap.size, wr, rfl, by rw [HE2.out]; exact HBF.out⟩, fun h => absurd (by rw [HE2.out]) h, HBE.out⟩
    ·exact zxk
variable {F : Fence} {n : Nat} {P : Program}
def HandsP {α : Type} (F : Fence) (n : Nat) (P : Program) (g : Nat) (lb : Array Value) (encs : α -> Array Value) (Kp : World -> World -> Prop) (S Sp : List α -> Prop) (Ok : List α -> α -> Prop) (w : World) (b : Nat) : Prop :=
 ∀ (l : Nat) (J Jx : List α -> World -> Prop) (W : World), Below w.heap.size w W -> (∀ s A v, J s A -> J s (A.setCell ⟨b, 0, none⟩ v)) ->
  (∀ pre x W1, J pre W1 -> Ok pre x -> YieldAt F (n - 1) P l (encs x) W1 fun e W' =>
    (e = .returned (.bool true) /\ J (pre ++ [x]) W' /\ Kp W1 W') ∨ (e = .returned (.bool false) /\ Jx (pre ++ [x]) W')) ->
  J [] W ->
  CallsIn F n P g (#[.func (.yield l) #[] #[]] ++ lb) W fun e W' => (∃ v, e = .returned v) /\ ((∃ xs, S xs /\ J xs W') ∨ (∃ pre, Sp pre /\ Jx pre W'))
structure RoundP {α : Type} (F : Fence) (n : Nat) (P : Program) (B b : Nat) (ps : Array Tmp) (t : Array Value) (assign body : Code) (encs : α -> Array Value) (Kp : World -> World -> Prop) (Ok : List α -> α -> Prop) (I : List α -> World -> Prop) (Ix : Code -> List α -> World -> Prop) (act : α -> Act) : Prop where
 own : OwnFrom B I
 ownx : ∀ c, OwnFrom B (Ix c)
 state : ∀ s A v, I s A -> I s (A.setCell ⟨b, 0, none⟩ v)
 assigned : ∀ (l : Nat) (x : α) (W : World) (K : Act -> World -> Prop), K (act x) W ->
  assign.wpIn (F.inRound l) (n - 1 - 1) P (Exit.then K (fun _ _ _ => False)) { tmps := (ps.zip (encs x)).foldl (fun t (p, v) => t.setIfInBounds p v) t, defers := [] } W
 run : ∀ (l : Nat) (pre : List α) (x : α) (W : World), I pre W -> Ok pre x -> body.wpIn (F.inRound l) (n - 1 - 1) P (ownPostK Kp I Ix (pre ++ [x]) W) (act x) W
theorem RoundP.yields {α : Type} {B b : Nat} {ps : Array Tmp} {t : Array Value} {assign body : Code} {encs : α -> Array Value} {Kp : World -> World -> Prop} {Ok : List α -> α -> Prop} {I : List α -> World -> Prop} {Ix : Code -> List α -> World -> Prop} {act : α -> Act}
  (h : RoundP F n P B b ps t assign body encs Kp Ok I Ix act) {fn : FuncId} (hfn : F.fn fn) (hps : ∀ x, (encs x).size = ps.size)
  (hKt : ∀ {A C D : World}, Kp A C -> Kp C D -> Kp A D) (hKb : ∀ (W : World) (l : Nat) (o o' : Obj), B ≤ l -> W.heap[l]? = some o -> o.isCells = false -> o.isWalk = false -> Kp W (W.putObj l o'))
  {pre : List α} {x : α} {W : World} (hi : I pre W) (hB : Booked B (recd fn t ps assign body B .ready none) W) (hx : Ok pre x) :
  YieldAt F (n - 1 - 1) P (B + 1) (encs x) W fun e W' =>
   (e = .returned (.bool true) /\ (I (pre ++ [x]) W' /\ Booked B (recd fn t ps assign body B .ready none) W') /\ Kp W W') ∨
   (e = .returned (.bool false) /\ ∃ c, Ix c (pre ++ [x]) W' /\ Booked B (recd fn t ps assign body B .done (some c)) W') := by
 have hbusy := hB.turn (recd fn t ps assign body B .busy none)
 have hk0 := hKb W (B + 1) _ (.loop (recd fn t ps assign body B .busy none)) (Nat.le_succ B) hB.at1 rfl rfl
 refine ⟨fn, _, assign, body, run_yield (P := P) (args := encs x) hB.at1 (hps x), roundIn_of_wpIn hfn (h.assigned _ x W _ ⟨_, run_beginRound hB.at1 rfl, ?_⟩)⟩
 refine wpIn_mono (h.run _ pre x _ (hB.own h.own hi _) hx) fun e a3 W3 hp => ?_
 have left : ∀ c, KeepsOthers (W.putObj (B + 1) (.loop (recd fn t ps assign body B .busy none))) W3 -> Ix c (pre ++ [x]) W3 ->
   ∃ c', Ix c' (pre ++ [x]) (W3.putObj (B + 1) (.loop (recd fn t ps assign body B .done (some c)))) /\ Booked B (recd fn t ps assign body B .done (some c')) (W3.putObj (B + 1) (.loop (recd fn t ps assign body B .done (some c)))) :=
  fun c k hx => ⟨c, (hbusy.keep k).own (h.ownx c) hx _, (hbusy.keep k).turn _⟩
 cases e with
 | normal => exact ⟨_, _, (hbusy.keep hp.1).ends none, .inl ⟨rfl, ⟨(hbusy.keep hp.1).own h.own hp.2.2 _, (hbusy.keep hp.1).turn _⟩, hKt (hKt hk0 hp.2.1) (hKb _ _ _ _ (Nat.le_succ B) (hbusy.keep hp.1).at1 rfl rfl)⟩⟩
 | ret => exact ⟨_, _, (hbusy.keep hp.1).ends (some .ret), .inr ⟨rfl, left _ hp.1 hp.2⟩⟩
 | exit id => exact ⟨_, _, (hbusy.keep hp.1).ends (some (.exit id)), .inr ⟨rfl, left _ hp.1 hp.2⟩⟩
 | goto c => exact ⟨_, _, (hbusy.keep hp.1).ends (some (.goto c)), .inr ⟨rfl, left _ hp.1 hp.2⟩⟩
 | panic ch => exact hp.elim
 | outgrown => exact hp.elim
theorem zf1 {α : Type} {g : Operand} {ps : Array Tmp} {assign body : Code} {Q : Exit -> Act -> World -> Prop} {a : Act} {w : World}
  (hro : F.round = none) (h1 : 1 ≤ n) {gf : Nat} {lb : Array Value} (hg : a.eval g = .func (.func gf) #[] lb) (hFg : F.fn gf) (eg : ∀ args w, (callFunc gf args).run P w = .ok (.enter gf args) w)
  {encs : α -> Array Value} {Kp : World -> World -> Prop} {S Sp : List α -> Prop} {Ok : List α -> α -> Prop} {b : Nat} (hb : b < w.heap.size) (hseq : HandsP F (n - 1) P gf lb encs Kp S Sp Ok w b)
  (hKt : ∀ {A B C : World}, Kp A B -> Kp B C -> Kp A C) (hKb : ∀ (W : World) (l : Nat) (o o' : Obj), w.heap.size ≤ l -> W.heap[l]? = some o -> o.isCells = false -> o.isWalk = false -> Kp W (W.putObj l o')) (hps : ∀ x, (encs x).size = ps.size)
  {I : List α -> World -> Prop} {Ix : Code -> List α -> World -> Prop} {act : α -> Act} (hr : RoundP F n P w.heap.size b ps a.tmps assign body encs Kp Ok I Ix act) (h0 : I [] w)
  (hdone : ∀ (D : Nat) (xs : List α) (W : World), w.heap.size ≤ D -> S xs -> I xs W -> W.heap[D]? = some (.deferred (some [])) -> Q .normal { a with defers := { target := .collected D, args := #[] } :: a.defers } W)
  (hstop : ∀ (D : Nat) (c : Code) (pre : List α) (W : World), w.heap.size ≤ D -> Sp pre -> Ix c pre W -> W.heap[D]? = some (.deferred (some [])) -> c.wpIn F n P Q { a with defers := { target := .collected D, args := #[] } :: a.defers } W) :
  (Code.rangeFunc g ps assign body).wpIn F n P Q a w := by
 refine wpIn_rangeFunc fun fn hfn => ?_
 have hbk := Booked.fresh w (recd fn a.tmps ps assign body w.heap.size .ready none)
 have hbel : Below w.heap.size w ((w.alloc (.deferred (some []))).alloc (.loop (recd fn a.tmps ps assign body w.heap.size .ready none))) := ((zvu _ w).alloc (zvt _) _).alloc (by simp) _
 have hI1 := hr.own.alloc (.loop (recd fn a.tmps ps assign body w.heap.size .ready none)) (hr.own.alloc (.deferred (some [])) h0)
 rw [hro]
 have hent := run_enterLoop_outer (P := P) (w := w) fn a.tmps ps assign body
 obtain ⟨W1, hW1⟩ : ∃ W1, W1 = (w.alloc (.deferred (some []))).alloc (.loop (recd fn a.tmps ps assign body w.heap.size .ready none)) := ⟨_, rfl⟩
 rw [← hW1] at hbk hbel hI1
 refine ⟨w.heap.size + 1, [{ target := .collected w.heap.size, args := #[] }], W1, { target := .fn (.func gf) lb, args := #[.func (.yield (w.heap.size + 1)) #[] #[]] }, W1, gf,
   #[.func (.yield (w.heap.size + 1)) #[] #[]] ++ lb, W1, by rw [hW1]; exact hent, ?called, ?led, ?entered, fun _ => h1, ?it⟩
 case called => simp only [resolve, hg]; simp [go_sem]
 case led => intro f' hf'; simp [Target.leads] at hf'; exact hf' ▸ hFg
 case entered => simp [invoke, go_sem, eg]
 case it =>
  exact zwo
open Go.RowKit Go.Shelf
attribute [local go_sem] Oper.semAt_some
theorem zes {c : UInt8} {r : V.Bs} {i : Nat} (h : Lib.indexByte r c = i) : V.ze c r = r.take i :: V.ze c (r.drop (i + 1)) /\ i < r.length := by
 have hm : c ∈ r := by
  have := V.xz r c
  rw [h] at this
  simpa using this.symm
 have hi : ((r.takeWhile (· != c)).length) = i := by
  have h1 : Lib.index r [c] = Lib.indexByte r c := Lib.index_one r c
  rw [V.index_one, if_pos hm, h] at h1
  omega
 have hlt := V.tw_lt hm
 refine ⟨?_, by omega⟩
 have h2 := V.ziz r (· != c)
 rw [hi] at h2
 rw [V.vx hm, hi, h2]
theorem zqn {c : UInt8} {r : V.Bs} (h : Lib.indexByte r c = -1) : V.ze c r = [r] := by
 refine V.ju fun e => ?_
 have := V.xz r c
 rw [h] at this
 simp [e] at this
theorem zq2 (r : V.Bs) : Lib.bytesOf (r.map fun b => (b.toNat : Int)) = r := by
 unfold Lib.bytesOf
 rw [List.map_map]
 conv => rhs; rw [← List.map_id r]
 apply List.map_congr_left
 intro b _
 simp
theorem zi8 (c : UInt8) (g o cap b2 d : Nat) (r : V.Bs) (W : World) (hc : ∀ j (h : j < r.length), W.cell? ⟨g, o + j, none⟩ = some (.int .u8 (r[j]).toNat)) (h2 : W.cell? ⟨b2, 0, none⟩ = some (.int .u8 c.toNat)) :
  Calls Tryz.prog 96 #[.slice (some ⟨g, o, none⟩) r.length cap, .slice (some ⟨b2, 0, none⟩) 1 d] W fun e w' => e = .returned (.int .i64 (Lib.indexByte r c)) /\ w' = W := by
 have := Tryz.bytes_Index_one_at ⟨g, o, none⟩ r.length cap b2 0 d (r.map fun b => (b.toNat : Int)) c.toNat W (by simp) (fun i hi => by
   rw [Addr.add_mid, hc i hi, List.getD_eq_getElem?_getD, List.getElem?_map, List.getElem?_eq_getElem hi]
   rfl) h2
 rw [zq2] at this
 have e : ((c.toNat : Int)).toNat.toUInt8 = c := by simp
 rwa [e] at this
def slLen : Option Value -> Nat
 | some (.slice _ n _) => n
 | _ => 0
def zea (off : Nat) (r0 : V.Bs) (x : Nat × V.Bs) : Prop := ∃ p, ∃ h : p + x.2.length ≤ r0.length, (0 < x.2.length -> x.1 = off + p) /\ ∀ j (hj : j < x.2.length), x.2[j] = r0[p + j]'(by omega)
theorem zea.cells {off : Nat} {r0 : V.Bs} {x : Nat × V.Bs} (h : zea off r0 x) {W : World} {g : Nat} (hc : ∀ j (h : j < r0.length), W.cell? ⟨g, off + j, none⟩ = some (.int .u8 (r0[j]).toNat)) : ∀ j (hj : j < x.2.length), W.cell? ⟨g, x.1 + j, none⟩ = some (.int .u8 (x.2[j]).toNat) := fun j hj => by
 obtain ⟨p, hl, ho, hx⟩ := h
 rw [ho (by omega), hx j hj, Nat.add_assoc]
 exact hc (p + j) (by omega)
def KpO (B O : Nat) (W W' : World) : Prop := W.heap.size ≤ W'.heap.size /\ ∀ q, q < B -> q ≠ O -> W'.heap[q]? = W.heap[q]?
theorem KpO.cell {B O : Nat} {W W' : World} (h : KpO B O W W') {q o : Nat} (hq : q < B) (hO : q ≠ O) : W'.cell? ⟨q, o, none⟩ = W.cell? ⟨q, o, none⟩ := by
 unfold World.cell?
 rw [h.2 q hq hO]
theorem KpO.frozen {B O : Nat} {W W' : World} (h : KpO B O W W') {q o : Nat} (hq : q < B) (hO : q ≠ O) : W'.frozen? ⟨q, o, none⟩ = W.frozen? ⟨q, o, none⟩ := by
 unfold World.frozen?
 rw [h.2 q hq hO]
theorem KpO.trans {B O : Nat} {A C D : World} (h : KpO B O A C) (k : KpO B O C D) : KpO B O A D := ⟨Nat.le_trans h.1 k.1, fun q hq hO => (k.2 q hq hO).trans (h.2 q hq hO)⟩
theorem KpO.put {B O : Nat} {w : World} (hB : B ≤ w.heap.size) (W : World) (l : Nat) (o o' : Obj) (hl : w.heap.size ≤ l) (h : W.heap[l]? = some o) (_ : o.isCells = false) (_ : o.isWalk = false) : KpO B O W (W.putObj l o') :=
 ⟨(grownBy_putObj' W l o').size, fun q hq _ => World.putObj_heap_other (by omega)⟩
theorem zrw (n : Nat) (hn : 1 ≤ n) (l bS g off cap0 b2 O : Nat) (hO : O < bS) (hOg : g ≠ O) (hO2 : b2 ≠ O) (c : UInt8) (r0 : V.Bs) (hs : r0.length ≤ 1000000) (hcap0 : r0.length ≤ cap0) (hg : g < bS + 3) (hgS : g ≠ bS) (hb2 : b2 < bS + 3) (hb2S : b2 ≠ bS) (J Jx : List (Nat × V.Bs) -> World -> Prop)
  (hJ : ∀ s A v, J s A -> J s (A.setCell ⟨bS, 0, none⟩ v))
  (hY : ∀ pre x W, J pre W -> (zea off r0 x /\ pre.length ≤ r0.length + 1) -> YieldAt Fence.wide (n - 1) Tryz.prog l #[.slice (some ⟨g, x.1, none⟩) x.2.length x.2.length] W fun e W' =>
    (e = .returned (.bool true) /\ J (pre ++ [x]) W' /\ KpO (bS + 3) O W W') ∨ (e = .returned (.bool false) /\ Jx (pre ++ [x]) W'))
  (W : World) (hS : W.cell? ⟨bS, 0, none⟩ = some (.slice (some ⟨g, off, none⟩) r0.length cap0)) (hF : W.frozen? ⟨bS, 0, none⟩ = false) (hP : W.cell? ⟨bS + 1, 0, none⟩ = some (.slice (some ⟨b2, 0, none⟩) 1 1)) (hV : W.cell? ⟨bS + 2, 0, none⟩ = some (.int .i64 0))
  (hC : ∀ j (h : j < r0.length), W.cell? ⟨g, off + j, none⟩ = some (.int .u8 (r0[j]).toNat)) (h2 : W.cell? ⟨b2, 0, none⟩ = some (.int .u8 c.toNat)) (h0 : J [] W) :
  CallsIn Fence.wide n Tryz.prog 123 #[.func (.yield l) #[] #[], .pointer (some ⟨bS + 1, 0, none⟩), .pointer (some ⟨bS, 0, none⟩), .pointer (some ⟨bS + 2, 0, none⟩)] W fun e W' => (∃ v, e = .returned v) /\
   ((∃ ys, ys.map Prod.snd = V.ze c r0 /\ J ys W') ∨ (∃ pre, pre.map Prod.snd <+: V.ze c r0 /\ Jx pre W')) := by
 have HJ := zvr hJ
 have HY := zvr hY
 clear hJ hY
 refine callsIn_of_wp Tryz.func123 rfl trivial ?_ rfl
 simp only [Tryz.ntmps123, List.size_toArray, List.length_cons, List.length_nil, Nat.reduceAdd, Nat.reduceSub, Array.replicate_succ, Array.replicate_zero, List.push_toArray, List.append_toArray, List.nil_append, List.cons_append]
 have HC := zvr hC
 clear hC
 gi_wp2
 gi_loopw [7, 8] (fun _ _ wr => ∃ (pre : List (Nat × V.Bs)) (p o cap : Nat) (r : V.Bs), wr.cell? ⟨bS, 0, none⟩ = some (.slice (some ⟨g, o, none⟩) r.length cap) /\ wr.frozen? ⟨bS, 0, none⟩ = false /\ wr.cell? ⟨bS + 1, 0, none⟩ = some (.slice (some ⟨b2, 0, none⟩) 1 1) /\ wr.cell? ⟨bS + 2, 0, none⟩ = some (.int .i64 0) /\
     (r = r0.drop p /\ p + r.length = r0.length /\ (0 < r.length -> o = off + p)) /\ r.length ≤ cap /\ pre.map Prod.snd ++ V.ze c r = V.ze c r0 /\ (∀ j (h : j < r0.length), wr.cell? ⟨g, off + j, none⟩ = some (.int .u8 (r0[j]).toNat)) /\ wr.cell? ⟨b2, 0, none⟩ = some (.int .u8 c.toNat) /\ J pre wr)
  (fun _ _ wr => slLen (wr.cell? ⟨bS, 0, none⟩))
 case atStart => exact ⟨[], 0, off, cap0, r0, hS, hF, hP, hV, ⟨rfl, by omega, fun _ => rfl⟩, hcap0, rfl, HC.out, h2, h0⟩
 case round =>
  clear hS hF hP hV h2 h0 HC
  obtain ⟨pre, p, o, cap, r, hS, hF, hP, hV, ⟨hr, hpl, ho⟩, hrc, hpc, hC, h2, hj⟩ := hrel
  have HPC := zvr hpc
  have HJS := zvr hj
  have HC := zvr hC
  have H2 := zvr h2
  have HR := zvr hr
  have HO := zvr ho
  have hCr : ∀ j (h : j < r.length), wr.cell? ⟨g, o + j, none⟩ = some (.int .u8 (r[j]).toNat) := fun j h => by
   have := hC (p + j) (by omega)
   rw [ho (by omega), Nat.add_assoc, this]
   subst hr
   simp
  have HCR := zvr hCr
  clear hj hC h2 hr hCr ho
  have hpn : pre.length ≤ r0.length + 1 := by
   have h1 := congrArg List.length hpc
   have h2 := V.zsy c r0
   simp at h1
   omega
  have HPN := zvr hpn
  clear hpn hpc
  have hcase : (Lib.indexByte r c = -1 /\ V.ze c r = [r]) ∨ ∃ i : Nat, Lib.indexByte r c = i /\ i < r.length /\ V.ze c r = r.take i :: V.ze c (r.drop (i + 1)) := by
   have hge := Lib.indexByte_ge r c
   by_cases hm : Lib.indexByte r c = -1
   ·exact .inl ⟨hm, zqn hm⟩
   ·obtain ⟨i, hi⟩ := Int.eq_ofNat_of_zero_le (show 0 ≤ Lib.indexByte r c by omega)
    exact .inr ⟨i, hi, (zes hi).2, (zes hi).1⟩
  rcases hcase with ⟨hi, hp⟩ | ⟨i, hi, hlt, hp⟩
  ·have HI := zvr hi
   have HPP := zvr hp
   clear hi hp
   have hk1 : (r.length : Int) ≤ (cap : Int) := by omega
   have hpo : zea off r0 (o, r) := ⟨p, Nat.le_of_eq hpl, HO.out, fun j hj => by
     have e := HR.out
     subst e
     simp⟩
   obtain ⟨fn, tmps, assign, body, hy, hRR⟩ := HY.out pre (o, r) wr HJS.out ⟨hpo, HPN.out⟩
   gi_wp2_with fail
   refine ⟨trivial, (callsIn_wide.2 (zi8 c g o cap b2 1 r wr HCR.out H2.out)).mono ?_⟩
   rintro e w' ⟨rfl, rfl⟩
   simp only [HI.out]
   gi_wp2
   refine hRR.mono ?_
   rintro e W3 (⟨rfl, hJ3, hk3⟩ | ⟨rfl, hJx3⟩)
   ·gi_wp2
    go_end0
    exact ⟨⟨_, rfl⟩, .inl ⟨_, by rw [← HPC.out, HPP.out, List.map_append]; rfl, hJ3⟩⟩
   ·gi_wp2
    go_end0
    exact ⟨⟨_, rfl⟩, .inr ⟨_, by rw [← HPC.out, HPP.out, List.map_append]; exact List.prefix_refl _, hJx3⟩⟩
  ·have HI := zvr hi
   have HPP := zvr hp
   clear hi hp
   have hoe := HO.out (by omega)
   have hk1 : (i : Int) ≤ (cap : Int) := by omega
   have hk2 : (0 : Int) ≤ (i : Int) := by omega
   have hk3 : ¬ ((i : Int) < 0) := by omega
   have hk4 : IntKind.i64.wrap (i : Int) = (i : Int) := by unfold IntKind.wrap; simp [IntKind.signed, IntKind.bits]; omega
   have hk5 : IntKind.i64.wrap ((i : Int) + 1) = (i : Int) + 1 := by unfold IntKind.wrap; simp [IntKind.signed, IntKind.bits]; omega
   have hk6 : (i : Int) + 1 ≤ (r.length : Int) := by omega
   have hk7 : (r.length : Int) ≤ (cap : Int) := by omega
   have hk8 : (0 : Int) ≤ (i : Int) + 1 := by omega
   have htl : (r.take i).length = i := by rw [List.length_take]; omega
   have hpo : zea off r0 (o, r.take i) := ⟨p, by simp only [htl]; omega, fun _ => hoe, fun j hj => by
     have e := HR.out
     subst e
     simp⟩
   have HOE := zvr hoe
   clear hoe
   obtain ⟨fn, tmps, assign, body, hy, hRR⟩ := HY.out pre (o, r.take i) wr HJS.out ⟨hpo, HPN.out⟩
   simp only [htl] at hy
   obtain ⟨ad, had⟩ : ∃ ad, ad = (if cap = i + 1 then (o : Nat) else o + (i + 1)) := ⟨_, rfl⟩
   have hadv : (if cap = i + 1 then some (⟨g, o, none⟩ : Addr) else some ⟨g, o + (i + 1), none⟩) = some ⟨g, ad, none⟩ := by
    rw [had]; split <;> rfl
   have HAD := zvr had
   clear had
   gi_wp2_with fail
   refine ⟨trivial, (callsIn_wide.2 (zi8 c g o cap b2 1 r wr HCR.out H2.out)).mono ?_⟩
   rintro e w' ⟨rfl, rfl⟩
   simp only [HI.out]
   gi_wp2
   refine hRR.mono ?_
   rintro e W3 (⟨rfl, hJ3, hk3⟩ | ⟨rfl, hJx3⟩)
   ·have hS3 := (hk3.cell (q := bS) (o := 0) (by omega) (by omega)).trans hS
    have hF3 := (hk3.frozen (q := bS) (o := 0) (by omega) (by omega)).trans hF
    have hP3 := (hk3.cell (q := bS + 1) (o := 0) (by omega) (by omega)).trans hP
    have hV3 := (hk3.cell (q := bS + 2) (o := 0) (by omega) (by omega)).trans hV
    gi_wp2
    go_roundw
    case rel =>
     have hdl : (r.drop (i + 1)).length = r.length - (i + 1) := List.length_drop
     refine ⟨pre ++ [(o, r.take i)], p + (i + 1), ad, cap - (i + 1), r.drop (i + 1), ?_, ?_, ?_, ?_, ⟨?_, ?_, ?_⟩, ?_, ?_, ?_, ?_, HJ.out _ _ _ hJ3⟩
     ·rw [hdl]
      refine (World.cell?_setCell_same _ _ _ hS3).trans ?_
      first | rfl | rw [hadv]
     ·rw [World.frozen?_setCell]; exact hF3
     ·rw [World.cell?_setCell_other _ _ _ _ (by simp)]; exact hP3
     ·rw [World.cell?_setCell_other _ _ _ _ (by simp)]; exact hV3
     ·rw [HR.out, List.drop_drop]
     ·rw [hdl]; omega
     ·intro h
      rw [hdl] at h
      rw [HAD.out, if_neg (by omega), HOE.out]
      omega
     ·rw [hdl]; omega
     ·rw [← HPC.out, HPP.out, List.map_append]; simp
     ·intro j h
      rw [World.cell?_setCell_other _ _ _ _ (by simp [hgS])]
      exact (hk3.cell (q := g) (o := off + j) hg hOg).trans (HC.out j h)
     ·rw [World.cell?_setCell_other _ _ _ _ (by simp [hb2S])]
      exact (hk3.cell (q := b2) (o := 0) hb2 hO2).trans H2.out
    case measure =>
     rw [World.cell?_setCell_same _ _ _ hS3, hS]
     simp [slLen]; omega
   ·gi_wp2
    refine bodyPost_ret (results_none rfl _ _ _) rfl ?_
    exact ⟨⟨_, rfl⟩, .inr ⟨_, by rw [← HPC.out, HPP.out, List.map_append]; exact ⟨V.ze c (r.drop (i + 1)), by simp⟩, hJx3⟩⟩
theorem zqp (n : Nat) (hn : 1 ≤ n) (bS g off cap0 b2 O : Nat) (hO : O < bS) (hOg : g ≠ O) (hO2 : b2 ≠ O) (c : UInt8) (r0 : V.Bs) (hs : r0.length ≤ 1000000) (hcap0 : r0.length ≤ cap0) (hg : g < bS) (hb2 : b2 < bS) (w : World) (hb : bS + 2 < w.heap.size)
  (hS : w.cell? ⟨bS, 0, none⟩ = some (.slice (some ⟨g, off, none⟩) r0.length cap0)) (hF : w.frozen? ⟨bS, 0, none⟩ = false) (hP : w.cell? ⟨bS + 1, 0, none⟩ = some (.slice (some ⟨b2, 0, none⟩) 1 1)) (hV : w.cell? ⟨bS + 2, 0, none⟩ = some (.int .i64 0))
  (hC : ∀ j (h : j < r0.length), w.cell? ⟨g, off + j, none⟩ = some (.int .u8 (r0[j]).toNat)) (h2 : w.cell? ⟨b2, 0, none⟩ = some (.int .u8 c.toNat)) :
  HandsP Fence.wide n Tryz.prog 123 #[.pointer (some ⟨bS + 1, 0, none⟩), .pointer (some ⟨bS, 0, none⟩), .pointer (some ⟨bS + 2, 0, none⟩)] (fun x : Nat × V.Bs => #[.slice (some ⟨g, x.1, none⟩) x.2.length x.2.length]) (KpO (bS + 3) O) (fun ys => ys.map Prod.snd = V.ze c r0) (fun pre => pre.map Prod.snd <+: V.ze c r0) (fun pre x => zea off r0 x /\ pre.length ≤ r0.length + 1) w bS := by
 intro l J Jx W hW hJ hY h0
 have hk := fun b o (hb : b < w.heap.size) => hW.cell (p := ⟨b, o, none⟩) hb
 exact zrw n hn l bS g off cap0 b2 O hO hOg hO2 c r0 hs hcap0 (by omega) (by omega) (by omega) (by omega) J Jx hJ hY W ((hk bS 0 (by omega)).trans hS) ((hW.frozen (p := ⟨bS, 0, none⟩) (show bS < w.heap.size by omega)).trans hF) ((hk (bS + 1) 0 (by omega)).trans hP) ((hk (bS + 2) 0 (by omega)).trans hV)
  (fun j h => (hk g _ (by omega)).trans (hC j h)) ((hk b2 0 (by omega)).trans h2) h0
theorem zkm (a a2 : Option Addr) (n n2 c c2 : Nat) (w : World) :
  Calls Tryz.prog 97 #[.slice a n c, .slice a2 n2 c2, .int .i64 0] w fun e w' =>
   e = .returned (.func (.func 123) #[] #[.pointer (some ⟨w.heap.size + 1, 0, none⟩), .pointer (some ⟨w.heap.size, 0, none⟩), .pointer (some ⟨w.heap.size + 2, 0, none⟩)]) /\
   w' = ((w.alloc (.cells #[.slice a n c] 36)).alloc (.cells #[.slice a2 n2 c2] 36)).alloc (.cells #[.int .i64 0] 3) := by
 go_enter Tryz.func97, Tryz.ntmps97
 go_wp2
 go_ret
 exact ⟨rfl, rfl⟩
theorem zlu (a a2 : Option Addr) (n n2 c c2 : Nat) (w : World) :
  Calls Tryz.prog 66 #[.slice a n c, .slice a2 n2 c2] w fun e w' =>
   e = .returned (.func (.func 123) #[] #[.pointer (some ⟨w.heap.size + 1, 0, none⟩), .pointer (some ⟨w.heap.size, 0, none⟩), .pointer (some ⟨w.heap.size + 2, 0, none⟩)]) /\
   w' = ((w.alloc (.cells #[.slice a n c] 36)).alloc (.cells #[.slice a2 n2 c2] 36)).alloc (.cells #[.int .i64 0] 3) := by
 go_enter Tryz.func66, Tryz.ntmps66
 go_wp2_with fail
 refine (zkm a a2 n n2 c c2 w).mono ?_
 rintro e w' ⟨rfl, rfl⟩
 go_wp2
 go_ret
 exact ⟨rfl, rfl⟩
end Go.Proofs.YtiloljoancdcbaaGreatDoor
