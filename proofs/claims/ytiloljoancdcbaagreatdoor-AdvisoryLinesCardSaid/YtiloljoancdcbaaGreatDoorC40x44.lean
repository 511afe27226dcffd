/-
  Lemmas for the law.
-/
import Derived.Test.YtiloljoancdcbaaGreatDoorC40x27
import Derived.Test.YtiloljoancdcbaaGreatDoorC40x43
import Derived.Test.YtiloljoancdcbaaGreatDoorC40x26
import Derived.Test.YtiloljoancdcbaaGreatDoorC40x20
import Derived.Test.YtiloljoancdcbaaGreatDoorC40x40
set_option linter.all false
set_option maxRecDepth 100000
set_option maxHeartbeats 6400000
namespace Go.Proofs.YtiloljoancdcbaaGreatDoor
open Go.RowKit
def EncVZ (x : V.Adv) (w : World) (e : Ending) (w' : World) : Prop :=
 ((V.encV x).2 = 0 -> ∃ u N W0, e = .returned (.tuple #[u, .int .i64 0]) /\ BufZ N u (V.encV x).1 W0 w' /\ w.heap.size ≤ N) /\
 (¬ (V.encV x).2 = 0 -> e = .returned (.tuple #[.slice none 0 0, .int .i64 (V.encV x).2])) /\ Below w.heap.size w w'
theorem ziw (x : V.Adv) (v : Value) (w : World) (hm : zg w) (hp : zcx w) (hv : Affs w v x.aff) (hid : x.id.length ≤ maxLen) (hl : x.aff.length ≤ maxLen) :
  Calls Tryz.prog 10 #[advV x v] w (EncVZ x w) := by
 obtain ⟨pa, pc, rfl⟩ := hv.slice
 obtain ⟨hb, c0, c1, c2, c3⟩ := zbb x (.slice pa x.aff.length pc) w
 have HM1 := zvq (hm.below hb)
 have HP1 := zvq (hp.below hb)
 have HV1 := zvq (hv.below hb)
 have HB1 := zvq hb
 have HL := zvq (And.intro hid hl)
 have H3 := zvq c3
 have hsz1 : (w.alloc (.cells #[.string ⟨x.id.toArray⟩, .int .i64 x.rev, .int .i64 x.sev, .slice pa x.aff.length pc] 25)).heap.size = w.heap.size + 1 := by simp
 have HSZ := zvq hsz1
 clear hm hp hv hid hl hb hsz1
 unfold advV
 go_enter Tryz.func10, Tryz.ntmps10
 go_wp2_with fail
 generalize w.alloc (.cells #[.string ⟨x.id.toArray⟩, .int .i64 x.rev, .int .i64 x.sev, .slice pa x.aff.length pc] 25) = W1 at *
 refine (zmd x (.slice pa x.aff.length pc) W1 HM1.out HV1.out HL.out.1 HL.out.2).mono ?_
 rintro e w2 ⟨rfl, hb2⟩
 replace c0 := zb hb2 c0
 replace c1 := zb hb2 c1
 replace c2 := zb hb2 c2
 replace c3 := zb hb2 c3
 have HP2 := zvq (HP1.out.below hb2)
 have HB2 := zvq hb2
 have HBW := zvr HB1 hb2
 clear hb2
 rcases hok : V.qp x with _ | _
 ·exact zy9
 ·have HEV : Hid (V.encV x = if V.encE (V.qi x) = 0 then (V.doc (V.qi x), 0) else ([], V.encE (V.qi x))) := zvq (by unfold V.encV; rw [if_pos hok])
  have HOK := zvq hok
  have HWD : Hid (∀ l ∈ V.qi x, ∀ u ∈ l, u.length ≤ maxLen) := zvq (fun l hm u hu => by have := (V.adv_words hok l hm).2 u hu; unfold maxLen; omega)
  have hpt := V.jh hok
  have HT : Hid (1 ≤ x.rev /\ x.rev ≤ 1099511627776 /\ 1 ≤ x.sev /\ x.sev ≤ 10) := zvq ⟨hpt.rev0, hpt.rev1, hpt.sev0, hpt.sev1⟩
  have HSN : Hid (∀ a ∈ x.aff, V.kt a = true) := zvq (fun a ha => hpt.sound ha)
  have hl16 := hpt.len
  clear hok hpt
  go_wp2_with fail
  refine wp_region_held_drew (S := (fun W' => W'.cell? ⟨w.heap.size, 0, none⟩ = some (.string ⟨x.id.toArray⟩) /\ W'.cell? ⟨w.heap.size, 1, none⟩ = some (.int .i64 x.rev) /\ W'.cell? ⟨w.heap.size, 2, none⟩ = some (.int .i64 x.sev))) (by kernel_rfl) (by (try dsimp only); exact ⟨zb (zvt _ w2).drew c0, zb (zvt _ w2).drew c1, zb (zvt _ w2).drew c2⟩) (fun hHeld => ?_)
  refine tk 0 ?_
  refine tk 1 ?_
  refine tk 2 ?_
  refine tk 3 ?_
  refine tk 5 ?_
  refine tk 6 ?_
  refine rd 4 fun K hK => ?_
  go_simp
  refine (zf5 (by have := HT.out.1; omega) (by have := HT.out.2.1; omega) _).mono ?_
  rintro e wA ⟨rfl, hbA⟩
  try dsimp only
  have hbA2 := (zvt w2.heap.size w2).drew.trans hbA
  refine hK.out _ _ ?_ (fun hHeld => nx ?_)
  ·(try dsimp only); exact ⟨zb hbA hHeld.1, zb hbA hHeld.2.1, zb hbA hHeld.2.2⟩
  clear hK K
  refine rd 7 fun K hK => ?_
  go_simp
  refine (zf5 (by have := HT.out.2.2.1; omega) (by have := HT.out.2.2.2; omega) _).mono ?_
  rintro e wB ⟨rfl, hbB⟩
  try dsimp only
  have hbB2 := hbA2.trans (hbB.mono hbA2.size)
  refine hK.out _ _ ?_ (fun hHeld => nx ?_)
  ·(try dsimp only); exact ⟨zb hbB hHeld.1, zb hbB hHeld.2.1, zb hbB hHeld.2.2⟩
  clear hK K
  refine rd 8 fun K hK => ?_
  refine zba rfl _ _ _ _ rfl V.advW x.id (Lib.decDigits x.rev.toNat) (Lib.decDigits x.sev.toNat) rfl rfl rfl rfl ?_
  refine hK.out _ _ ?_ (fun hHeld => nx ?_)
  ·exact zxy
  clear hK K
  refine rd 9 fun K hK => ?_
  have hbC : Below w2.heap.size w2 (wB.alloc (.cells (uf [V.advW, x.id, Lib.decDigits x.rev.toNat, Lib.decDigits x.sev.toNat]) 9)) := hbB2.alloc hbB2.size _
  refine za7 rfl _ rfl ⟨some ⟨wB.heap.size, 0, none⟩, 4, 4⟩ rfl ?_
  refine hK.out _ _ ?_ (fun hHeld => nx ?_)
  ·exact zxy
  clear hK K
  refine tk 10 ?_
  refine wpAnyH_done (by kernel_rfl) ?_ _
  have hu0 := zcf wB [V.advW, x.id, Lib.decDigits x.rev.toNat, Lib.decDigits x.sev.toNat]
  have hsC : (wB.alloc (.cells (uf [V.advW, x.id, Lib.decDigits x.rev.toNat, Lib.decDigits x.sev.toNat]) 9)).heap.size = wB.heap.size + 1 := by simp
  have hw2z : w.heap.size + 1 ≤ w2.heap.size := by rw [← HSZ.out]; exact HB2.out.size
  have hlr := LRow.one (N := w.heap.size + 1) (u := ⟨some ⟨wB.heap.size, 0, none⟩, 4, 4⟩) (by change _ ≤ (wB.alloc (.cells (uf [V.advW, x.id, Lib.decDigits x.rev.toNat, Lib.decDigits x.sev.toNat]) 9)).heap.size; rw [hsC]; have := hbB2.size; omega) hu0 (by simp)
  have hbD := hbC.alloc hbC.size (.cells #[(⟨some ⟨wB.heap.size, 0, none⟩, 4, 4⟩ : Lsl).v] 47)
  have hbE := HB2.out.trans (hbD.mono HB2.out.size)
  rw [HSZ.out] at hbE
  have y3 := zb hbD c3
  have HS0 : Hid (EncS (w.heap.size + 1) W1 (.slice (some ⟨wB.heap.size + 1, 0, none⟩) 1 1) (V.jt x 0) ((wB.alloc (.cells (uf [V.advW, x.id, Lib.decDigits x.rev.toNat, Lib.decDigits x.sev.toNat]) 9)).alloc (.cells #[(⟨some ⟨wB.heap.size, 0, none⟩, 4, 4⟩ : Lsl).v] 47))) := zvq ⟨⟨_, by rw [← hsC]; exact hlr⟩, hbE, by have := hbD.size; omega⟩
  change Exit.then _ _ _ _ ((wB.alloc (.cells (uf [V.advW, x.id, Lib.decDigits x.rev.toNat, Lib.decDigits x.sev.toNat]) 9)).alloc (.cells #[(⟨some ⟨wB.heap.size, 0, none⟩, 4, 4⟩ : Lsl).v] 47))
  try simp only [World.size_alloc]
  clear hu0 hlr hbE hHeld c0 c1 c2 hw2z hbA hbA2 hbB hbB2 hbC hbD c3
  generalize (wB.alloc (.cells (uf [V.advW, x.id, Lib.decDigits x.rev.toNat, Lib.decDigits x.sev.toNat]) 9)).alloc (.cells #[(⟨some ⟨wB.heap.size, 0, none⟩, 4, 4⟩ : Lsl).v] 47) = W4 at *
  clear hsC
  generalize wB.heap.size + 1 = b4 at *
  go_wp2
  go_loopw [4, 5] (fun ov iv wx => ∃ k : Nat, k ≤ x.aff.length /\ iv = .int .i64 k /\ EncS (w.heap.size + 1) W1 ov (V.jt x k) wx) (fun _ iv _ => x.aff.length - (intOf iv).toNat)
  case atStart => exact ⟨0, Nat.zero_le _, rfl, HS0.out⟩
  case round =>
   obtain ⟨k, hk, rfl, hes⟩ := hrel
   obtain ⟨us, hrow⟩ := hes.row
   obtain ⟨oa, oc, rfl⟩ := hrow.slice
   have HR := zvq hrow
   have HBR := zvq hes.below
   have hNs := hes.size
   clear hrow hes HS0 y3
   have c3r : wr.cell? ⟨w.heap.size, 3, none⟩ = some (.slice pa x.aff.length pc) := (HBR.out.cell (p := ⟨w.heap.size, 3, none⟩) (Nat.lt_succ_self _)).trans H3.out
   by_cases hlt : k < x.aff.length
   ·obtain ⟨hwf, b, off, ua, uc, rfl, hblt, ha⟩ := HV1.out.at k hlt
    have HBR1 : Hid (Below W1.heap.size W1 wr) := zvq (by rw [HSZ.out]; exact HBR.out)
    have HW := zvq hwf
    have HA := zvq (ha.below HBR1.out)
    have HST := zvq (V.zfd hlt)
    have hso := HSN.out x.aff[k] (List.getElem_mem hlt)
    have HFM : Hid (V.yc x.aff[k].rs x.aff[k].its = (V.xl x.aff[k].its, 0)) := zvq (by
      obtain ⟨_, h2, _, h4⟩ := V.yk hso
      unfold V.yc
      rw [h2, if_pos h4])
    have HLA : Hid (V.uk x.aff[k] = [V.affW, V.qb x.aff[k].sch, x.aff[k].name, V.xl x.aff[k].its]) := zvq rfl
    rw [HLA.out] at HST
    have hi1 : (0 : Int) ≤ (k : Int) := by omega
    have hi2 : (k : Int) < (x.aff.length : Int) := by omega
    have wr1 : IntKind.i64.wrap ((k : Int) + 1) = (k : Int) + 1 := IntWalk.i64_in _ (by omega)
    clear hwf ha hso HLA
    generalize x.aff[k] = a at *
    have e0 := HA.out.c0
    have e1 := HA.out.c1
    have e2 := HA.out.c2
    have e3 := HA.out.c3
    obtain ⟨hbZ, x0, x1, x2, x3⟩ := zc6 a (.slice ua a.its.length uc) wr
    have HIZ := zvq (HA.out.its.below hbZ)
    have HRZ := zvq (HR.out.later hbZ)
    have HBZ := zvq (HBR.out.trans (hbZ.mono hNs))
    have HMZ := zvq (HM1.out.below (HBR1.out.trans (hbZ.mono HBR1.out.size)))
    have hzZ := hbZ.size
    have HXB : Hid (some wr.heap.size = (Value.slice oa (V.jt x k).length oc).ownBlock -> False) := zvq (fun e => by
      have := HR.out.row.lt _ e.symm
      omega)
    clear hbZ HR HBR HBR1
    go_wp2_with fail
    generalize wr.alloc (.cells #[.int .i64 a.sch, .string ⟨a.name.toArray⟩, .int .i64 a.rs, .slice ua a.its.length uc] 34) = wz at *
    generalize wr.heap.size = X at *
    clear e0 e1 e2 e3
    refine (zoi a.rs (.slice ua a.its.length uc) a.its wz HMZ.out HIZ.out HW.out.lens HW.out.len).mono ?_
    rintro e wF ⟨rfl, hbF⟩
    rw [HFM.out]
    replace x0 := zb hbF x0
    replace x1 := zb hbF x1
    replace HRZ := zvq (HRZ.out.later hbF)
    replace HBZ := zvq (HBZ.out.trans (hbF.mono (by omega)))
    have hzF := hbF.size
    have hNz : w.heap.size + 1 ≤ wF.heap.size := by omega
    clear hbF HIZ HMZ x2 x3
    go_wp2_with fail
    refine wp_region_held_drew (S := (fun W' => W'.cell? ⟨X, 0, none⟩ = some (.int .i64 a.sch) /\ W'.cell? ⟨X, 1, none⟩ = some (.string ⟨a.name.toArray⟩))) (by kernel_rfl) (by (try dsimp only); exact ⟨zb (zvt _ wF).drew x0, zb (zvt _ wF).drew x1⟩) (fun hHeld => ?_)
    refine tk 0 ?_
    refine tk 1 ?_
    refine tk 2 ?_
    refine tk 4 ?_
    refine tk 5 ?_
    refine tk 6 ?_
    refine rd 3 fun K hK => ?_
    go_simp
    refine (zia a.sch wF.drew).mono ?_
    exact zv5
   ·obtain rfl : k = x.aff.length := by omega
    have HLN := zvq HR.out.lines
    have HSZ : Hid (w.heap.size ≤ wr.heap.size) := zvq (Nat.le_trans HB1.out.size HBR.out.size)
    go_wp2_with fail
    refine (zh7 _ (V.qi x) wr HLN.out HWD.out (V.adv_sz HOK.out)).mono ?_
    intro e w3 he
    have HBE : Hid (Below w.heap.size w w3) := zvq (HB1.out.trans ((HBR.out.trans (he.2.2.mono hNs)).mono (by omega)))
    by_cases hz : V.encE (V.qi x) = 0
    ·obtain ⟨u, rfl, hbuf⟩ := he.1 hz
     have HE2 : Hid (V.encV x = (V.doc (V.qi x), 0)) := zvq (by rw [HEV.out, if_pos hz])
     have HBF := zvq hbuf
     clear he hz hbuf
     go_wp2
     go_ret2
     exact ⟨fun _ => ⟨u, wr.heap.size, wr, rfl, by rw [HE2.out]; exact HBF.out, HSZ.out⟩, fun h => absurd (by rw [HE2.out]) h, HBE.out⟩
    ·exact zye
theorem zl1 (x : V.Adv) (v : Value) (w : World) (hm : zg w) (hp : zcx w) (hv : Affs w v x.aff) (hid : x.id.length ≤ maxLen) (hl : x.aff.length ≤ maxLen) :
  Calls Tryz.prog 10 #[advV x v] w (EncV x w) := by
 refine (ziw x v w hm hp hv hid hl).mono ?_
 intro e w' h
 refine ⟨fun hz => ?_, h.2⟩
 obtain ⟨u, N, W0, he, hb, _⟩ := h.1 hz
 exact ⟨u, N, W0, he, hb.buf⟩
open Go.RowKit
theorem zme (y : V.Bs) (w : World) (hs : y.length ≤ 1000000) : Calls Tryz.prog 70 #[.string ⟨y.toArray⟩] w fun e w' => e = .returned (.tuple #[.string ⟨(V.unwP y).1.toArray⟩, .bool (V.unwP y).2]) /\ Below w.heap.size w w' := by
 have := zjk ⟨y.toArray⟩ w (by rw [yi]; exact hs)
 rwa [kk] at this
theorem zsh (w : World) (u : Lsl) : ∀ j v, (lslE u)[j]? = some v -> (w.alloc (.cells #[u.v] 47)).cell? ⟨w.heap.size, j, none⟩ = some v := fun j v h => by
 rw [World.cell?_alloc_new]
 simpa [lslE] using h
theorem zyu {P : Prop} (h : P := by
 go_enter Tryz.func43, Tryz.ntmps43
 go_wp2
 go_ret2
 exact xq.err HP.out (zvt _ _)) : P := h
theorem zkl (v : Value) (bs : V.Bs) (w : World) (hm : zg w) (hv : zae w v bs) (hl : bs.length ≤ maxLen) :
  Calls Tryz.prog 43 #[v] w (xq bs w) := by
 obtain ⟨va, vc, rfl, hcap, hat⟩ := hv
 have HM := zvq hm
 unfold maxLen at hl
 clear hm
 by_cases hbig : 262144 < bs.length
 ·have HP : Hid (V.decP bs = ([], 3)) := zvq (by unfold V.decP; rw [if_pos hbig])
  have hn : (262144 : Int) < (bs.length : Int) := by omega
  clear hat
  exact zyu
 have hn : ¬ (262144 : Int) < (bs.length : Int) := by omega
 by_cases h0 : bs.length = 0
 ·have HP : Hid (V.decP bs = ([], 0)) := zvq (by rw [List.length_eq_zero_iff.1 h0]; exact V.zfm)
  have hz : ((bs.length : Int) == 0) = true := by rw [h0]; rfl
  clear hat
  exact zyu
 have hz : ((bs.length : Int) == 0) = false := by rw [zvu]; omega
 have hne : bs ≠ [] := fun e => h0 (by rw [e]; rfl)
 obtain ⟨b, c, hbc⟩ : ∃ b c, bs = b ++ [c] := ⟨bs.dropLast, bs.getLast hne, (List.dropLast_concat_getLast hne).symm⟩
 have hlen : bs.length = b.length + 1 := by rw [hbc]; simp
 obtain ⟨g, off, rfl, hg, hcm0⟩ := hat b.length (by omega)
 have hcm : w.cell? ⟨g, off + b.length, none⟩ = some (.int .u8 c.toNat) := by
  rw [hcm0]
  simp [hbc]
 have HAT : Hid (∀ j (h : j < b.length), w.cell? ⟨g, off + j, none⟩ = some (.int .u8 (b[j]).toNat)) := zvq (fun j h => by
   obtain ⟨g2, off2, e, _, hc⟩ := hat j (by omega)
   cases e
   rw [hc]
   simp [hbc, List.getElem_append_left h])
 obtain ⟨m, hmb⟩ : ∃ m, m = b.length := ⟨_, rfl⟩
 obtain ⟨n, hnb⟩ : ∃ n, n = bs.length := ⟨_, rfl⟩
 rw [← hmb] at hcm
 rw [← hnb] at hn hz hcap ⊢
 have hq : IntKind.i64.wrap ((n : Int) - 1) = (m : Int) := by unfold IntKind.wrap; simp [IntKind.signed, IntKind.bits]; omega
 have hi1 : (0 : Int) ≤ (m : Int) := by omega
 have hi2 : (m : Int) < (n : Int) := by omega
 have hi3 : (m : Int) ≤ (vc : Int) := by omega
 have hmn : m ≤ 262143 := by omega
 have hmv : m ≤ vc := by omega
 clear hcm0 hat
 by_cases hc10 : c = 10
 ·subst hc10
  have hcv := zfr w g off m vc b hmb.symm HAT.out
  have HDP : Hid (V.decP bs = match V.kz (V.zd 10 b) with | none => ([], 2) | some ls => if V.encE ls = 0 then (ls, 0) else ([], 2)) := zvq (by
    rw [hbc]
    exact V.decP_ref (by rw [← hbc]; omega))
  have HMB := zvq hmb
  clear hmb hnb hlen hne h0 hbig HAT hl hcap hbc
  go_enter Tryz.func43, Tryz.ntmps43
  go_wp2_with fail
  refine (zku 10 b w HM.out (by have := HMB.out; omega)).mono ?_
  rintro e w1 ⟨rfl, hw1⟩
  have hb1 : Below w.heap.size w w1 := by rw [hw1]; exact (zvt _ w).alloc (zvs _) _
  have hs1 : Strs w1 (.slice (some ⟨w.heap.size, 0, none⟩) (V.zd 10 b).length (V.zd 10 b).length) (V.zd 10 b) := by rw [hw1]; exact zcf w _
  have HB1 := zvq hb1
  have HS1 := zvq hs1
  have HRM : Hid (∀ x ∈ V.zd 10 b, x.length ≤ 262143) := zvq (fun x hx => by
    have := V.zda 10 hx
    have := HMB.out
    omega)
  have HRL : Hid ((V.zd 10 b).length ≤ 262144) := zvq (by have := V.zfu 10 b; have := HMB.out; omega)
  have HDZ : Hid (∀ ls, V.kz (V.zd 10 b) = some ls -> V.jl ls ls.length ≤ 9000000) := zvq (fun ls h => by
    rw [V.doc_sz h]
    have := HMB.out
    omega)
  clear hb1 hs1 hw1 hcv hcm HMB hq hi1 hi2 hi3 hmn hmv hn hz
  generalize V.zd 10 b = R at *
  generalize w.heap.size = g1 at HS1 ⊢
  have hrl := HRL.out
  go_wp2
  go_loopw [5, 6] (fun ov iv wx => ∃ (k : Nat) (us : List Lsl) (ls : List (List V.Bs)), k ≤ R.length /\ iv = .int .i64 k /\ LRow w1.heap.size wx ov us ls /\ V.kz R = (V.kz (R.drop k)).map (ls ++ ·) /\ Below w1.heap.size w1 wx /\ ls.length = k) (fun _ iv _ => R.length - (intOf iv).toNat)
  case atStart => exact ⟨0, [], [], Nat.zero_le _, rfl, LRow.nil _ _, by simp, zvt _ _, rfl⟩
  case round =>
   obtain ⟨k, us, ls, hk, rfl, hrow, hpr, hbr, hlk⟩ := hrel
   obtain ⟨oa, oc, rfl⟩ := hrow.slice
   have HR := zvq hrow
   have HPR := zvq hpr
   have HBR := zvq hbr
   have HLK := zvq hlk
   clear hrow hpr hbr hlk
   have hzr := HBR.out.size
   by_cases hlt : k < R.length
   ·have HRA := zvq (V.rows_at HPR.out hlt)
    have hxl := HRM.out _ (List.getElem_mem hlt)
    obtain ⟨ga, gc, ge, gat⟩ := HS1.out
    cases ge
    obtain ⟨b1, off1, e1, hlt1, hc1⟩ := gat k hlt
    cases e1
    have hc := (HBR.out.cell (p := ⟨g1, 0 + k, none⟩) hlt1).trans hc1
    rw [Nat.zero_add] at hc
    have hj1 : (0 : Int) ≤ (k : Int) := by omega
    have hj2 : (k : Int) < (R.length : Int) := by omega
    generalize R[k] = x at *
    clear hc1 gat
    go_wp2_with fail
    refine (zku 32 x wr (HM.out.below (HB1.out.trans (HBR.out.mono HB1.out.size))) (by omega)).mono ?_
    rintro e w2 ⟨rfl, hw2⟩
    have hb2 : Below wr.heap.size wr w2 := by rw [hw2]; exact (zvt _ wr).alloc (zvs _) _
    have hs2 : Strs w2 (.slice (some ⟨wr.heap.size, 0, none⟩) (V.zd 32 x).length (V.zd 32 x).length) (V.zd 32 x) := by rw [hw2]; exact zcf wr _
    have HS2 := zvq hs2
    have HR2 := zvq (HR.out.later hb2)
    have HB2 := zvq (HBR.out.trans (hb2.mono hzr))
    have HPM : Hid (∀ y ∈ V.zd 32 x, y.length ≤ 262143) := zvq (fun y hy => by
      have := V.zda 32 hy
      omega)
    have HPL : Hid ((V.zd 32 x).length ≤ 262144) := zvq (by have := V.zfu 32 x; omega)
    have hz2 : wr.heap.size < w2.heap.size := by rw [hw2]; simp
    have hvl : ∀ q, (Value.slice oa ls.length oc).ownBlock = some q -> q < wr.heap.size := HR.out.row.lt
    have HVL := zvq hvl
    have HZ2 := zvq hz2
    clear hb2 hs2 hw2 hc hvl hz2
    generalize V.zd 32 x = P at *
    have HBR2 := HBR
    clear HR HBR
    generalize wr.heap.size = g2 at *
    have hpl := HPL.out
    go_wp2
    go_loopw [8, 9] (fun ov jv wx => ∃ (j : Nat) (l : List V.Bs), j ≤ P.length /\ jv = .int .i64 j /\ GRow 9 1 wrdE wx w2.heap.size ov l /\ V.qg P = (V.qg (P.drop j)).map (l ++ ·) /\ Below w2.heap.size w2 wx /\ l.length = j) (fun _ jv _ => P.length - (intOf jv).toNat)
    case atStart => exact ⟨0, [], Nat.zero_le _, rfl, GRow.nil _ _, by simp, zvt _ _, rfl⟩
    case round =>
     obtain ⟨j, l, hj, rfl, hrw, hpw, hbw, hlj⟩ := hrel
     obtain ⟨oa2, oc2, rfl⟩ := GRow.slice hrw
     have HW := zvq hrw
     have HPW := zvq hpw
     have HBW := zvq hbw
     have HLJ := zvq hlj
     clear hrw hpw hbw hlj
     have hzw := HBW.out.size
     by_cases hjl : j < P.length
     ·have HWA := zvq (V.words_at HPW.out hjl)
      have hyl := HPM.out _ (List.getElem_mem hjl)
      obtain ⟨ga2, gc2, ge2, gat2⟩ := HS2.out
      cases ge2
      obtain ⟨b3, off3, e3, hlt3, hc3⟩ := gat2 j hjl
      cases e3
      have hc4 := (HBW.out.cell (p := ⟨g2, 0 + j, none⟩) hlt3).trans hc3
      rw [Nat.zero_add] at hc4
      have hq1 : (0 : Int) ≤ (j : Int) := by omega
      have hq2 : (j : Int) < (P.length : Int) := by omega
      generalize P[j] = y at *
      clear hc3 gat2
      go_wp2_with fail
      refine (zme y wr (by omega)).mono ?_
      rintro e w4 ⟨rfl, hb4⟩
      have HB4 := zvq (HBW.out.trans (hb4.mono hzw))
      have HW4 := zvq (GRow.below HW.out hb4)
      clear hb4 HW HBW hc4
      rcases V.zfk y with hu | ⟨wd, hu, _⟩
      ·have HP : Hid (V.decP bs = ([], 2)) := zvq (by rw [HDP.out, HRA.out.1 (HWA.out.1 hu)])
       have HBE := zvq (HB1.out.trans ((HB2.out.trans (HB4.out.mono HB2.out.size)).mono HB1.out.size))
       rw [hu]
       clear hu
       go_wp2
       go_ret2
       exact xq.err HP.out HBE.out
      ·have HNX := zvq (HWA.out.2 wd hu)
       rw [hu]
       clear hu HWA
       have hzw4 := HB4.out.size
       have hb5 : Below w4.heap.size w4 (w4.alloc (.cells #[.string ⟨wd.toArray⟩] 9)) := (zvt _ w4).alloc (zvs _) _
       have HW5 := zvq (GRow.below HW4.out hb5)
       have HB5 := zvq (HB4.out.trans (hb5.mono hzw4))
       have HNW : Hid (∀ i u, (wrdE wd)[i]? = some u -> (w4.alloc (.cells #[.string ⟨wd.toArray⟩] 9)).cell? ⟨w4.heap.size, i, none⟩ = some u) := zvq (fun i u hu => by
         rw [World.cell?_alloc_new]
         simpa [wrdE] using hu)
       have hz5 := hb5.size
       clear hb5 HW4 HB4
       go_wp2_with (first | (refine zjx zrk (by decide) zrb zub (by decide) rfl _ _ 47 rfl Tryz.underlying47 w2.heap.size (.slice oa2 l.length oc2) l rfl HW5.out w4.heap.size wd rfl HNW.out (by have := HLJ.out; omega) (by omega) ?_; intro v9 w9 hr9 hg9 ho9) | fail)
       have HW9 := zvq hr9
       have HB9 := zvq (HB5.out.trans (zp hg9 HW5.out.block (zvs _) (by omega)))
       have hl9 : (l ++ [wd]).length = j + 1 := by have := HLJ.out; simp; omega
       have HL9 := zvq hl9
       clear hr9 hg9 ho9 HNW HW5 HB5 hl9
       go_wp2
       go_roundw
       case rel => exact ⟨j + 1, l ++ [wd], by omega, by go_num, HW9.out, HNX.out, HB9.out, HL9.out⟩
       case measure => simp [intOf]; omega
     ·obtain rfl : j = P.length := by omega
      have HWP : Hid (V.qg P = some l) := zvq (by rw [HPW.out, List.drop_length]; simp [V.qg])
      have HNX := zvq (HRA.out.2 l HWP.out)
      have HU := zvq (zrf HW.out)
      have HRW := zvq (HR2.out.later HBW.out)
      have hBb : ∀ q, (Value.slice oa2 l.length oc2).ownBlock = some q -> w2.heap.size ≤ q := HW.out.block
      have HBB := zvq hBb
      have HBX := zvq (HB2.out.trans (HBW.out.mono HB2.out.size))
      have hb5 : Below wr.heap.size wr (wr.alloc (.cells #[(⟨oa2, l.length, oc2⟩ : Lsl).v] 47)) := (zvt _ wr).alloc (zvs _) _
      have HRW5 := zvq (HRW.out.later hb5)
      have HU5 := zvq (kp HU.out hb5)
      have HB5 := zvr HBX hb5
      have HCL := zvq (zsh wr ⟨oa2, l.length, oc2⟩)
      have hz5 := hb5.size
      have hzx := HBX.out.size
      have hrl2 := HRL.out
      have hN1 : w1.heap.size ≤ (wr.alloc (.cells #[(⟨oa2, l.length, oc2⟩ : Lsl).v] 47)).heap.size := by omega
      have hul : us.length ≤ 1000000 := by rw [HRW5.out.len, HLK.out]; omega
      clear hBb hb5 HW HPW HRW HU HBX
      go_wp2_with (first | (refine zjx zal (by decide) zbv zat (by decide) rfl _ _ 50 rfl Tryz.underlying50 w1.heap.size (.slice oa ls.length oc) us rfl HRW5.out.row wr.heap.size ⟨oa2, l.length, oc2⟩ rfl HCL.out hul hN1 ?_; intro v9 w9 hr9 hg9 ho9) | fail)
      have HN9 := zvq (HRW5.out.add hr9 hg9 ho9 HU5.out (fun _ q hq e => by
        have h1 := HBB.out q hq
        have h2 := HVL.out q e
        have h3 := HZ2.out
        omega))
      have HB9 := zvq (HB5.out.trans (zp hg9 HRW5.out.row.block (zvs _) hN1))
      have hl9 : (ls ++ [l]).length = k + 1 := by have := HLK.out; simp; omega
      have HL9 := zvq hl9
      clear hr9 hg9 ho9 HCL HRW5 HB5 HU5 hl9
      go_wp2
      go_roundw
      case rel => exact ⟨k + 1, _, ls ++ [l], by omega, by go_num, HN9.out, HNX.out, HB9.out, HL9.out⟩
      case measure => simp [intOf]; omega
   ·obtain rfl : k = R.length := by omega
    have HRP : Hid (V.kz R = some ls) := zvq (by rw [HPR.out, List.drop_length]; simp [V.kz])
    have HLN := zvq HR.out.lines
    have HCP := zvq HR.out.cap
    have HMX : Hid (∀ l ∈ ls, ∀ x ∈ l, x.length ≤ maxLen) := zvq (fun l hl x hx => by
      have := V.zqw HRP.out HRM.out l hl x hx
      unfold maxLen
      omega)
    have HDP2 : Hid (V.decP bs = if V.encE ls = 0 then (ls, 0) else ([], 2)) := zvq (by rw [HDP.out, HRP.out])
    go_wp2_with fail
    refine (zh3 _ ls wr HLN.out HMX.out (HDZ.out ls HRP.out)).mono ?_
    intro e w3 he
    have HBE := zvq (HB1.out.trans ((HBR.out.trans (he.2.2.mono hzr)).mono HB1.out.size))
    by_cases hz : V.encE ls = 0
    ·obtain ⟨u, rfl, _⟩ := he.1 hz
     have HP : Hid (V.decP bs = (ls, 0)) := zvq (by rw [HDP2.out, if_pos hz])
     have HL3 := zvq (HLN.out.below he.2.2)
     clear he hz
     go_wp2
     go_ret2
     exact ⟨_, by rw [HP.out]; rfl, by rw [HP.out]; exact HL3.out, HCP.out, HBE.out⟩
    ·have hq := he.2.1 hz
     subst hq
     have HP : Hid (V.decP bs = ([], 2)) := zvq (by rw [HDP2.out, if_neg hz])
     have hzb : (V.encE ls == 0) = false := by rw [zvu]; exact hz
     clear he
     generalize V.encE ls = ee at *
     go_wp2
     go_ret2
     exact xq.err HP.out HBE.out
 ·have HP : Hid (V.decP bs = ([], 2)) := zvq (V.zuj hne (by rw [hbc]; simpa using hc10) (by omega))
  have hqc : ((c.toNat : Int) == 10) = false := by
   rw [zvu]
   intro e
   exact hc10 (by apply UInt8.toNat_inj.1; have : c.toNat = 10 := by omega
                  rw [this]; rfl)
  clear hmb hnb hlen hne h0 hbig HAT hl hcap hbc
  exact zyu
end Go.Proofs.YtiloljoancdcbaaGreatDoor
