/-
  Lemmas for the law.
-/
import Derived.Test.YtiloljoancdcbaaGreatDoorC40x23
import Derived.Test.YtiloljoancdcbaaGreatDoorC40x24
import Derived.Test.YtiloljoancdcbaaGreatDoorC40x42
import Derived.Test.YtiloljoancdcbaaGreatDoorC40x16
import Derived.Test.YtiloljoancdcbaaGreatDoorC40x22
import Derived.Test.YtiloljoancdcbaaGreatDoorC40x37
import Derived.Test.YtiloljoancdcbaaGreatDoorC40x20
set_option linter.all false
set_option maxRecDepth 100000
set_option maxHeartbeats 6400000
namespace Go.Proofs.YtiloljoancdcbaaGreatDoor
open Go.RowKit
namespace V
def zib (n : Int) (s : Bs) (a : Aff) : Bool := decide (a.sch = n) && decide (a.name = s)
def covP (x : Adv) (n : Int) (s v : Bs) : Bool := match x.aff.find? (zib n s) with
 | none => false
 | some a => ko a.rs a.its v && qp x
theorem ztw {p : Aff -> Bool} : ∀ {l : List Aff} {k : Nat} (hk : k < l.length), (∀ j (h : j < l.length), j < k -> p l[j] = false) -> p l[k] = true -> l.find? p = some l[k]
 | a :: l, 0, _, _, h => by simp at h; simp [h]
 | a :: l, k + 1, hk, hn, h => by
  have h0 := hn 0 (by simp) (by omega)
  simp only [List.getElem_cons_zero] at h0
  rw [List.find?_cons_of_neg (by rw [h0]; simp)]
  simp only [List.getElem_cons_succ] at h ⊢
  exact ztw (by simpa using hk) (fun j hj hjk => by have := hn (j + 1) (by simpa using hj) (by omega); simpa using this) h
theorem find_no {p : Aff -> Bool} {l : List Aff} (h : ∀ j (hj : j < l.length), p l[j] = false) : l.find? p = none := by
 rw [List.find?_eq_none]
 intro a ha
 obtain ⟨j, hj, rfl⟩ := List.mem_iff_getElem.1 ha
 rw [h j hj]; simp
end V
theorem z03 {P : Prop} (h : P := by
 go_wp2
 go_roundw
 case rel => exact ⟨k + 1, by omega, by go_num, HNY.out, HB2.out⟩
 case measure => simp [intOf]; omega) : P := h
theorem zl7 (x : V.Adv) (v : Value) (n : Int) (s ver : V.Bs) (w : World) (hm : zg w) (hv : Affs w v x.aff) (hid : x.id.length ≤ maxLen) (hl : x.aff.length ≤ maxLen) (hs : ver.length ≤ maxLen) :
  Calls Tryz.prog 39 #[advV x v, .int .i64 n, .string ⟨s.toArray⟩, .string ⟨ver.toArray⟩] w fun e w' => e = .returned (.bool (V.covP x n s ver)) /\ Below w.heap.size w w' := by
 obtain ⟨pa, pc, rfl⟩ := hv.slice
 obtain ⟨hb, c0, c1, c2, c3⟩ := zbb x (.slice pa x.aff.length pc) w
 have HM := zvq (hm.below hb)
 have HV := zvq (hv.below hb)
 have HB := zvq hb
 have HI := zvq (And.intro hid (And.intro hl hs))
 unfold maxLen at hl
 clear hm hv hid hb hs
 unfold advV
 go_enter Tryz.func39, Tryz.ntmps39
 go_wp2_with fail
 generalize w.alloc (.cells #[.string ⟨x.id.toArray⟩, .int .i64 x.rev, .int .i64 x.sev, .slice pa x.aff.length pc] 25) = w0 at *
 go_loopw [14] (fun iv W => ∃ k : Nat, k ≤ x.aff.length /\ iv = .int .i64 k /\ (∀ j (h : j < x.aff.length), j < k -> V.zib n s x.aff[j] = false) /\ Below w0.heap.size w0 W) (fun iv _ => x.aff.length - (intOf iv).toNat)
 case atStart => exact ⟨0, Nat.zero_le _, rfl, (fun j _ h => absurd h (Nat.not_lt_zero _)), zvt _ _⟩
 case round =>
  obtain ⟨k, hk, rfl, hno, hbr⟩ := hrel
  have HNO := zvq hno
  have HBR := zvq hbr
  clear hno hbr
  by_cases hlt : k < x.aff.length
  ·obtain ⟨hwf, b, off, ua, uc, rfl, hblt, ha⟩ := HV.out.at k hlt
   have HVR := zvq (HV.out.below HBR.out)
   have HW := zvq hwf
   have HA := zvq (ha.below HBR.out)
   have HAT := zvq (V.ztw (p := V.zib n s) hlt HNO.out)
   have HNX : Hid (V.zib n s x.aff[k] = false -> ∀ j (h : j < x.aff.length), j < k + 1 -> V.zib n s x.aff[j] = false) := zvq (fun hf j h hj => by
     by_cases e : j = k
     · subst e; exact hf
     · exact HNO.out j h (by omega))
   generalize x.aff[k] = a at *
   have HPK : Hid (V.zib n s a = (decide (a.sch = n) && decide (a.name = s))) := zvq rfl
   have e0 := HA.out.c0
   have e1 := HA.out.c1
   have e2 := HA.out.c2
   have e3 := HA.out.c3
   have i1 : (0 : Int) ≤ (k : Int) := by omega
   have i2 : (k : Int) < (x.aff.length : Int) := by omega
   have wr1 : IntKind.i64.wrap ((k : Int) + 1) = (k : Int) + 1 := IntWalk.i64_in _ (by omega)
   obtain ⟨hb2, d0, d1, d2, d3⟩ := zc6 a (.slice ua a.its.length uc) wr
   have HIT := zvq (HA.out.its.below hb2)
   have HB2 := zvr HBR hb2
   have HM2 := zvq (HM.out.below HB2.out)
   have HV2 := zvq (HVR.out.below hb2)
   have b0 := zb HB2.out c0
   have b1 := zb HB2.out c1
   have b2 := zb HB2.out c2
   have b3 := zb HB2.out c3
   clear hb2 hwf ha HA HVR
   by_cases hp : V.zib n s a = true
   ·have HFI : Hid (V.covP x n s ver = (V.ko a.rs a.its ver && V.qp x)) := zvq (by unfold V.covP; rw [HAT.out hp])
    rw [HPK.out, Bool.and_eq_true, decide_eq_true_eq, decide_eq_true_eq] at hp
    have q1 : (a.sch == n) = true := by simpa using hp.1
    have q2 : (a.name == s) = true := by simpa using hp.2
    have q3 := hp.1
    have q4 := hp.2
    clear hp HNX HAT HPK
    subst q3
    subst q4
    go_wp2_with fail
    generalize wr.alloc (.cells #[.int .i64 a.sch, .string ⟨a.name.toArray⟩, .int .i64 a.rs, .slice ua a.its.length uc] 34) = w2 at *
    refine (zka a.rs (.slice ua a.its.length uc) a.its ver w2 HM2.out HIT.out HW.out.lens HW.out.len HI.out.2.2).mono ?_
    rintro e w3 ⟨rfl, hb3⟩
    have HB3 := zvr HB2 hb3
    have HM3 := zvq (HM2.out.below hb3)
    have HV3 := zvq (HV2.out.below hb3)
    replace b0 := zb hb3 b0
    replace b1 := zb hb3 b1
    replace b2 := zb hb3 b2
    replace b3 := zb hb3 b3
    clear hb3
    rcases hcl : V.ko a.rs a.its ver with _ | _
    ·have HR : Hid (V.covP x a.sch a.name ver = false) := zvq (by rw [HFI.out, hcl]; rfl)
     clear hcl
     go_wp2
     go_ret
     exact ⟨zc HR.out.symm, HB.out.trans (HB3.out.mono HB.out.size)⟩
    ·have HR : Hid (V.covP x a.sch a.name ver = V.qp x) := zvq (by rw [HFI.out, hcl]; rfl)
     clear hcl
     go_wp2_with fail
     refine (zc4 x (.slice (some ⟨b, off, none⟩) x.aff.length pc) w3 HM3.out HV3.out HI.out.1 HI.out.2.1).mono ?_
     rintro e w4 ⟨rfl, hb4⟩
     have HB4 := zvr HB3 hb4
     clear hb4
     go_wp2
     go_ret
     exact ⟨zc HR.out.symm, HB.out.trans (HB4.out.mono HB.out.size)⟩
   ·have hpf : V.zib n s a = false := by simpa using hp
    have HNY := zvq (HNX.out hpf)
    have hcase : (a.sch == n) = false /\ ¬ a.sch = n ∨ (a.sch == n) = true /\ a.sch = n /\ (a.name == s) = false /\ ¬ a.name = s := by
     rw [HPK.out, Bool.and_eq_false_iff, decide_eq_false_iff_not, decide_eq_false_iff_not] at hpf
     by_cases h1 : a.sch = n
     ·rcases hpf with h | h
      ·exact absurd h1 h
      ·exact .inr ⟨by simpa using h1, h1, by rw [zvu]; exact h, h⟩
     ·exact .inl ⟨by rw [zvu]; exact h1, h1⟩
    clear hp hpf HNX HAT HPK
    rcases hcase with ⟨q1, q2⟩ | ⟨q1, q2, q3, q4⟩
    ·exact z03
    ·subst q2
     exact z03
  ·obtain rfl : k = x.aff.length := by omega
   have HR : Hid (V.covP x n s ver = false) := zvq (by unfold V.covP; rw [V.find_no (fun j hj => HNO.out j hj hj)])
   go_wp2
   go_ret
   exact ⟨zc HR.out.symm, HB.out.trans (HBR.out.mono HB.out.size)⟩
open Go.RowKit
theorem Buf.bytesInA {N : Nat} {v : Value} {l : V.Bs} {W0 w : World} (h : Buf N v l W0 w) : zae w v l := by
 rcases h.1.2 with ⟨rfl, hn⟩ | ⟨g, cap, cur, fz, rfl, hb, hg, hnc, hm, hsz, hq, htk⟩
 ·have := List.eq_nil_of_length_eq_zero hn
  subst this
  exact ⟨none, 0, rfl, zvs _, fun j hj => by simp at hj⟩
 ·refine ⟨_, _, rfl, hm, fun j hj => ⟨g, 0, rfl, (Array.getElem?_eq_some_iff.1 hg).1, ?_⟩⟩
  rw [Nat.zero_add]
  have hc : w.cell? ⟨g, j, none⟩ = cur[j]? := by
   unfold World.cell?
   rw [hg]
   rfl
  have h1 : (bvals l)[j]? = some (.int .u8 (l[j]).toNat) := by simp [bvals, hj]
  rw [← htk, List.getElem?_take] at h1
  split at h1
  ·rw [hc]; simpa using h1
  ·cases h1
theorem V.doc_lenA {ls : List (List V.Bs)} (h : V.DocOk ls) : (V.doc ls).length ≤ 262144 := by
 rw [← V.ze0, V.zeq (fun l hl => (h.line l hl).1) _ (zvs _)]; exact h.size
theorem V.encV_len {x : V.Adv} (h : (V.encV x).2 = 0) : (V.encV x).1.length ≤ 262144 := by
 obtain ⟨_, h2, h3⟩ := V.zi7 h
 rw [h3]
 exact V.doc_lenA (V.zen h2)
namespace V
def smpI : Itv := ⟨[51, 46, 48], 1, [51, 46, 48, 46, 55], 2⟩
def smpA : Aff := ⟨2, [111, 112, 101, 110, 115, 115, 108], 2, [smpI]⟩
def smp : Adv := ⟨[99, 118, 101, 45, 49], 2, 7, [smpA]⟩
theorem zjj : MadeV smp := ⟨by kernel_rfl, by decide, by decide, by decide, by decide, by decide, by decide, (fun a ha => by
  rw [List.mem_singleton.1 ha]; kernel_rfl), List.pairwise_singleton _ _⟩
theorem smp_cov : covP smp 2 [111, 112, 101, 110, 115, 115, 108] [51, 46, 48, 46, 54] = true := by kernel_rfl
end V
theorem smp_wf : AffWf V.smpA := ⟨by decide, zaf (V.zca (V.yk (V.zjj.snd V.smpA (List.mem_singleton.2 rfl))).2.2.2), by decide⟩
theorem zr1 (w : World) : Calls Tryz.prog 38 #[] w fun e w' => ∃ u, e = .returned (advV V.smp u) /\ Affs w' u V.smp.aff /\ Below w.heap.size w w' := by
 obtain ⟨w0, hw0⟩ : ∃ w0, w0 = w.alloc (.cells #[.string ⟨#[]⟩, .int .i64 0, .int .i64 0, .slice none 0 0] 25) := ⟨_, rfl⟩
 obtain ⟨w1, hw1⟩ : ∃ w1, w1 = w0.alloc (.cells #[.string ⟨#[51, 46, 48]⟩, .int .i64 1, .string ⟨#[51, 46, 48, 46, 55]⟩, .int .i64 2] 87) := ⟨_, rfl⟩
 obtain ⟨w2, hw2⟩ : ∃ w2, w2 = w1.alloc (.cells #[.int .i64 2, .string ⟨#[111, 112, 101, 110, 115, 115, 108]⟩, .int .i64 2, .slice (some ⟨w.heap.size + 1, 0, none⟩) 1 1] 34) := ⟨_, rfl⟩
 obtain ⟨w3, hw3⟩ : ∃ w3, w3 = w2.setRow w.heap.size #[.string ⟨#[99, 118, 101, 45, 49]⟩, .int .i64 2, .int .i64 7, .slice (some ⟨w.heap.size + 2, 0, none⟩) 1 1] := ⟨_, rfl⟩
 have hz0 : w0.heap.size = w.heap.size + 1 := by rw [hw0]; simp
 have hz1 : w1.heap.size = w.heap.size + 2 := by rw [hw1]; simp [hz0]
 have hz2 : w2.heap.size = w.heap.size + 3 := by rw [hw2]; simp [hz1]
 have hb0 : Below w.heap.size w w0 := by rw [hw0]; exact (zvt _ w).alloc (zvs _) _
 have hb1 : Below w0.heap.size w0 w1 := by rw [hw1]; exact (zvt _ w0).alloc (zvs _) _
 have hb2 : Below w1.heap.size w1 w2 := by rw [hw2]; exact (zvt _ w1).alloc (zvs _) _
 have hk0 : w2.heap[w.heap.size]? = some (.cells #[.string ⟨#[]⟩, .int .i64 0, .int .i64 0, .slice none 0 0] 25 (0, 0)) := (hb2.block _ (by omega)).trans ((hb1.block _ (by omega)).trans (by rw [hw0]; exact heap_alloc_new w _))
 have hbz := (hb0.trans (hb1.mono hb0.size)).trans (hb2.mono (by omega))
 have hz3 : w3.heap.size = w.heap.size + 3 := by rw [hw3]; simpa using hz2
 have hq1 : w3.heap[w.heap.size + 1]? = some (.cells #[.string ⟨#[51, 46, 48]⟩, .int .i64 1, .string ⟨#[51, 46, 48, 46, 55]⟩, .int .i64 2] 87 (0, 0)) := by
  rw [hw3, setRow_other w2 _ _ _ (by omega), hb2.block _ (by omega), hw1, ← hz0]
  exact heap_alloc_new w0 _
 have hq2 : w3.heap[w.heap.size + 2]? = some (.cells #[.int .i64 2, .string ⟨#[111, 112, 101, 110, 115, 115, 108]⟩, .int .i64 2, .slice (some ⟨w.heap.size + 1, 0, none⟩) 1 1] 34 (0, 0)) := by
  rw [hw3, setRow_other w2 _ _ _ (by omega), hw2, ← hz1]
  exact heap_alloc_new w1 _
 have hi : Itvs w3 (.slice (some ⟨w.heap.size + 1, 0, none⟩) 1 1) [V.smpI] := ⟨_, _, rfl, fun j hj => by
   obtain rfl : j = 0 := by simpa using hj
   exact ⟨w.heap.size + 1, 0, rfl, by omega, zau hq1⟩⟩
 have ha : Affs w3 (.slice (some ⟨w.heap.size + 2, 0, none⟩) 1 1) V.smp.aff := ⟨_, _, rfl, fun j hj => by
   obtain rfl : j = 0 := by simpa [V.smp] using hj
   obtain ⟨c0, c1, c2, c3⟩ := zau hq2
   exact ⟨smp_wf, w.heap.size + 2, 0, _, _, rfl, by omega, c0, c1, c2, c3, hi⟩⟩
 rw [hw3, hw2, hw1, hw0] at ha
 rw [hw2, hw1, hw0] at hbz hk0
 have HA := zvq ha
 have HK0 := zvq hk0
 have HBZ := zvq hbz
 clear hb0 hb1 hb2 hi ha hk0 hbz hz1 hz2 hz3 hq1 hq2 hw0 hw1 hw2 hw3 hz0
 go_enter Tryz.func38, Tryz.ntmps38
 go_wp2_with (first | (refine qr rfl qa _ _ rfl w.heap.size #[.string ⟨#[]⟩, .int .i64 0, .int .i64 0, .slice none 0 0] 25 HK0.out rfl (.string ⟨#[99, 118, 101, 45, 49]⟩) (.int .i64 2) (.int .i64 7) (.slice (some ⟨w.heap.size + 2, 0, none⟩) 1 1) ⟨rfl, rfl, rfl, rfl⟩ rfl rfl ?_) | fail)
 refine bodyPost_ret (v := advV V.smp (.slice (some ⟨w.heap.size + 2, 0, none⟩) 1 1)) (zrd Tryz.results38 rfl (zdg Tryz.underlying25 qa (setRow_heap _ _ _ _ _ _ HK0.out))) rfl ?_
 exact ⟨_, rfl, HA.out, qu HBZ.out _ _ (zvs _) (Array.getElem?_eq_some_iff.1 HK0.out).1⟩
theorem zdm (w : World) (hm : zg w) (hp : zcx w) : Calls Tryz.prog 13 #[] w fun e w' => e = .returned (.bool true) /\ Below w.heap.size w w' := by
 have HM := zvq hm
 have HP := zvq hp
 have HE : Hid ((V.encV V.smp).2 = 0) := zvq (by rw [V.zjj.encV])
 have HL : Hid (V.smp.id.length ≤ maxLen /\ V.smp.aff.length ≤ maxLen) := zvq (by decide)
 have HDE := zvq (V.decV_enc HE.out)
 have HLN := zvq (V.encV_len HE.out)
 have HOK := zvq V.zjj.ok
 have HCV := zvq V.smp_cov
 have HSV : Hid (V.smp.sev = 7) := zvq rfl
 have HS : Hid (∀ w, Calls Tryz.prog 38 #[] w fun e w' => ∃ u, e = .returned (advV V.smp u) /\ Affs w' u V.smp.aff /\ Below w.heap.size w w') := zvq zr1
 clear hm hp
 generalize V.smp = x at *
 go_enter Tryz.func13, Tryz.ntmps13
 go_wp2_with fail
 refine (HS.out w).mono ?_
 rintro e w1 ⟨u1, rfl, hu1, hb1⟩
 have HU1 := zvq hu1
 have HB1 := zvq hb1
 clear hu1 hb1
 go_wp2_with fail
 refine (ze4 x u1 w1 (HM.out.below HB1.out) (HP.out.below HB1.out) HU1.out HL.out.1 HL.out.2).mono ?_
 intro e w2 he
 obtain ⟨u2, N2, W2, rfl, hbuf⟩ := he.1 HE.out
 have hb2 := he.2.2
 have HB2 := zvr HB1 hb2
 have HBI := zvq hbuf.bytesInA
 clear he hb2 HB1 HU1 hbuf
 generalize (V.encV x).1 = D at *
 obtain ⟨ua, uc, hue, hj⟩ := HBI.out
 subst hue
 clear hj
 go_wp2_with fail
 refine (ze3 (.slice ua D.length uc) D w2 (HM.out.below HB2.out) (HP.out.below HB2.out) HBI.out (by have := HLN.out; unfold maxLen; omega)).mono ?_
 rintro e w3 ⟨u3, rfl, hu3, hb3⟩
 rw [HDE.out] at hu3 ⊢
 simp only at hu3 ⊢
 obtain ⟨pa, pc, rfl⟩ := hu3.slice
 obtain ⟨hb4, c0, c1, c2, c3⟩ := zbb x (.slice pa x.aff.length pc) w3
 have HB4 := zvq (HB2.out.trans ((hb3.trans (hb4.mono hb3.size)).mono HB2.out.size))
 clear hb3 hb4 hu3 c0 c1 c3 HBI HB2
 unfold advV
 go_wp2_with fail
 generalize w3.alloc (.cells #[.string ⟨x.id.toArray⟩, .int .i64 x.rev, .int .i64 x.sev, .slice pa x.aff.length pc] 25) = w4 at *
 rw [HSV.out] at c2
 refine (HS.out w4).mono ?_
 rintro e w5 ⟨u5, rfl, hu5, hb5⟩
 replace c2 := zb hb5 c2
 have HB5 := zvr HB4 hb5
 have HU5 := zvq hu5
 clear hb5 hu5 HB4
 go_wp2_with fail
 refine (zc4 x u5 w5 (HM.out.below HB5.out) HU5.out HL.out.1 HL.out.2).mono ?_
 rintro e w6 ⟨rfl, hb6⟩
 rw [HOK.out]
 replace c2 := zb hb6 c2
 have HB6 := zvr HB5 hb6
 clear hb6 HB5 HU5
 go_wp2_with fail
 refine (HS.out w6).mono ?_
 rintro e w7 ⟨u7, rfl, hu7, hb7⟩
 have HB7 := zvr HB6 hb7
 have HU7 := zvq hu7
 clear hb7 hu7 HB6 c2
 go_wp2_with fail
 refine (zl7 x u7 2 [111, 112, 101, 110, 115, 115, 108] [51, 46, 48, 46, 54] w7 (HM.out.below HB7.out) HU7.out HL.out.1 HL.out.2 (by decide)).mono ?_
 rintro e w8 ⟨rfl, hb8⟩
 rw [HCV.out]
 have HB8 := zvr HB7 hb8
 go_wp2
 go_ret
 exact ⟨zc rfl, HB8.out⟩
open Go.RowKit
theorem zcb {α : Type} {enc : α -> List Value} {k : Nat} {T : TypeId} {ops : Array Oper} {o : Oper} {a : Act} {w : World} {K : Act -> World -> Prop} {Q : Exit -> Act -> World -> Prop} {E : Prop} (hk : ∀ x, (enc x).length = k) (hk0 : 0 < k) (h1c : ∀ x, ∀ u ∈ enc x, u.oneCell' = true) {bytes : Nat} (hi : ye T k bytes) (hby : bytes ≤ 1000) (hgd : o.guard = none) (s x : Operand) (S : TypeId)
  (ho : o.op = .call { callee := .builtin .append, args := #[s, x], argTypes := #[S, S] }) (hu : Tryz.prog.underlying S = some (.slice T))
  (N : Nat) (v : Value) (l : List α) (hs : a.eval s = v) (hown : GRow T k enc w N v l) (b : Nat) (c : α) (hx : a.eval x = .slice (some ⟨b, 0, none⟩) 1 1) (hr : ∀ j u, (enc c)[j]? = some u -> w.cell? ⟨b, j, none⟩ = some u) (hl : l.length ≤ 900000) (hN : N ≤ w.heap.size)
  (h : ∀ v' w', GRow T k enc w' N v' (l ++ [c]) -> w.grownBy w' v.ownBlock -> (v'.ownBlock = v.ownBlock ∨ v'.ownBlock = some w.heap.size) -> K (a.put o.dst v') w') : if Region.wanted o (yielded ops a.tmps) = true then Oper.wp Tryz.prog o a w K Q else E := by
 rw [if_pos (by simp [Region.wanted, hgd])]
 obtain ⟨ie, z, hie, hz, h1, h2, h3⟩ := hi
 obtain ⟨v', w', hr', ho', hg, _, hob⟩ := run_append_own_at (P := Tryz.prog) w N S o.type T ie z k bytes hu hie hz h1 h2 h3 hk0 v l.length (l.flatMap enc) hown ⟨b, 0, none⟩ 1 1 (enc c) (by rw [hk]; omega) (fun j u hj => by
   rw [Addr.add_mid, Nat.zero_add]
   exact hr j u hj) (h1c c) (by unfold maxLen; omega) (by
     have : (l.length + 1) * bytes ≤ 1000001 * 1000 := Nat.mul_le_mul (by omega) hby
     omega) hN
 unfold Oper.wp execOp
 simp only [ho, resolve, invoke, builtin, Sem.run_bind, Sem.run_pure, Result.andThen_ok, List.map_toArray, List.map_cons, List.map_nil, hs, hx, hr']
 refine h v' w' ?_ hg hob
 unfold GRow
 rw [List.length_append, List.flatMap_append]
 simpa using ho'
theorem zmd (x : V.Adv) (v : Value) (w : World) (hm : zg w) (hv : Affs w v x.aff) (hid : x.id.length ≤ maxLen) (hl : x.aff.length ≤ maxLen) :
  Calls Tryz.prog 12 #[advV x v] w fun e w' => e = .returned (.bool (V.qp x)) /\ Below w.heap.size w w' := by
 obtain ⟨pa, pc, rfl⟩ := hv.slice
 obtain ⟨hb, c0, c1, c2, c3⟩ := zbb x (.slice pa x.aff.length pc) w
 have HM := zvq (hm.below hb)
 have HV := zvq (hv.below hb)
 have HI : Hid ((⟨x.id.toArray⟩ : ByteArray).size ≤ maxLen) := zvq (by rw [yi]; exact hid)
 have HB := zvq hb
 have HBX : Hid (w.heap.size < (w.alloc (.cells #[.string ⟨x.id.toArray⟩, .int .i64 x.rev, .int .i64 x.sev, .slice pa x.aff.length pc] 25)).heap.size) := zvq (by simp)
 unfold maxLen at hl
 clear hm hv hid hb
 unfold advV
 go_enter Tryz.func12, Tryz.ntmps12
 go_wp2_with fail
 generalize w.alloc (.cells #[.string ⟨x.id.toArray⟩, .int .i64 x.rev, .int .i64 x.sev, .slice pa x.aff.length pc] 25) = w0 at *
 refine (zok ⟨x.id.toArray⟩ w0 HI.out).mono ?_
 rintro e w' ⟨rfl, hw'⟩
 obtain rfl := hw'.symm
 clear hw'
 rw [kk]
 by_cases g0 : V.xz x.id = true
 case neg =>
  exact zyx
 rw [g0]
 by_cases g1 : 1 ≤ x.rev
 case neg =>
  have HR : Hid (V.qp x = false) := zvq (by
    rcases h : V.qp x with _ | _
    · rfl
    · have hp := V.jh h
      exact absurd hp.rev0 g1)
  have f1 : x.rev < 1 := by omega
  clear g1
  exact zy5
 have f1 : ¬ x.rev < 1 := by omega
 by_cases g2 : x.rev ≤ 1099511627776
 case neg =>
  exact zy1
 have f2 : ¬ (1099511627776 : Int) < x.rev := by omega
 by_cases g3 : 1 ≤ x.sev
 case neg =>
  have HR : Hid (V.qp x = false) := zvq (by
    rcases h : V.qp x with _ | _
    · rfl
    · have hp := V.jh h
      exact absurd hp.sev0 g3)
  have f3 : x.sev < 1 := by omega
  clear g3
  exact zy5
 have f3 : ¬ x.sev < 1 := by omega
 by_cases g4 : x.sev ≤ 10
 case neg =>
  exact zy4
 have f4 : ¬ (10 : Int) < x.sev := by omega
 by_cases g5 : x.aff.length ≤ 16
 case neg =>
  exact zyz
 have f5 : ¬ (16 : Int) < (x.aff.length : Int) := by omega
 have HOK : Hid (V.qp x = V.yn x.aff x.aff.length) := zvq (by
   unfold V.qp V.zgw
   rw [g0, decide_eq_true g1, decide_eq_true g2, decide_eq_true g3, decide_eq_true g4, decide_eq_true g5]
   rfl)
 clear g0 g1 g2 g3 g4
 go_wp2_with fail
 go_loopw [3] (fun iv W => ∃ k : Nat, k ≤ x.aff.length /\ iv = .int .i64 k /\ V.yn x.aff k = true /\ Below w0.heap.size w0 W) (fun iv _ => x.aff.length - (intOf iv).toNat)
 case atStart => exact ⟨0, Nat.zero_le _, rfl, rfl, zvt _ _⟩
 case round =>
  obtain ⟨k, hk, rfl, hto, hbr⟩ := hrel
  have HTO := zvq hto
  have HBR := zvq hbr
  have HBW := zvr HB hbr
  have c3r := zb hbr c3
  clear hto hbr
  by_cases hlt : k < x.aff.length
  ·obtain ⟨hwf, b, off, ua, uc, rfl, hblt, ha⟩ := HV.out.at k hlt
   have HVK := zvq (HV.out.below HBR.out)
   have HW := zvq hwf
   have HA := zvq (ha.below HBR.out)
   have HST := zvq (V.zbw hlt)
   have HNO := zvq (V.zq1 hlt)
   have HAT : Hid (V.zb4 x.aff k x.aff[k] = ((decide (k = 0) || decide (V.affC (x.aff.getD (k - 1) V.zA) x.aff[k] < 0)) && V.kt x.aff[k])) := zvq rfl
   generalize x.aff[k] = a at *
   have HSD : Hid (V.kt a = (V.xi a.name && V.zdp a.sch a.rs a.its)) := zvq rfl
   have HAN : Hid ((⟨a.name.toArray⟩ : ByteArray).size ≤ maxLen) := zvq (by rw [yi]; exact HW.out.name)
   have e0 := HA.out.c0
   have e1 := HA.out.c1
   have e2 := HA.out.c2
   have e3 := HA.out.c3
   have i1 : (0 : Int) ≤ (k : Int) := by omega
   have i2 : (k : Int) < (x.aff.length : Int) := by omega
   have wr1 : IntKind.i64.wrap ((k : Int) + 1) = (k : Int) + 1 := IntWalk.i64_in _ (by omega)
   have hb2 : Below wr.heap.size wr (wr.alloc (.cells #[.int .i64 a.sch, .string ⟨a.name.toArray⟩, .int .i64 a.rs, .slice ua a.its.length uc] 34)) := (zvt _ wr).alloc (zvs _) _
   obtain ⟨_, d0, d1, d2, d3⟩ := zc6 a (.slice ua a.its.length uc) wr
   have HA2 := zvq (HA.out.its.below hb2)
   have HB2 := zvr HBR hb2
   have HM2 := zvq (HM.out.below HB2.out)
   have HV2 := zvq (HVK.out.below hb2)
   clear hb2 hwf ha
   go_wp2_with fail
   generalize wr.alloc (.cells #[.int .i64 a.sch, .string ⟨a.name.toArray⟩, .int .i64 a.rs, .slice ua a.its.length uc] 34) = w2 at *
   generalize wr.heap.size = X at *
   clear e0 e1 e2 e3 c3r
   refine (zu8 ⟨a.name.toArray⟩ w2 HM2.out HAN.out).mono ?_
   rintro e w3 ⟨rfl, hb3⟩
   rw [kk]
   have HB3 := zvr HB2 hb3
   have HM3 := zvq (HM2.out.below hb3)
   have HV3 := zvq (HV2.out.below hb3)
   have HA3 := zvq (HA2.out.below hb3)
   replace d0 := zb hb3 d0
   replace d1 := zb hb3 d1
   replace d2 := zb hb3 d2
   replace d3 := zb hb3 d3
   clear hb3 HA2 HV2 HM2 HB2 HA
   by_cases hp : V.xi a.name = true
   case neg =>
    have hp' : V.xi a.name = false := by simpa using hp
    have HR : Hid (V.qp x = false) := zvq (by rw [HOK.out]; exact HNO.out (by rw [HAT.out, HSD.out, hp']; simp))
    rw [hp']
    clear hp hp'
    go_wp2
    go_ret
    exact ⟨zc HR.out.symm, HB.out.trans (HB3.out.mono HB.out.size)⟩
   rw [hp]
   have HP := zvq hp
   clear hp
   go_wp2_with fail
   refine (zoz a.sch a.rs a.its ua uc w3 HM3.out HA3.out HW.out.lens HW.out.len).mono ?_
   rintro e w4 ⟨rfl, hb4⟩
   have HB4 := zvr HB3 hb4
   have HV4 := zvq (HV3.out.below hb4)
   replace d0 := zb hb4 d0
   replace d1 := zb hb4 d1
   clear hb4 HA3 HV3 HM3 HB3 d2 d3
   by_cases hg : V.zdp a.sch a.rs a.its = true
   case neg =>
    have hg' : V.zdp a.sch a.rs a.its = false := by simpa using hg
    have HR : Hid (V.qp x = false) := zvq (by rw [HOK.out]; exact HNO.out (by rw [HAT.out, HSD.out, hg']; simp))
    rw [hg']
    clear hg hg'
    go_wp2
    go_ret
    exact ⟨zc HR.out.symm, HB.out.trans (HB4.out.mono HB.out.size)⟩
   rw [hg]
   have HSO : Hid (V.kt a = true) := zvq (by rw [HSD.out, HP.out, hg]; rfl)
   rw [HSO.out] at HAT
   clear hg
   have hx3 := zb HB4.out c3
   rcases Nat.eq_zero_or_pos k with hk0 | hk0
   ·subst hk0
    have HY : Hid (V.yn x.aff (0 + 1) = true) := zvq (by rw [HST.out, HTO.out, HAT.out]; rfl)
    go_wp2_with fail
    refine wp_region_held_drew (S := (fun W' => Below w4.heap.size w4 W')) (by kernel_rfl) (by (try dsimp only); exact (zvt _ _).drew) (fun hHeld => ?_)
    refine tk 0 ?_
    refine tk 1 ?_
    refine tk 2 ?_
    refine tu 3 ?_
    refine tu 4 ?_
    refine tu 5 ?_
    refine tu 6 ?_
    refine tu 7 ?_
    refine tu 8 ?_
    refine tu 9 ?_
    refine tu 10 ?_
    refine tu 11 ?_
    refine tu 12 ?_
    refine tu 13 ?_
    refine tu 14 ?_
    refine tu 15 ?_
    refine tu 16 ?_
    refine tu 17 ?_
    refine tu 18 ?_
    refine tu 19 ?_
    refine tu 20 ?_
    refine tu 21 ?_
    refine tu 22 ?_
    refine tu 23 ?_
    refine tu 24 ?_
    refine tk 25 ?_
    refine wpAnyH_done (by kernel_rfl) ?_ _
    have HBE := zvq (HB4.out.trans ((show Below w4.heap.size w4 w4.drew from hHeld).mono HB4.out.size))
    clear hHeld
    exact z08
   ·obtain ⟨j, hj⟩ : ∃ j, k = j + 1 := ⟨k - 1, by omega⟩
    have hjl : j < x.aff.length := by omega
    obtain ⟨_, b', off', up, ucp, e', _, hp⟩ := HV4.out.at j hjl
    cases e'
    have HPV : Hid (x.aff.getD (k - 1) V.zA = x.aff[j]) := zvq (by rw [hj, Nat.add_sub_cancel, List.getD_eq_getElem?_getD, List.getElem?_eq_getElem hjl]; rfl)
    rw [HPV.out] at HAT
    clear HPV
    generalize x.aff[j] = p at *
    have q0 := hp.c0
    have q1 := hp.c1
    have wk : IntKind.i64.wrap ((k : Int) - 1) = (j : Int) := by rw [hj, IntWalk.i64_in _ (by omega)]; omega
    have j1 : (0 : Int) ≤ (j : Int) := by omega
    have j2 : (j : Int) < (x.aff.length : Int) := by omega
    have k0 : (0 : Int) < (k : Int) := by omega
    have k1 : decide ((0 : Int) < (k : Int)) = true := decide_eq_true k0
    have k2 : decide (0 < k) = true := decide_eq_true hk0
    have k3 : 0 < k := hk0
    have HK0 : Hid (decide (k = 0) = false) := zvq (decide_eq_false (by omega))
    rw [HK0.out, Bool.false_or, Bool.and_true] at HAT
    clear hp hj HK0 hk0
    obtain ⟨r, hr⟩ : ∃ r, decide (V.affC p a < 0) = r := ⟨_, rfl⟩
    have HCE : Hid (decide (V.orI [Lib.compareInt p.sch a.sch, Lib.compareBytes p.name a.name] < 0) = r) := zvq hr
    rw [hr] at HAT
    clear hr c3
    have c3 := hx3
    clear hx3
    go_wp2_with fail
    refine wp_region_held_drew (S := (fun W' => Below w4.heap.size w4 W' /\ W'.cell? ⟨w.heap.size, 3, none⟩ = some (.slice (some ⟨b, off, none⟩) x.aff.length pc) /\ W'.cell? ⟨b, off + j * 4, none⟩ = some (.int .i64 p.sch) /\ W'.cell? ⟨b, off + j * 4 + 1, none⟩ = some (.string ⟨p.name.toArray⟩) /\ W'.cell? ⟨X, 0, none⟩ = some (.int .i64 a.sch) /\ W'.cell? ⟨X, 1, none⟩ = some (.string ⟨a.name.toArray⟩))) (by kernel_rfl) (by (try dsimp only); exact ⟨(zvt _ _).drew, zb (zvt _ _).drew c3, zb (zvt _ _).drew q0, zb (zvt _ _).drew q1, zb (zvt _ _).drew d0, zb (zvt _ _).drew d1⟩) (fun hHeld => ?_)
    refine tk 0 ?_
    refine tk 1 ?_
    refine tk 2 ?_
    refine tk 3 ?_
    refine tk 4 ?_
    refine tk 5 ?_
    refine wpAnyH_take (i := 6) (v := (.int .i64 (j : Int))) rfl (by kernel_rfl) (by kernel_rfl) (by kernel_rfl) (fun _ _ _ h => h) (Or.inl ⟨by rfl, fun w' hSw => by go_simp; try rfl⟩) (by assumption) ?_
    try simp only [zvl, zvm, zvn, Act.put, zvo, List.set_cons_succ, List.set_cons_zero]
    refine tk 7 ?_
    refine tk 8 ?_
    refine tk 9 ?_
    refine tk 10 ?_
    refine tk 11 ?_
    refine tk 12 ?_
    refine wpAnyH_take (i := 13) (v := (.int .i64 (j : Int))) rfl (by kernel_rfl) (by kernel_rfl) (by kernel_rfl) (fun _ _ _ h => h) (Or.inl ⟨by rfl, fun w' hSw => by go_simp; try rfl⟩) (by assumption) ?_
    try simp only [zvl, zvm, zvn, Act.put, zvo, List.set_cons_succ, List.set_cons_zero]
    refine tk 14 ?_
    refine tk 15 ?_
    refine tk 16 ?_
    refine tk 17 ?_
    refine tk 18 ?_
    refine tk 19 ?_
    refine tk 20 ?_
    refine tk 21 ?_
    refine tk 22 ?_
    refine rd 23 fun K hK => ?_
    go_simp
    refine (zqf p.sch a.sch p.name a.name _).mono ?_
    rintro e wy23 ⟨rfl, hby23⟩
    try dsimp only
    rw [HCE.out]
    refine hK.out _ _ ?_ (fun hHeld => nx ?_)
    ·(try dsimp only); go_split_ands; exact ⟨Below.trans (by assumption) (hby23.mono (Below.size (by assumption))), zvw hby23, zvw hby23, zvw hby23, zvw hby23, zvw hby23⟩
    clear hK K
    refine tk 24 ?_
    refine tk 25 ?_
    refine wpAnyH_done (by kernel_rfl) ?_ _
    have HBE := zvq (HB4.out.trans ((show Below w4.heap.size w4 wy23 from hHeld.1).mono HB4.out.size))
    clear hHeld
    rcases r with _ | _
    ·have HR : Hid (V.qp x = false) := zvq (by rw [HOK.out]; exact HNO.out HAT.out)
     exact zzn
    ·have HY : Hid (V.yn x.aff (k + 1) = true) := zvq (by rw [HST.out, HTO.out, HAT.out]; rfl)
     exact z07
  ·exact zzy
end Go.Proofs.YtiloljoancdcbaaGreatDoor
