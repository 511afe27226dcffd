import Derived.Test.YtcfbkcapbbhmpaaGreatDoorC39x24
import Derived.Test.YtcfbkcapbbhmpaaGreatDoorC39x25
import Derived.Test.YtcfbkcapbbhmpaaGreatDoorC39x14
import Derived.Test.YtcfbkcapbbhmpaaGreatDoorC39x16
import Derived.Test.YtcfbkcapbbhmpaaGreatDoorC39x26
import Derived.Test.YtcfbkcapbbhmpaaGreatDoorC39x13
import Derived.Test.YtcfbkcapbbhmpaaGreatDoorC39x22
import Derived.Test.YtcfbkcapbbhmpaaGreatDoorC39x11
import Derived.Test.YtcfbkcapbbhmpaaGreatDoorC39x15
set_option linter.all false
set_option maxRecDepth 100000
set_option maxHeartbeats 6400000
namespace Go.Proofs.YtcfbkcapbbhmpaaGreatDoor
open Go.RowKit
def zg1 (b : V.Bs) (w : World) (e : Ending) (w' : World) : Prop :=
 ∃ u, e = .returned (.tuple #[advV (V.decV b).1 u, .int .i64 (V.decV b).2]) /\ Affs w' u (V.decV b).1.aff /\ Below w.heap.size w w'
theorem zjm {w : World} {v : Value} {bs : V.Bs} (h : wl w v bs) (h0 : 0 < bs.length) : (convert 23 9 v).run Tryz.prog w = .ok (.string ⟨bs.toArray⟩) w := by
 obtain ⟨a, cap, rfl, _, hat⟩ := h
 obtain ⟨b, off, rfl, _, _⟩ := hat 0 h0
 refine zf5 w b off bs.length cap bs rfl (fun j hj => ?_)
 obtain ⟨b', off', e, _, hc⟩ := hat j hj
 cases e
 exact hc
theorem V.readFs_len : ∀ {R : List (List V.Bs)} {l : List V.Aff}, V.kw R = some l -> l.length = R.length
 | [], l, h => by cases h; rfl
 | x :: R, l, h => by
  rw [V.kw] at h
  split at h
  ·obtain ⟨l', h1, rfl⟩ := Option.map_eq_some_iff.1 h
   rw [List.length_cons, List.length_cons, V.readFs_len h1]
  ·cases h
theorem V.readV_facts {ls : List (List V.Bs)} (hw : ∀ l ∈ ls, ∀ x ∈ l, x.length ≤ 32768) (hn : ls.length ≤ 1000) {x : V.Adv} (h : V.jm ls = some x) : x.id.length ≤ maxLen /\ x.aff.length ≤ maxLen := by
 unfold V.jm at h
 split at h
 ·rename_i a i r s rest
  split at h
  ·obtain ⟨l, h1, rfl⟩ := Option.map_eq_some_iff.1 h
   have h2 := hw _ (List.mem_cons_self ..) i (by simp)
   have h3 := V.readFs_len h1
   rw [List.length_cons] at hn
   exact ⟨by show i.length ≤ maxLen; unfold maxLen; omega, by show l.length ≤ maxLen; unfold maxLen; omega⟩
  ·cases h
 ·cases h
theorem V.doc_pos {x : V.Adv} : 0 < (V.doc (V.qi x)).length := by
 have : V.doc (V.qi x) = V.line (V.xp x) ++ V.doc ((x.aff.take x.aff.length).map V.uw) := rfl
 rw [this, List.length_append]
 have : 0 < (V.line (V.xp x)).length := by unfold V.line; simp
 omega
theorem zym {P : Prop} (h : P := by
 go_wp2_with (first | (refine qr rfl qa _ _ rfl w.heap.size #[.string ⟨#[]⟩, .int .i64 0, .int .i64 0, .slice none 0 0] 29 HK4.out rfl (.string ⟨#[]⟩) (.int .i64 0) (.int .i64 0) (.slice none 0 0) ⟨rfl, rfl, rfl, rfl⟩ rfl rfl ?_) | fail)
 exact HEX.out 1 _ HE.out HK4.out HB4.out _ Tryz.results8 _ rfl rfl rfl) : P := h
theorem zff (v : Value) (bs : V.Bs) (w : World) (hm : zg w) (hp : zc6 w) (hv : wl w v bs) (hl : bs.length ≤ maxLen) :
  Calls Tryz.prog 8 #[v] w (zg1 bs w) := by
 obtain ⟨hb0, hk0, hz0⟩ := zg3 w
 have HM := zwe hm
 have HP := zwe hp
 have HB0 := zwe hb0
 have HK0 := zwe hk0
 have HZ0 := zwe hz0
 have HV := zwe (hv.below hb0)
 have HLB := zwe hl
 have HEX : Hid (∀ (k : Int) (W : World), V.decV bs = (V.zV, k) -> W.heap[w.heap.size]? = some (.cells #[.string ⟨#[]⟩, .int .i64 0, .int .i64 0, .slice none 0 0] 29 (0, 0)) -> Below w.heap.size w W ->
     ∀ fn : Func, fn.results = #[.cell 2 29, .tmp 3] -> ∀ a : Act, a.tmps.getD 2 undef = .pointer (some ⟨w.heap.size, 0, none⟩) -> a.tmps.getD 3 undef = .int .i64 k -> a.defers = [] ->
     bodyPost Tryz.prog fn (zg1 bs w) .ret a (W.setRow w.heap.size #[.string ⟨#[]⟩, .int .i64 0, .int .i64 0, .slice none 0 0])) := zwe (by
   intro k W hr hg hb fn hfn a h4 h5 h6
   refine bodyPost_ret (kb hfn h4 h5 (zcw Tryz.underlying29 qa (setRow_heap _ _ _ _ _ _ hg))) h6 ?_
   exact ⟨.slice none 0 0, by rw [hr]; rfl, by rw [hr]; exact Affs.nil _, qu hb _ _ (zwg _) (Array.getElem?_eq_some_iff.1 hg).1⟩)
 obtain ⟨va, vc, rfl⟩ : ∃ va vc, v = .slice va bs.length vc := by obtain ⟨a, c, e, _⟩ := hv; exact ⟨a, c, e⟩
 clear hm hp hv hl hb0 hk0 hz0
 go_enter Tryz.func8, Tryz.ntmps8
 go_wp2_with fail
 generalize w.alloc (.cells #[.string ⟨#[]⟩, .int .i64 0, .int .i64 0, .slice none 0 0] 29) = w0 at *
 refine (zmv (.slice va bs.length vc) bs w0 (HM.out.below HB0.out) HV.out HLB.out).mono ?_
 rintro e w1 ⟨u, rfl, hu, hcap, hb1⟩
 have HB1 := zwf HB0 hb1
 have HK1 := zwe ((hb1.block _ (by have := HZ0.out; omega)).trans HK0.out)
 have HZ1 : Hid (w.heap.size + 1 ≤ w1.heap.size) := zwe (by have := hb1.size; have := HZ0.out; omega)
 have HU := zwe hu
 have HCP := zwe hcap
 have HV1 := zwe (HV.out.below hb1)
 have HWD := zwe (V.decP_words (bs := bs))
 have HLN := zwe (V.decP_len bs)
 clear hb1 hu hcap HB0 HK0 HZ0 HV
 obtain ⟨⟨ls, c⟩, hdp⟩ : ∃ p, V.decP bs = p := ⟨_, rfl⟩
 rw [hdp] at HU HWD HLN ⊢
 simp only at HU HWD HLN ⊢
 have HDP := zwe hdp
 clear hdp
 obtain ⟨ua, uc, rfl⟩ : ∃ ua uc, u = .slice ua ls.length uc := by obtain ⟨a, c, e, _⟩ := HU.out; exact ⟨a, c, e⟩
 by_cases hc : c = 0
 case neg =>
  have HE := zwe (V.zlb HDP.out hc)
  have hcb : (c != 0) = true := by simp [hc]
  go_wp2_with (first | (refine qr rfl qa _ _ rfl w.heap.size #[.string ⟨#[]⟩, .int .i64 0, .int .i64 0, .slice none 0 0] 29 HK1.out rfl (.string ⟨#[]⟩) (.int .i64 0) (.int .i64 0) (.slice none 0 0) ⟨rfl, rfl, rfl, rfl⟩ rfl rfl ?_) | fail)
  exact HEX.out c _ HE.out HK1.out HB1.out _ Tryz.results8 _ rfl rfl rfl
 subst hc
 have HNO : Hid (V.jm ls = none -> V.decV bs = (V.zV, 2)) := zwe (fun h => V.zh2 HDP.out h)
 have HYES : Hid (∀ x, V.jm ls = some x -> V.decV bs = if (V.encV x).2 = 0 /\ (V.encV x).1 = bs then (x, 0) else (V.zV, 1)) := zwe (fun x h => V.zfc HDP.out h)
 have HRF : Hid (∀ x, V.jm ls = some x -> x.id.length ≤ maxLen /\ x.aff.length ≤ maxLen) := zwe (fun x h => V.readV_facts HWD.out HLN.out h)
 have HBS : Hid (∀ x, V.jm ls = some x -> 0 < bs.length) := zwe (fun x h => by
   rcases Nat.eq_zero_or_pos bs.length with e | e
   · have e2 := List.eq_nil_of_length_eq_zero e
     have h1 := HDP.out
     rw [e2, V.zfy] at h1
     cases h1
     cases h
   · exact e)
 go_wp2_with fail
 refine (zrh (.slice ua ls.length uc) ls w1 (HM.out.below HB1.out) HU.out HCP.out HWD.out HLN.out).mono ?_
 rintro e w2 ⟨u2, us, rfl, ⟨hrow, hmap, hown⟩, hb2⟩
 obtain ⟨p2, q2, hu2⟩ := hrow.affs.slice
 rw [hmap] at hu2
 subst hu2
 unfold advV
 have HB2 := zwf HB1 hb2
 have HK2 := zwe ((hb2.block _ (by have := HZ1.out; omega)).trans HK1.out)
 have HZ2 : Hid (w.heap.size + 1 ≤ w2.heap.size) := zwe (by have := hb2.size; have := HZ1.out; omega)
 have HR2 := zwe hrow
 have HMP := zwe hmap
 have HOW := zwe hown
 have HV2 := zwe (HV1.out.below hb2)
 clear hb2 hrow hmap hown HB1 HK1 HV1 HU HCP HDP HWD HLN
 obtain ⟨x, hx⟩ : ∃ x, (V.jm ls).getD V.zV = x := ⟨_, rfl⟩
 obtain ⟨ok, hok⟩ : ∃ ok, (V.jm ls).isSome = ok := ⟨_, rfl⟩
 rw [hx, hok]
 rw [hx] at HMP HR2
 have HX := zwe hx
 have HO := zwe hok
 clear hx hok
 obtain ⟨hb3, d0, d1, d2, d3⟩ := zbj x (.slice p2 x.aff.length q2) w2
 have HB3 := zwf HB2 hb3
 have HK3 := zwe ((hb3.block _ (by have := HZ2.out; omega)).trans HK2.out)
 have HR3 := zwe (HR2.out.later hb3)
 have HV3 := zwe (HV2.out.below hb3)
 have HM3 := zwe (HM.out.below HB3.out)
 have HP3 := zwe (HP.out.below HB3.out)
 have HXW : Hid (w.heap.size + 1 ≤ w2.heap.size) := HZ2
 clear hb3 HB2 HK2 HR2 HV2 HM HP
 rcases ok with _ | _
 ·have HE := zwe (HNO.out (by cases h : V.jm ls with | none => rfl | some y => have := HO.out; rw [h] at this; cases this))
  go_wp2_with (first | (refine qr rfl qa _ _ rfl w.heap.size #[.string ⟨#[]⟩, .int .i64 0, .int .i64 0, .slice none 0 0] 29 HK3.out rfl (.string ⟨#[]⟩) (.int .i64 0) (.int .i64 0) (.slice none 0 0) ⟨rfl, rfl, rfl, rfl⟩ rfl rfl ?_) | fail)
  exact HEX.out 2 _ HE.out HK3.out HB3.out _ Tryz.results8 _ rfl rfl rfl
 ·have hrv : V.jm ls = some x := by
   cases h : V.jm ls with
   | none => have := HO.out; rw [h] at this; cases this
   | some y => have := HX.out; rw [h] at this; exact congrArg some this
  have HY := zwe (HYES.out x hrv)
  have HF := zwe (HRF.out x hrv)
  have HBP := zwe (HBS.out x hrv)
  have HAF : Hid (Affs (w2.alloc (.cells #[.string ⟨x.id.toArray⟩, .int .i64 x.rev, .int .i64 x.sev, .slice p2 x.aff.length q2] 29)) (.slice p2 x.aff.length q2) x.aff) := zwe (by have := HR3.out.affs; rwa [HMP.out] at this)
  clear hrv HYES HRF HBS HNO HO HX
  go_wp2_with fail
  generalize w2.alloc (.cells #[.string ⟨x.id.toArray⟩, .int .i64 x.rev, .int .i64 x.sev, .slice p2 x.aff.length q2] 29) = w3 at *
  generalize w2.heap.size = X at *
  refine (zch x (.slice p2 x.aff.length q2) w3 HM3.out HP3.out HAF.out HF.out.1 HF.out.2).mono ?_
  intro e w4 he
  have hb4 := he.2.2
  have HB4 := zwf HB3 hb4
  have HK4 := zwe ((hb4.block _ (by have := HB3.out.size; have := (Array.getElem?_eq_some_iff.1 HK3.out).1; omega)).trans HK3.out)
  have HR4 := zwe (HR3.out.later hb4)
  have HV4 := zwe (HV3.out.below hb4)
  replace d0 := zb hb4 d0
  replace d1 := zb hb4 d1
  replace d2 := zb hb4 d2
  replace d3 := zb hb4 d3
  clear hb4 HB3 HK3 HR3 HV3 HM3 HP3 HAF
  by_cases hz : (V.encV x).2 = 0
  case neg =>
   have hq := he.2.1 hz
   subst hq
   have HE : Hid (V.decV bs = (V.zV, 1)) := zwe (by rw [HY.out, if_neg (fun e => hz e.1)])
   have hzb : ((V.encV x).2 != 0) = true := by simp [hz]
   clear he
   generalize (V.encV x).2 = ee at *
   exact zym
  obtain ⟨u4, N4, W4, rfl, hbuf⟩ := he.1 hz
  have h1 := zcu hbuf (by rw [(V.zjl hz).2.2]; exact V.doc_pos)
  have h2 := zjm HV4.out HBP.out
  obtain ⟨a4, c4, rfl⟩ := hbuf.slice
  have H1 := zwe h1
  have H2 := zwe h2
  have HZ := zwe hz
  clear he h1 h2 hbuf hz
  generalize hD : (V.encV x).1 = D at *
  have HD := zwe hD
  clear hD
  go_wp2_with fail
  refine (Tryz.bytes_Equal_strs _ _ ⟨D.toArray⟩ ⟨bs.toArray⟩ w4 H1.out H2.out).mono ?_
  rintro e w' ⟨rfl, hw'⟩
  obtain rfl := hw'.symm
  clear hw'
  by_cases heq : D = bs
  case neg =>
   have hb : ((⟨D.toArray⟩ : ByteArray).toList == (⟨bs.toArray⟩ : ByteArray).toList) = false := by
    rw [Lib.toList_data, Lib.toList_data, kn, kn, zwi]; exact heq
   have HE : Hid (V.decV bs = (V.zV, 1)) := zwe (by rw [HY.out, if_neg (fun e => heq e.2)])
   rw [hb]
   clear hb heq
   exact zym
  ·have hb : ((⟨D.toArray⟩ : ByteArray).toList == (⟨bs.toArray⟩ : ByteArray).toList) = true := by
    rw [heq]; simp
   have HE : Hid (V.decV bs = (x, 0)) := zwe (by rw [HY.out, if_pos ⟨HZ.out, heq⟩])
   rw [hb]
   clear hb heq
   go_wp2_with (first | (refine qr rfl qa _ _ rfl w.heap.size #[.string ⟨#[]⟩, .int .i64 0, .int .i64 0, .slice none 0 0] 29 HK4.out rfl (.string ⟨x.id.toArray⟩) (.int .i64 x.rev) (.int .i64 x.sev) (.slice p2 x.aff.length q2) ⟨rfl, rfl, rfl, rfl⟩ rfl rfl ?_) | fail)
   refine bodyPost_ret (v := .tuple #[.agg #[.string ⟨x.id.toArray⟩, .int .i64 x.rev, .int .i64 x.sev, .slice p2 x.aff.length q2], .int .i64 0]) (kb Tryz.results8 rfl rfl (zcw Tryz.underlying29 qa (setRow_heap _ _ _ _ _ _ HK4.out))) rfl ?_
   refine ⟨.slice p2 x.aff.length q2, by rw [HE.out]; rfl, ?_, qu HB4.out _ _ (zwg _) (Array.getElem?_eq_some_iff.1 HK4.out).1⟩
   rw [HE.out]
   have hbk := GRow.block HR4.out.row
   have := (HR4.out.kept (qj w4 w.heap.size #[.string ⟨x.id.toArray⟩, .int .i64 x.rev, .int .i64 x.sev, .slice p2 x.aff.length q2]) (fun e => by have h1 := hbk _ e; have h2 := HZ1.out; omega) (fun p hp c hc => by have h1 := HOW.out p hp c hc; have h2 := HZ1.out; omega)).affs
   rwa [HMP.out] at this
namespace V
def zio (n : Int) (s : Bs) (a : Aff) : Bool := decide (a.sch = n) && decide (a.name = s)
def covP (x : Adv) (n : Int) (s v : Bs) : Bool := match x.aff.find? (zio n s) with
 | none => false
 | some a => kq a.rs a.its v && qp x
theorem zul {p : Aff -> Bool} : ∀ {l : List Aff} {k : Nat} (hk : k < l.length), (∀ j (h : j < l.length), j < k -> p l[j] = false) -> p l[k] = true -> l.find? p = some l[k]
 | a :: l, 0, _, _, h => by simp at h; simp [h]
 | a :: l, k + 1, hk, hn, h => by
  have h0 := hn 0 (by simp) (by omega)
  simp only [List.getElem_cons_zero] at h0
  rw [List.find?_cons_of_neg (by rw [h0]; simp)]
  simp only [List.getElem_cons_succ] at h ⊢
  exact zul (by simpa using hk) (fun j hj hjk => by have := hn (j + 1) (by simpa using hj) (by omega); simpa using this) h
theorem find_no {p : Aff -> Bool} {l : List Aff} (h : ∀ j (hj : j < l.length), p l[j] = false) : l.find? p = none := by
 rw [List.find?_eq_none]
 intro a ha
 obtain ⟨j, hj, rfl⟩ := List.mem_iff_getElem.1 ha
 rw [h j hj]; simp
end V
theorem z1m {P : Prop} (h : P := by
 go_wp2
 go_roundw
 case rel => exact ⟨k + 1, by omega, by go_num, HNY.out, HB2.out⟩
 case measure => simp [intOf]; omega) : P := h
theorem zmq (x : V.Adv) (v : Value) (n : Int) (s ver : V.Bs) (w : World) (hm : zg w) (hv : Affs w v x.aff) (hid : x.id.length ≤ maxLen) (hl : x.aff.length ≤ maxLen) (hs : ver.length ≤ maxLen) :
  Calls Tryz.prog 38 #[advV x v, .int .i64 n, .string ⟨s.toArray⟩, .string ⟨ver.toArray⟩] w fun e w' => e = .returned (.bool (V.covP x n s ver)) /\ Below w.heap.size w w' := by
 obtain ⟨pa, pc, rfl⟩ := hv.slice
 obtain ⟨hb, c0, c1, c2, c3⟩ := zbj x (.slice pa x.aff.length pc) w
 have HM := zwe (hm.below hb)
 have HV := zwe (hv.below hb)
 have HB := zwe hb
 have HI := zwe (And.intro hid (And.intro hl hs))
 unfold maxLen at hl
 clear hm hv hid hb hs
 unfold advV
 go_enter Tryz.func38, Tryz.ntmps38
 go_wp2_with fail
 generalize w.alloc (.cells #[.string ⟨x.id.toArray⟩, .int .i64 x.rev, .int .i64 x.sev, .slice pa x.aff.length pc] 29) = w0 at *
 go_loopw [14] (fun iv W => ∃ k : Nat, k ≤ x.aff.length /\ iv = .int .i64 k /\ (∀ j (h : j < x.aff.length), j < k -> V.zio n s x.aff[j] = false) /\ Below w0.heap.size w0 W) (fun iv _ => x.aff.length - (intOf iv).toNat)
 case atStart => exact ⟨0, Nat.zero_le _, rfl, (fun j _ h => absurd h (Nat.not_lt_zero _)), zwh _ _⟩
 case round =>
  obtain ⟨k, hk, rfl, hno, hbr⟩ := hrel
  have HNO := zwe hno
  have HBR := zwe hbr
  clear hno hbr
  by_cases hlt : k < x.aff.length
  ·obtain ⟨hwf, b, off, ua, uc, rfl, hblt, ha⟩ := HV.out.at k hlt
   have HVR := zwe (HV.out.below HBR.out)
   have HW := zwe hwf
   have HA := zwe (ha.below HBR.out)
   have HAT := zwe (V.zul (p := V.zio n s) hlt HNO.out)
   have HNX : Hid (V.zio n s x.aff[k] = false -> ∀ j (h : j < x.aff.length), j < k + 1 -> V.zio n s x.aff[j] = false) := zwe (fun hf j h hj => by
     by_cases e : j = k
     · subst e; exact hf
     · exact HNO.out j h (by omega))
   generalize x.aff[k] = a at *
   have HPK : Hid (V.zio n s a = (decide (a.sch = n) && decide (a.name = s))) := zwe rfl
   have e0 := HA.out.c0
   have e1 := HA.out.c1
   have e2 := HA.out.c2
   have e3 := HA.out.c3
   have i1 : (0 : Int) ≤ (k : Int) := by omega
   have i2 : (k : Int) < (x.aff.length : Int) := by omega
   have wr1 : IntKind.i64.wrap ((k : Int) + 1) = (k : Int) + 1 := IntWalk.i64_in _ (by omega)
   obtain ⟨hb2, d0, d1, d2, d3⟩ := zdh a (.slice ua a.its.length uc) wr
   have HIT := zwe (HA.out.its.below hb2)
   have HB2 := zwf HBR hb2
   have HM2 := zwe (HM.out.below HB2.out)
   have HV2 := zwe (HVR.out.below hb2)
   have b0 := zb HB2.out c0
   have b1 := zb HB2.out c1
   have b2 := zb HB2.out c2
   have b3 := zb HB2.out c3
   clear hb2 hwf ha HA HVR
   by_cases hp : V.zio n s a = true
   ·have HFI : Hid (V.covP x n s ver = (V.kq a.rs a.its ver && V.qp x)) := zwe (by unfold V.covP; rw [HAT.out hp])
    rw [HPK.out, Bool.and_eq_true, decide_eq_true_eq, decide_eq_true_eq] at hp
    have q1 : (a.sch == n) = true := by simpa using hp.1
    have q2 : (a.name == s) = true := by simpa using hp.2
    have q3 := hp.1
    have q4 := hp.2
    clear hp HNX HAT HPK
    subst q3
    subst q4
    go_wp2_with fail
    generalize wr.alloc (.cells #[.int .i64 a.sch, .string ⟨a.name.toArray⟩, .int .i64 a.rs, .slice ua a.its.length uc] 47) = w2 at *
    refine (zkt a.rs (.slice ua a.its.length uc) a.its ver w2 HM2.out HIT.out HW.out.lens HW.out.len HI.out.2.2).mono ?_
    rintro e w3 ⟨rfl, hb3⟩
    have HB3 := zwf HB2 hb3
    have HM3 := zwe (HM2.out.below hb3)
    have HV3 := zwe (HV2.out.below hb3)
    replace b0 := zb hb3 b0
    replace b1 := zb hb3 b1
    replace b2 := zb hb3 b2
    replace b3 := zb hb3 b3
    clear hb3
    rcases hcl : V.kq a.rs a.its ver with _ | _
    ·have HR : Hid (V.covP x a.sch a.name ver = false) := zwe (by rw [HFI.out, hcl]; rfl)
     clear hcl
     go_wp2
     go_ret
     exact ⟨zc HR.out.symm, HB.out.trans (HB3.out.mono HB.out.size)⟩
    ·have HR : Hid (V.covP x a.sch a.name ver = V.qp x) := zwe (by rw [HFI.out, hcl]; rfl)
     clear hcl
     go_wp2_with fail
     refine (zdf x (.slice (some ⟨b, off, none⟩) x.aff.length pc) w3 HM3.out HV3.out HI.out.1 HI.out.2.1).mono ?_
     rintro e w4 ⟨rfl, hb4⟩
     have HB4 := zwf HB3 hb4
     clear hb4
     go_wp2
     go_ret
     exact ⟨zc HR.out.symm, HB.out.trans (HB4.out.mono HB.out.size)⟩
   ·have hpf : V.zio n s a = false := by simpa using hp
    have HNY := zwe (HNX.out hpf)
    have hcase : (a.sch == n) = false /\ ¬ a.sch = n ∨ (a.sch == n) = true /\ a.sch = n /\ (a.name == s) = false /\ ¬ a.name = s := by
     rw [HPK.out, Bool.and_eq_false_iff, decide_eq_false_iff_not, decide_eq_false_iff_not] at hpf
     by_cases h1 : a.sch = n
     ·rcases hpf with h | h
      ·exact absurd h1 h
      ·exact .inr ⟨by simpa using h1, h1, by rw [zwi]; exact h, h⟩
     ·exact .inl ⟨by rw [zwi]; exact h1, h1⟩
    clear hp hpf HNX HAT HPK
    rcases hcase with ⟨q1, q2⟩ | ⟨q1, q2, q3, q4⟩
    ·exact z1m
    ·subst q2
     exact z1m
  ·obtain rfl : k = x.aff.length := by omega
   have HR : Hid (V.covP x n s ver = false) := zwe (by unfold V.covP; rw [V.find_no (fun j hj => HNO.out j hj hj)])
   go_wp2
   go_ret
   exact ⟨zc HR.out.symm, HB.out.trans (HBR.out.mono HB.out.size)⟩
open Go.RowKit
theorem zzf {P : Prop} (h : P := by
 have hc : w.cell? ⟨g, j, none⟩ = cur[j]? := by
  unfold World.cell?
  rw [hg]
  rfl
 have h1 : (bvals l)[j]? = some (.int .u8 (l[j]).toNat) := by simp [bvals, hj]
 rw [← htk, List.getElem?_take] at h1
 split at h1
 ·rw [hc]; simpa using h1
 ·cases h1) : P := h
theorem Buf.bytesInA {N : Nat} {v : Value} {l : V.Bs} {W0 w : World} (h : Buf N v l W0 w) : wl w v l := by
 rcases h.1.2 with ⟨rfl, hn⟩ | ⟨g, cap, cur, fz, rfl, hb, hg, hnc, hm, hsz, hq, htk⟩
 ·have := List.eq_nil_of_length_eq_zero hn
  subst this
  exact ⟨none, 0, rfl, zwg _, fun j hj => by simp at hj⟩
 ·refine ⟨_, _, rfl, hm, fun j hj => ⟨g, 0, rfl, (Array.getElem?_eq_some_iff.1 hg).1, ?_⟩⟩
  rw [Nat.zero_add]
  exact zzf
theorem V.doc_lenA {ls : List (List V.Bs)} (h : V.DocOk ls) : (V.doc ls).length ≤ 262144 := by
 rw [← V.zfb, V.ze3 (fun l hl => (h.line l hl).1) _ (zwg _)]; exact h.size
theorem V.encV_len {x : V.Adv} (h : (V.encV x).2 = 0) : (V.encV x).1.length ≤ 262144 := by
 obtain ⟨_, h2, h3⟩ := V.zjl h
 rw [h3]
 exact V.doc_lenA (V.zho h2)
namespace V
def smpI : Itv := ⟨[51, 46, 48], 1, [51, 46, 48, 46, 55], 2⟩
def smpA : Aff := ⟨2, [111, 112, 101, 110, 115, 115, 108], 2, [smpI]⟩
def smp : Adv := ⟨[99, 118, 101, 45, 49], 2, 7, [smpA]⟩
theorem zjz : MadeV smp := ⟨by kernel_rfl, by decide, by decide, by decide, by decide, by decide, by decide, (fun a ha => by
  rw [List.mem_singleton.1 ha]; kernel_rfl), List.pairwise_singleton _ _⟩
theorem smp_cov : covP smp 2 [111, 112, 101, 110, 115, 115, 108] [51, 46, 48, 46, 54] = true := by kernel_rfl
end V
theorem smp_wf : AffWf V.smpA := ⟨by decide, ux (V.zab (V.yq (V.zjz.snd V.smpA (List.mem_singleton.2 rfl))).2.2.2), by decide⟩
theorem zsu (w : World) : Calls Tryz.prog 37 #[] w fun e w' => ∃ u, e = .returned (advV V.smp u) /\ Affs w' u V.smp.aff /\ Below w.heap.size w w' := by
 obtain ⟨w0, hw0⟩ : ∃ w0, w0 = w.alloc (.cells #[.string ⟨#[]⟩, .int .i64 0, .int .i64 0, .slice none 0 0] 29) := ⟨_, rfl⟩
 obtain ⟨w1, hw1⟩ : ∃ w1, w1 = w0.alloc (.cells #[.string ⟨#[51, 46, 48]⟩, .int .i64 1, .string ⟨#[51, 46, 48, 46, 55]⟩, .int .i64 2] 82) := ⟨_, rfl⟩
 obtain ⟨w2, hw2⟩ : ∃ w2, w2 = w1.alloc (.cells #[.int .i64 2, .string ⟨#[111, 112, 101, 110, 115, 115, 108]⟩, .int .i64 2, .slice (some ⟨w.heap.size + 1, 0, none⟩) 1 1] 47) := ⟨_, rfl⟩
 obtain ⟨w3, hw3⟩ : ∃ w3, w3 = w2.setRow w.heap.size #[.string ⟨#[99, 118, 101, 45, 49]⟩, .int .i64 2, .int .i64 7, .slice (some ⟨w.heap.size + 2, 0, none⟩) 1 1] := ⟨_, rfl⟩
 have hz0 : w0.heap.size = w.heap.size + 1 := by rw [hw0]; simp
 have hz1 : w1.heap.size = w.heap.size + 2 := by rw [hw1]; simp [hz0]
 have hz2 : w2.heap.size = w.heap.size + 3 := by rw [hw2]; simp [hz1]
 have hb0 : Below w.heap.size w w0 := by rw [hw0]; exact (zwh _ w).alloc (zwg _) _
 have hb1 : Below w0.heap.size w0 w1 := by rw [hw1]; exact (zwh _ w0).alloc (zwg _) _
 have hb2 : Below w1.heap.size w1 w2 := by rw [hw2]; exact (zwh _ w1).alloc (zwg _) _
 have hk0 : w2.heap[w.heap.size]? = some (.cells #[.string ⟨#[]⟩, .int .i64 0, .int .i64 0, .slice none 0 0] 29 (0, 0)) := (hb2.block _ (by omega)).trans ((hb1.block _ (by omega)).trans (by rw [hw0]; exact heap_alloc_new w _))
 have hbz := (hb0.trans (hb1.mono hb0.size)).trans (hb2.mono (by omega))
 have hz3 : w3.heap.size = w.heap.size + 3 := by rw [hw3]; simpa using hz2
 have hq1 : w3.heap[w.heap.size + 1]? = some (.cells #[.string ⟨#[51, 46, 48]⟩, .int .i64 1, .string ⟨#[51, 46, 48, 46, 55]⟩, .int .i64 2] 82 (0, 0)) := by
  rw [hw3, setRow_other w2 _ _ _ (by omega), hb2.block _ (by omega), hw1, ← hz0]
  exact heap_alloc_new w0 _
 have hq2 : w3.heap[w.heap.size + 2]? = some (.cells #[.int .i64 2, .string ⟨#[111, 112, 101, 110, 115, 115, 108]⟩, .int .i64 2, .slice (some ⟨w.heap.size + 1, 0, none⟩) 1 1] 47 (0, 0)) := by
  rw [hw3, setRow_other w2 _ _ _ (by omega), hw2, ← hz1]
  exact heap_alloc_new w1 _
 have hi : Itvs w3 (.slice (some ⟨w.heap.size + 1, 0, none⟩) 1 1) [V.smpI] := ⟨_, _, rfl, fun j hj => by
   obtain rfl : j = 0 := by simpa using hj
   exact ⟨w.heap.size + 1, 0, rfl, by omega, xk hq1⟩⟩
 have ha : Affs w3 (.slice (some ⟨w.heap.size + 2, 0, none⟩) 1 1) V.smp.aff := ⟨_, _, rfl, fun j hj => by
   obtain rfl : j = 0 := by simpa [V.smp] using hj
   obtain ⟨c0, c1, c2, c3⟩ := xk hq2
   exact ⟨smp_wf, w.heap.size + 2, 0, _, _, rfl, by omega, c0, c1, c2, c3, hi⟩⟩
 rw [hw3, hw2, hw1, hw0] at ha
 rw [hw2, hw1, hw0] at hbz hk0
 have HA := zwe ha
 have HK0 := zwe hk0
 have HBZ := zwe hbz
 clear hb0 hb1 hb2 hi ha hk0 hbz hz1 hz2 hz3 hq1 hq2 hw0 hw1 hw2 hw3 hz0
 go_enter Tryz.func37, Tryz.ntmps37
 go_wp2_with (first | (refine qr rfl qa _ _ rfl w.heap.size #[.string ⟨#[]⟩, .int .i64 0, .int .i64 0, .slice none 0 0] 29 HK0.out rfl (.string ⟨#[99, 118, 101, 45, 49]⟩) (.int .i64 2) (.int .i64 7) (.slice (some ⟨w.heap.size + 2, 0, none⟩) 1 1) ⟨rfl, rfl, rfl, rfl⟩ rfl rfl ?_) | fail)
 refine bodyPost_ret (v := advV V.smp (.slice (some ⟨w.heap.size + 2, 0, none⟩) 1 1)) (zi4 Tryz.results37 rfl (zcw Tryz.underlying29 qa (setRow_heap _ _ _ _ _ _ HK0.out))) rfl ?_
 exact ⟨_, rfl, HA.out, qu HBZ.out _ _ (zwg _) (Array.getElem?_eq_some_iff.1 HK0.out).1⟩
theorem zh6 (w : World) (hm : zg w) (hp : zc6 w) : Calls Tryz.prog 12 #[] w fun e w' => e = .returned (.bool true) /\ Below w.heap.size w w' := by
 have HM := zwe hm
 have HP := zwe hp
 have HE : Hid ((V.encV V.smp).2 = 0) := zwe (by rw [V.zjz.encV])
 have HL : Hid (V.smp.id.length ≤ maxLen /\ V.smp.aff.length ≤ maxLen) := zwe (by decide)
 have HDE := zwe (V.decV_enc HE.out)
 have HLN := zwe (V.encV_len HE.out)
 have HOK := zwe V.zjz.ok
 have HCV := zwe V.smp_cov
 have HSV : Hid (V.smp.sev = 7) := zwe rfl
 have HS : Hid (∀ w, Calls Tryz.prog 37 #[] w fun e w' => ∃ u, e = .returned (advV V.smp u) /\ Affs w' u V.smp.aff /\ Below w.heap.size w w') := zwe zsu
 clear hm hp
 generalize V.smp = x at *
 go_enter Tryz.func12, Tryz.ntmps12
 go_wp2_with fail
 refine (HS.out w).mono ?_
 rintro e w1 ⟨u1, rfl, hu1, hb1⟩
 have HU1 := zwe hu1
 have HB1 := zwe hb1
 clear hu1 hb1
 go_wp2_with fail
 refine (zch x u1 w1 (HM.out.below HB1.out) (HP.out.below HB1.out) HU1.out HL.out.1 HL.out.2).mono ?_
 intro e w2 he
 obtain ⟨u2, N2, W2, rfl, hbuf⟩ := he.1 HE.out
 have hb2 := he.2.2
 have HB2 := zwf HB1 hb2
 have HBI := zwe hbuf.bytesInA
 clear he hb2 HB1 HU1 hbuf
 generalize (V.encV x).1 = D at *
 obtain ⟨ua, uc, hue, hj⟩ := HBI.out
 subst hue
 clear hj
 go_wp2_with fail
 refine (zff (.slice ua D.length uc) D w2 (HM.out.below HB2.out) (HP.out.below HB2.out) HBI.out (by have := HLN.out; unfold maxLen; omega)).mono ?_
 rintro e w3 ⟨u3, rfl, hu3, hb3⟩
 rw [HDE.out] at hu3 ⊢
 simp only at hu3 ⊢
 obtain ⟨pa, pc, rfl⟩ := hu3.slice
 obtain ⟨hb4, c0, c1, c2, c3⟩ := zbj x (.slice pa x.aff.length pc) w3
 have HB4 := zwe (HB2.out.trans ((hb3.trans (hb4.mono hb3.size)).mono HB2.out.size))
 clear hb3 hb4 hu3 c0 c1 c3 HBI HB2
 unfold advV
 go_wp2_with fail
 generalize w3.alloc (.cells #[.string ⟨x.id.toArray⟩, .int .i64 x.rev, .int .i64 x.sev, .slice pa x.aff.length pc] 29) = w4 at *
 rw [HSV.out] at c2
 refine (HS.out w4).mono ?_
 rintro e w5 ⟨u5, rfl, hu5, hb5⟩
 replace c2 := zb hb5 c2
 have HB5 := zwf HB4 hb5
 have HU5 := zwe hu5
 clear hb5 hu5 HB4
 go_wp2_with fail
 refine (zdf x u5 w5 (HM.out.below HB5.out) HU5.out HL.out.1 HL.out.2).mono ?_
 rintro e w6 ⟨rfl, hb6⟩
 rw [HOK.out]
 replace c2 := zb hb6 c2
 have HB6 := zwf HB5 hb6
 clear hb6 HB5 HU5
 go_wp2_with fail
 refine (HS.out w6).mono ?_
 rintro e w7 ⟨u7, rfl, hu7, hb7⟩
 have HB7 := zwf HB6 hb7
 have HU7 := zwe hu7
 clear hb7 hu7 HB6 c2
 go_wp2_with fail
 refine (zmq x u7 2 [111, 112, 101, 110, 115, 115, 108] [51, 46, 48, 46, 54] w7 (HM.out.below HB7.out) HU7.out HL.out.1 HL.out.2 (by decide)).mono ?_
 rintro e w8 ⟨rfl, hb8⟩
 rw [HCV.out]
 have HB8 := zwf HB7 hb8
 go_wp2
 go_ret
 exact ⟨zc rfl, HB8.out⟩
open Go.RowKit
theorem yc {α : Type} {enc : α -> List Value} {k : Nat} {T : TypeId} {ops : Array Oper} {o : Oper} {a : Act} {w : World} {K : Act -> World -> Prop} {Q : Exit -> Act -> World -> Prop} {E : Prop} (hk : ∀ x, (enc x).length = k) (hk0 : 0 < k) (h1c : ∀ x, ∀ u ∈ enc x, u.oneCell' = true) {bytes : Nat} (hi : xq T k bytes) (hby : bytes ≤ 1000) (hgd : o.guard = none) (s x : Operand) (S : TypeId)
  (ho : o.op = .call { callee := .builtin .append, args := #[s, x], argTypes := #[S, S] }) (hu : Tryz.prog.underlying S = some (.slice T))
  (N : Nat) (v : Value) (l : List α) (hs : a.eval s = v) (hown : GRow T k enc w N v l) (b : Nat) (c : α) (hx : a.eval x = .slice (some ⟨b, 0, none⟩) 1 1) (hr : ∀ j u, (enc c)[j]? = some u -> w.cell? ⟨b, j, none⟩ = some u) (hl : l.length ≤ 900000) (hN : N ≤ w.heap.size)
  (h : ∀ v' w', GRow T k enc w' N v' (l ++ [c]) -> w.grownBy w' v.ownBlock -> (v'.ownBlock = v.ownBlock ∨ v'.ownBlock = some w.heap.size) -> K (a.put o.dst v') w') : if Region.wanted o (yielded ops a.tmps) = true then Oper.wp Tryz.prog o a w K Q else E := by
 rw [if_pos (by simp [Region.wanted, hgd])]
 obtain ⟨ie, z, hie, hz, h1, h2, h3⟩ := hi
 obtain ⟨v', w', hr', ho', hg, _, hob⟩ := run_append_own_at (P := Tryz.prog) w N S o.type T ie z k bytes hu hie hz h1 h2 h3 hk0 v l.length (l.flatMap enc) hown ⟨b, 0, none⟩ 1 1 (enc c) (by rw [hk]; omega) (fun j u hj => by
   rw [Addr.add_mid, Nat.zero_add]
   exact hr j u hj) (h1c c) (by unfold maxLen; omega) (by
     have : (l.length + 1) * bytes ≤ 1000001 * 1000 := Nat.mul_le_mul (by omega) hby
     omega) hN
 unfold Oper.wp execOp
 simp only [ho, resolve, invoke, builtin, Sem.run_bind, Sem.run_pure, Result.andThen_ok, List.map_toArray, List.map_cons, List.map_nil, hs, hx, hr']
 refine h v' w' ?_ hg hob
 unfold GRow
 rw [List.length_append, List.flatMap_append]
 simpa using ho'
theorem zmw (x : V.Adv) (v : Value) (w : World) (hm : zg w) (hv : Affs w v x.aff) (hid : x.id.length ≤ maxLen) (hl : x.aff.length ≤ maxLen) :
  Calls Tryz.prog 13 #[advV x v] w fun e w' => e = .returned (.bool (V.qp x)) /\ Below w.heap.size w w' := by
 obtain ⟨pa, pc, rfl⟩ := hv.slice
 obtain ⟨hb, c0, c1, c2, c3⟩ := zbj x (.slice pa x.aff.length pc) w
 have HM := zwe (hm.below hb)
 have HV := zwe (hv.below hb)
 have HI : Hid ((⟨x.id.toArray⟩ : ByteArray).size ≤ maxLen) := zwe (by rw [yo]; exact hid)
 have HB := zwe hb
 have HBX : Hid (w.heap.size < (w.alloc (.cells #[.string ⟨x.id.toArray⟩, .int .i64 x.rev, .int .i64 x.sev, .slice pa x.aff.length pc] 29)).heap.size) := zwe (by simp)
 unfold maxLen at hl
 clear hm hv hid hb
 unfold advV
 go_enter Tryz.func13, Tryz.ntmps13
 go_wp2_with fail
 generalize w.alloc (.cells #[.string ⟨x.id.toArray⟩, .int .i64 x.rev, .int .i64 x.sev, .slice pa x.aff.length pc] 29) = w0 at *
 refine (zo5 ⟨x.id.toArray⟩ w0 HI.out).mono ?_
 rintro e w' ⟨rfl, hw'⟩
 obtain rfl := hw'.symm
 clear hw'
 rw [kn]
 by_cases g0 : V.xu x.id = true
 case neg =>
  exact zze
 rw [g0]
 by_cases g1 : 1 ≤ x.rev
 case neg =>
  have HR : Hid (V.qp x = false) := zwe (by
    rcases h : V.qp x with _ | _
    · rfl
    · have hp := V.jh h
      exact absurd hp.rev0 g1)
  have f1 : x.rev < 1 := by omega
  clear g1
  exact zzn
 have f1 : ¬ x.rev < 1 := by omega
 by_cases g2 : x.rev ≤ 1099511627776
 case neg =>
  exact zzj
 have f2 : ¬ (1099511627776 : Int) < x.rev := by omega
 by_cases g3 : 1 ≤ x.sev
 case neg =>
  have HR : Hid (V.qp x = false) := zwe (by
    rcases h : V.qp x with _ | _
    · rfl
    · have hp := V.jh h
      exact absurd hp.sev0 g3)
  have f3 : x.sev < 1 := by omega
  clear g3
  exact zzn
 have f3 : ¬ x.sev < 1 := by omega
 by_cases g4 : x.sev ≤ 10
 case neg =>
  exact zzm
 have f4 : ¬ (10 : Int) < x.sev := by omega
 by_cases g5 : x.aff.length ≤ 16
 case neg =>
  exact zzh
 have f5 : ¬ (16 : Int) < (x.aff.length : Int) := by omega
 have HOK : Hid (V.qp x = V.yu x.aff x.aff.length) := zwe (by
   unfold V.qp V.zhb
   rw [g0, decide_eq_true g1, decide_eq_true g2, decide_eq_true g3, decide_eq_true g4, decide_eq_true g5]
   rfl)
 clear g0 g1 g2 g3 g4
 go_wp2_with fail
 go_loopw [3] (fun iv W => ∃ k : Nat, k ≤ x.aff.length /\ iv = .int .i64 k /\ V.yu x.aff k = true /\ Below w0.heap.size w0 W) (fun iv _ => x.aff.length - (intOf iv).toNat)
 case atStart => exact ⟨0, Nat.zero_le _, rfl, rfl, zwh _ _⟩
 case round =>
  obtain ⟨k, hk, rfl, hto, hbr⟩ := hrel
  have HTO := zwe hto
  have HBR := zwe hbr
  have HBW := zwf HB hbr
  have c3r := zb hbr c3
  clear hto hbr
  by_cases hlt : k < x.aff.length
  ·obtain ⟨hwf, b, off, ua, uc, rfl, hblt, ha⟩ := HV.out.at k hlt
   have HVK := zwe (HV.out.below HBR.out)
   have HW := zwe hwf
   have HA := zwe (ha.below HBR.out)
   have HST := zwe (V.zb3 hlt)
   have HNO := zwe (V.zrs hlt)
   have HAT : Hid (V.zcb x.aff k x.aff[k] = ((decide (k = 0) || decide (V.affC (x.aff.getD (k - 1) V.zA) x.aff[k] < 0)) && V.kh x.aff[k])) := zwe rfl
   generalize x.aff[k] = a at *
   have HSD : Hid (V.kh a = (V.xg a.name && V.zdr a.sch a.rs a.its)) := zwe rfl
   have HAN : Hid ((⟨a.name.toArray⟩ : ByteArray).size ≤ maxLen) := zwe (by rw [yo]; exact HW.out.name)
   have e0 := HA.out.c0
   have e1 := HA.out.c1
   have e2 := HA.out.c2
   have e3 := HA.out.c3
   have i1 : (0 : Int) ≤ (k : Int) := by omega
   have i2 : (k : Int) < (x.aff.length : Int) := by omega
   have wr1 : IntKind.i64.wrap ((k : Int) + 1) = (k : Int) + 1 := IntWalk.i64_in _ (by omega)
   have hb2 : Below wr.heap.size wr (wr.alloc (.cells #[.int .i64 a.sch, .string ⟨a.name.toArray⟩, .int .i64 a.rs, .slice ua a.its.length uc] 47)) := (zwh _ wr).alloc (zwg _) _
   obtain ⟨_, d0, d1, d2, d3⟩ := zdh a (.slice ua a.its.length uc) wr
   have HA2 := zwe (HA.out.its.below hb2)
   have HB2 := zwf HBR hb2
   have HM2 := zwe (HM.out.below HB2.out)
   have HV2 := zwe (HVK.out.below hb2)
   clear hb2 hwf ha
   go_wp2_with fail
   generalize wr.alloc (.cells #[.int .i64 a.sch, .string ⟨a.name.toArray⟩, .int .i64 a.rs, .slice ua a.its.length uc] 47) = w2 at *
   generalize wr.heap.size = X at *
   clear e0 e1 e2 e3 c3r
   refine (zvy ⟨a.name.toArray⟩ w2 HM2.out HAN.out).mono ?_
   rintro e w3 ⟨rfl, hb3⟩
   rw [kn]
   have HB3 := zwf HB2 hb3
   have HM3 := zwe (HM2.out.below hb3)
   have HV3 := zwe (HV2.out.below hb3)
   have HA3 := zwe (HA2.out.below hb3)
   replace d0 := zb hb3 d0
   replace d1 := zb hb3 d1
   replace d2 := zb hb3 d2
   replace d3 := zb hb3 d3
   clear hb3 HA2 HV2 HM2 HB2 HA
   by_cases hp : V.xg a.name = true
   case neg =>
    have hp' : V.xg a.name = false := by simpa using hp
    have HR : Hid (V.qp x = false) := zwe (by rw [HOK.out]; exact HNO.out (by rw [HAT.out, HSD.out, hp']; simp))
    rw [hp']
    clear hp hp'
    go_wp2
    go_ret
    exact ⟨zc HR.out.symm, HB.out.trans (HB3.out.mono HB.out.size)⟩
   rw [hp]
   have HP := zwe hp
   clear hp
   go_wp2_with fail
   refine (zpn a.sch a.rs a.its ua uc w3 HM3.out HA3.out HW.out.lens HW.out.len).mono ?_
   rintro e w4 ⟨rfl, hb4⟩
   have HB4 := zwf HB3 hb4
   have HV4 := zwe (HV3.out.below hb4)
   replace d0 := zb hb4 d0
   replace d1 := zb hb4 d1
   clear hb4 HA3 HV3 HM3 HB3 d2 d3
   by_cases hg : V.zdr a.sch a.rs a.its = true
   case neg =>
    have hg' : V.zdr a.sch a.rs a.its = false := by simpa using hg
    have HR : Hid (V.qp x = false) := zwe (by rw [HOK.out]; exact HNO.out (by rw [HAT.out, HSD.out, hg']; simp))
    rw [hg']
    clear hg hg'
    go_wp2
    go_ret
    exact ⟨zc HR.out.symm, HB.out.trans (HB4.out.mono HB.out.size)⟩
   rw [hg]
   have HSO : Hid (V.kh a = true) := zwe (by rw [HSD.out, HP.out, hg]; rfl)
   rw [HSO.out] at HAT
   clear hg
   have hx3 := zb HB4.out c3
   rcases Nat.eq_zero_or_pos k with hk0 | hk0
   ·subst hk0
    have HY : Hid (V.yu x.aff (0 + 1) = true) := zwe (by rw [HST.out, HTO.out, HAT.out]; rfl)
    go_wp2_with fail
    refine wp_region_held_drew (S := (fun W' => Below w4.heap.size w4 W')) (by kernel_rfl) (by (try dsimp only); exact (zwh _ _).drew) (fun hHeld => ?_)
    refine tk 0 ?_
    refine tk 1 ?_
    refine tk 2 ?_
    refine tu 3 ?_
    refine tu 4 ?_
    refine tu 5 ?_
    refine tu 6 ?_
    refine tu 7 ?_
    refine tu 8 ?_
    refine tu 9 ?_
    refine tu 10 ?_
    refine tu 11 ?_
    refine tu 12 ?_
    refine tu 13 ?_
    refine tu 14 ?_
    refine tu 15 ?_
    refine tu 16 ?_
    refine tu 17 ?_
    refine tu 18 ?_
    refine tu 19 ?_
    refine tu 20 ?_
    refine tu 21 ?_
    refine tu 22 ?_
    refine tu 23 ?_
    refine tu 24 ?_
    refine tk 25 ?_
    refine wpAnyH_done (by kernel_rfl) ?_ _
    have HBE := zwe (HB4.out.trans ((show Below w4.heap.size w4 w4.drew from hHeld).mono HB4.out.size))
    clear hHeld
    exact z1r
   ·obtain ⟨j, hj⟩ : ∃ j, k = j + 1 := ⟨k - 1, by omega⟩
    have hjl : j < x.aff.length := by omega
    obtain ⟨_, b', off', up, ucp, e', _, hp⟩ := HV4.out.at j hjl
    cases e'
    have HPV : Hid (x.aff.getD (k - 1) V.zA = x.aff[j]) := zwe (by rw [hj, Nat.add_sub_cancel, List.getD_eq_getElem?_getD, List.getElem?_eq_getElem hjl]; rfl)
    rw [HPV.out] at HAT
    clear HPV
    generalize x.aff[j] = p at *
    have q0 := hp.c0
    have q1 := hp.c1
    have wk : IntKind.i64.wrap ((k : Int) - 1) = (j : Int) := by rw [hj, IntWalk.i64_in _ (by omega)]; omega
    have j1 : (0 : Int) ≤ (j : Int) := by omega
    have j2 : (j : Int) < (x.aff.length : Int) := by omega
    have k0 : (0 : Int) < (k : Int) := by omega
    have k1 : decide ((0 : Int) < (k : Int)) = true := decide_eq_true k0
    have k2 : decide (0 < k) = true := decide_eq_true hk0
    have k3 : 0 < k := hk0
    have HK0 : Hid (decide (k = 0) = false) := zwe (decide_eq_false (by omega))
    rw [HK0.out, Bool.false_or, Bool.and_true] at HAT
    clear hp hj HK0 hk0
    obtain ⟨r, hr⟩ : ∃ r, decide (V.affC p a < 0) = r := ⟨_, rfl⟩
    have HCE : Hid (decide (V.orI [Lib.compareInt p.sch a.sch, Lib.compareBytes p.name a.name] < 0) = r) := zwe hr
    rw [hr] at HAT
    clear hr c3
    have c3 := hx3
    clear hx3
    go_wp2_with fail
    refine wp_region_held_drew (S := (fun W' => Below w4.heap.size w4 W' /\ W'.cell? ⟨w.heap.size, 3, none⟩ = some (.slice (some ⟨b, off, none⟩) x.aff.length pc) /\ W'.cell? ⟨b, off + j * 4, none⟩ = some (.int .i64 p.sch) /\ W'.cell? ⟨b, off + j * 4 + 1, none⟩ = some (.string ⟨p.name.toArray⟩) /\ W'.cell? ⟨X, 0, none⟩ = some (.int .i64 a.sch) /\ W'.cell? ⟨X, 1, none⟩ = some (.string ⟨a.name.toArray⟩))) (by kernel_rfl) (by (try dsimp only); exact ⟨(zwh _ _).drew, zb (zwh _ _).drew c3, zb (zwh _ _).drew q0, zb (zwh _ _).drew q1, zb (zwh _ _).drew d0, zb (zwh _ _).drew d1⟩) (fun hHeld => ?_)
    refine tk 0 ?_
    refine tk 1 ?_
    refine tk 2 ?_
    refine tk 3 ?_
    refine tk 4 ?_
    refine tk 5 ?_
    refine wpAnyH_take (i := 6) (v := (.int .i64 (j : Int))) rfl (by kernel_rfl) (by kernel_rfl) (by kernel_rfl) (fun _ _ _ h => h) (Or.inl ⟨by rfl, fun w' hSw => by go_simp; try rfl⟩) (by assumption) ?_
    try simp only [zv9, zwa, zwb, Act.put, zwc, List.set_cons_succ, List.set_cons_zero]
    refine tk 7 ?_
    refine tk 8 ?_
    refine tk 9 ?_
    refine tk 10 ?_
    refine tk 11 ?_
    refine tk 12 ?_
    refine wpAnyH_take (i := 13) (v := (.int .i64 (j : Int))) rfl (by kernel_rfl) (by kernel_rfl) (by kernel_rfl) (fun _ _ _ h => h) (Or.inl ⟨by rfl, fun w' hSw => by go_simp; try rfl⟩) (by assumption) ?_
    try simp only [zv9, zwa, zwb, Act.put, zwc, List.set_cons_succ, List.set_cons_zero]
    refine tk 14 ?_
    refine tk 15 ?_
    refine tk 16 ?_
    refine tk 17 ?_
    refine tk 18 ?_
    refine tk 19 ?_
    refine tk 20 ?_
    refine tk 21 ?_
    refine tk 22 ?_
    refine rd 23 fun K hK => ?_
    go_simp
    refine (zij p.sch a.sch p.name a.name _).mono ?_
    rintro e wy23 ⟨rfl, hby23⟩
    try dsimp only
    rw [HCE.out]
    refine hK.out _ _ ?_ (fun hHeld => nx ?_)
    ·(try dsimp only); go_split_ands; exact ⟨Below.trans (by assumption) (hby23.mono (Below.size (by assumption))), zwk hby23, zwk hby23, zwk hby23, zwk hby23, zwk hby23⟩
    clear hK K
    refine tk 24 ?_
    refine tk 25 ?_
    refine wpAnyH_done (by kernel_rfl) ?_ _
    have HBE := zwe (HB4.out.trans ((show Below w4.heap.size w4 wy23 from hHeld.1).mono HB4.out.size))
    clear hHeld
    rcases r with _ | _
    ·have HR : Hid (V.qp x = false) := zwe (by rw [HOK.out]; exact HNO.out HAT.out)
     exact zz6
    ·have HY : Hid (V.yu x.aff (k + 1) = true) := zwe (by rw [HST.out, HTO.out, HAT.out]; rfl)
     exact z1q
  ·exact z0h
open Go.RowKit
def EncVZ (x : V.Adv) (w : World) (e : Ending) (w' : World) : Prop :=
 ((V.encV x).2 = 0 -> ∃ u N W0, e = .returned (.tuple #[u, .int .i64 0]) /\ BufZ N u (V.encV x).1 W0 w' /\ w.heap.size ≤ N) /\
 (¬ (V.encV x).2 = 0 -> e = .returned (.tuple #[.slice none 0 0, .int .i64 (V.encV x).2])) /\ Below w.heap.size w w'
theorem zdt (x : V.Adv) (v : Value) (w : World) (hm : zg w) (hp : zc6 w) (hv : Affs w v x.aff) (hid : x.id.length ≤ maxLen) (hl : x.aff.length ≤ maxLen) :
  Calls Tryz.prog 4 #[advV x v] w (EncVZ x w) := by
 obtain ⟨pa, pc, rfl⟩ := hv.slice
 obtain ⟨hb, c0, c1, c2, c3⟩ := zbj x (.slice pa x.aff.length pc) w
 have HM1 := zwe (hm.below hb)
 have HP1 := zwe (hp.below hb)
 have HV1 := zwe (hv.below hb)
 have HB1 := zwe hb
 have HL := zwe (And.intro hid hl)
 have H3 := zwe c3
 have hsz1 : (w.alloc (.cells #[.string ⟨x.id.toArray⟩, .int .i64 x.rev, .int .i64 x.sev, .slice pa x.aff.length pc] 29)).heap.size = w.heap.size + 1 := by simp
 have HSZ := zwe hsz1
 clear hm hp hv hid hl hb hsz1
 unfold advV
 go_enter Tryz.func4, Tryz.ntmps4
 go_wp2_with fail
 generalize w.alloc (.cells #[.string ⟨x.id.toArray⟩, .int .i64 x.rev, .int .i64 x.sev, .slice pa x.aff.length pc] 29) = W1 at *
 refine (zmw x (.slice pa x.aff.length pc) W1 HM1.out HV1.out HL.out.1 HL.out.2).mono ?_
 rintro e w2 ⟨rfl, hb2⟩
 replace c0 := zb hb2 c0
 replace c1 := zb hb2 c1
 replace c2 := zb hb2 c2
 replace c3 := zb hb2 c3
 have HP2 := zwe (HP1.out.below hb2)
 have HB2 := zwe hb2
 have HBW := zwf HB1 hb2
 clear hb2
 rcases hok : V.qp x with _ | _
 ·exact zzs
 ·have HEV : Hid (V.encV x = if V.encE (V.qi x) = 0 then (V.doc (V.qi x), 0) else ([], V.encE (V.qi x))) := zwe (by unfold V.encV; rw [if_pos hok])
  have HOK := zwe hok
  have HWD : Hid (∀ l ∈ V.qi x, ∀ u ∈ l, u.length ≤ maxLen) := zwe (fun l hm u hu => by have := (V.adv_words hok l hm).2 u hu; unfold maxLen; omega)
  have hpt := V.jh hok
  have HT : Hid (1 ≤ x.rev /\ x.rev ≤ 1099511627776 /\ 1 ≤ x.sev /\ x.sev ≤ 10) := zwe ⟨hpt.rev0, hpt.rev1, hpt.sev0, hpt.sev1⟩
  have HSN : Hid (∀ a ∈ x.aff, V.kh a = true) := zwe (fun a ha => hpt.sound ha)
  have hl16 := hpt.len
  clear hok hpt
  go_wp2_with fail
  refine wp_region_held_drew (S := (fun W' => W'.cell? ⟨w.heap.size, 0, none⟩ = some (.string ⟨x.id.toArray⟩) /\ W'.cell? ⟨w.heap.size, 1, none⟩ = some (.int .i64 x.rev) /\ W'.cell? ⟨w.heap.size, 2, none⟩ = some (.int .i64 x.sev))) (by kernel_rfl) (by (try dsimp only); exact ⟨zb (zwh _ w2).drew c0, zb (zwh _ w2).drew c1, zb (zwh _ w2).drew c2⟩) (fun hHeld => ?_)
  refine tk 0 ?_
  refine tk 1 ?_
  refine tk 2 ?_
  refine tk 3 ?_
  refine tk 5 ?_
  refine tk 6 ?_
  refine rd 4 fun K hK => ?_
  go_simp
  refine (zgi (by have := HT.out.1; omega) (by have := HT.out.2.1; omega) _).mono ?_
  rintro e wA ⟨rfl, hbA⟩
  try dsimp only
  have hbA2 := (zwh w2.heap.size w2).drew.trans hbA
  refine hK.out _ _ ?_ (fun hHeld => nx ?_)
  ·(try dsimp only); exact ⟨zb hbA hHeld.1, zb hbA hHeld.2.1, zb hbA hHeld.2.2⟩
  clear hK K
  refine rd 7 fun K hK => ?_
  go_simp
  refine (zgi (by have := HT.out.2.2.1; omega) (by have := HT.out.2.2.2; omega) _).mono ?_
  rintro e wB ⟨rfl, hbB⟩
  try dsimp only
  have hbB2 := hbA2.trans (hbB.mono hbA2.size)
  refine hK.out _ _ ?_ (fun hHeld => nx ?_)
  ·(try dsimp only); exact ⟨zb hbB hHeld.1, zb hbB hHeld.2.1, zb hbB hHeld.2.2⟩
  clear hK K
  refine rd 8 fun K hK => ?_
  refine zbi rfl _ _ _ _ rfl V.advW x.id (Lib.decDigits x.rev.toNat) (Lib.decDigits x.sev.toNat) rfl rfl rfl rfl ?_
  refine hK.out _ _ ?_ (fun hHeld => nx ?_)
  ·exact zyf
  clear hK K
  refine rd 9 fun K hK => ?_
  have hbC : Below w2.heap.size w2 (wB.alloc (.cells (ul [V.advW, x.id, Lib.decDigits x.rev.toNat, Lib.decDigits x.sev.toNat]) 9)) := hbB2.alloc hbB2.size _
  refine zbf rfl _ rfl ⟨some ⟨wB.heap.size, 0, none⟩, 4, 4⟩ rfl ?_
  refine hK.out _ _ ?_ (fun hHeld => nx ?_)
  ·exact zyf
  clear hK K
  refine tk 10 ?_
  refine wpAnyH_done (by kernel_rfl) ?_ _
  have hu0 := zcl wB [V.advW, x.id, Lib.decDigits x.rev.toNat, Lib.decDigits x.sev.toNat]
  have hsC : (wB.alloc (.cells (ul [V.advW, x.id, Lib.decDigits x.rev.toNat, Lib.decDigits x.sev.toNat]) 9)).heap.size = wB.heap.size + 1 := by simp
  have hw2z : w.heap.size + 1 ≤ w2.heap.size := by rw [← HSZ.out]; exact HB2.out.size
  have hlr := LRow.one (N := w.heap.size + 1) (u := ⟨some ⟨wB.heap.size, 0, none⟩, 4, 4⟩) (by change _ ≤ (wB.alloc (.cells (ul [V.advW, x.id, Lib.decDigits x.rev.toNat, Lib.decDigits x.sev.toNat]) 9)).heap.size; rw [hsC]; have := hbB2.size; omega) hu0 (by simp)
  have hbD := hbC.alloc hbC.size (.cells #[(⟨some ⟨wB.heap.size, 0, none⟩, 4, 4⟩ : Lsl).v] 41)
  have hbE := HB2.out.trans (hbD.mono HB2.out.size)
  rw [HSZ.out] at hbE
  have y3 := zb hbD c3
  have HS0 : Hid (EncS (w.heap.size + 1) W1 (.slice (some ⟨wB.heap.size + 1, 0, none⟩) 1 1) (V.jw x 0) ((wB.alloc (.cells (ul [V.advW, x.id, Lib.decDigits x.rev.toNat, Lib.decDigits x.sev.toNat]) 9)).alloc (.cells #[(⟨some ⟨wB.heap.size, 0, none⟩, 4, 4⟩ : Lsl).v] 41))) := zwe ⟨⟨_, by rw [← hsC]; exact hlr⟩, hbE, by have := hbD.size; omega⟩
  change Exit.then _ _ _ _ ((wB.alloc (.cells (ul [V.advW, x.id, Lib.decDigits x.rev.toNat, Lib.decDigits x.sev.toNat]) 9)).alloc (.cells #[(⟨some ⟨wB.heap.size, 0, none⟩, 4, 4⟩ : Lsl).v] 41))
  try simp only [World.size_alloc]
  clear hu0 hlr hbE hHeld c0 c1 c2 hw2z hbA hbA2 hbB hbB2 hbC hbD c3
  generalize (wB.alloc (.cells (ul [V.advW, x.id, Lib.decDigits x.rev.toNat, Lib.decDigits x.sev.toNat]) 9)).alloc (.cells #[(⟨some ⟨wB.heap.size, 0, none⟩, 4, 4⟩ : Lsl).v] 41) = W4 at *
  clear hsC
  generalize wB.heap.size + 1 = b4 at *
  go_wp2
  go_loopw [4, 5] (fun ov iv wx => ∃ k : Nat, k ≤ x.aff.length /\ iv = .int .i64 k /\ EncS (w.heap.size + 1) W1 ov (V.jw x k) wx) (fun _ iv _ => x.aff.length - (intOf iv).toNat)
  case atStart => exact ⟨0, Nat.zero_le _, rfl, HS0.out⟩
  case round =>
   obtain ⟨k, hk, rfl, hes⟩ := hrel
   obtain ⟨us, hrow⟩ := hes.row
   obtain ⟨oa, oc, rfl⟩ := hrow.slice
   have HR := zwe hrow
   have HBR := zwe hes.below
   have hNs := hes.size
   clear hrow hes HS0 y3
   have c3r : wr.cell? ⟨w.heap.size, 3, none⟩ = some (.slice pa x.aff.length pc) := (HBR.out.cell (p := ⟨w.heap.size, 3, none⟩) (Nat.lt_succ_self _)).trans H3.out
   by_cases hlt : k < x.aff.length
   ·obtain ⟨hwf, b, off, ua, uc, rfl, hblt, ha⟩ := HV1.out.at k hlt
    have HBR1 : Hid (Below W1.heap.size W1 wr) := zwe (by rw [HSZ.out]; exact HBR.out)
    have HW := zwe hwf
    have HA := zwe (ha.below HBR1.out)
    have HST := zwe (V.zfo hlt)
    have hso := HSN.out x.aff[k] (List.getElem_mem hlt)
    have HFM : Hid (V.yk x.aff[k].rs x.aff[k].its = (V.xm x.aff[k].its, 0)) := zwe (by
      obtain ⟨_, h2, _, h4⟩ := V.yq hso
      unfold V.yk
      rw [h2, if_pos h4])
    have HLA : Hid (V.uw x.aff[k] = [V.affW, V.qb x.aff[k].sch, x.aff[k].name, V.xm x.aff[k].its]) := zwe rfl
    rw [HLA.out] at HST
    have hi1 : (0 : Int) ≤ (k : Int) := by omega
    have hi2 : (k : Int) < (x.aff.length : Int) := by omega
    have wr1 : IntKind.i64.wrap ((k : Int) + 1) = (k : Int) + 1 := IntWalk.i64_in _ (by omega)
    clear hwf ha hso HLA
    generalize x.aff[k] = a at *
    have e0 := HA.out.c0
    have e1 := HA.out.c1
    have e2 := HA.out.c2
    have e3 := HA.out.c3
    obtain ⟨hbZ, x0, x1, x2, x3⟩ := zdh a (.slice ua a.its.length uc) wr
    have HIZ := zwe (HA.out.its.below hbZ)
    have HRZ := zwe (HR.out.later hbZ)
    have HBZ := zwe (HBR.out.trans (hbZ.mono hNs))
    have HMZ := zwe (HM1.out.below (HBR1.out.trans (hbZ.mono HBR1.out.size)))
    have hzZ := hbZ.size
    have HXB : Hid (some wr.heap.size = (Value.slice oa (V.jw x k).length oc).ownBlock -> False) := zwe (fun e => by
      have := HR.out.row.lt _ e.symm
      omega)
    clear hbZ HR HBR HBR1
    go_wp2_with fail
    generalize wr.alloc (.cells #[.int .i64 a.sch, .string ⟨a.name.toArray⟩, .int .i64 a.rs, .slice ua a.its.length uc] 47) = wz at *
    generalize wr.heap.size = X at *
    clear e0 e1 e2 e3
    refine (zo3 a.rs (.slice ua a.its.length uc) a.its wz HMZ.out HIZ.out HW.out.lens HW.out.len).mono ?_
    rintro e wF ⟨rfl, hbF⟩
    rw [HFM.out]
    replace x0 := zb hbF x0
    replace x1 := zb hbF x1
    replace HRZ := zwe (HRZ.out.later hbF)
    replace HBZ := zwe (HBZ.out.trans (hbF.mono (by omega)))
    have hzF := hbF.size
    have hNz : w.heap.size + 1 ≤ wF.heap.size := by omega
    clear hbF HIZ HMZ x2 x3
    go_wp2_with fail
    refine wp_region_held_drew (S := (fun W' => W'.cell? ⟨X, 0, none⟩ = some (.int .i64 a.sch) /\ W'.cell? ⟨X, 1, none⟩ = some (.string ⟨a.name.toArray⟩))) (by kernel_rfl) (by (try dsimp only); exact ⟨zb (zwh _ wF).drew x0, zb (zwh _ wF).drew x1⟩) (fun hHeld => ?_)
    refine tk 0 ?_
    refine tk 1 ?_
    refine tk 2 ?_
    refine tk 4 ?_
    refine tk 5 ?_
    refine tk 6 ?_
    refine rd 3 fun K hK => ?_
    go_simp
    refine (zin a.sch wF.drew).mono ?_
    exact zww
   ·obtain rfl : k = x.aff.length := by omega
    have HLN := zwe HR.out.lines
    have HSZ : Hid (w.heap.size ≤ wr.heap.size) := zwe (Nat.le_trans HB1.out.size HBR.out.size)
    go_wp2_with fail
    refine (zii _ (V.qi x) wr HLN.out HWD.out (V.adv_sz HOK.out)).mono ?_
    intro e w3 he
    have HBE : Hid (Below w.heap.size w w3) := zwe (HB1.out.trans ((HBR.out.trans (he.2.2.mono hNs)).mono (by omega)))
    by_cases hz : V.encE (V.qi x) = 0
    ·obtain ⟨u, rfl, hbuf⟩ := he.1 hz
     have HE2 : Hid (V.encV x = (V.doc (V.qi x), 0)) := zwe (by rw [HEV.out, if_pos hz])
     have HBF := zwe hbuf
     clear he hz hbuf
     go_wp2
     go_ret2
     exact ⟨fun _ => ⟨u, wr.heap.size, wr, rfl, by rw [HE2.out]; exact HBF.out, HSZ.out⟩, fun h => absurd (by rw [HE2.out]) h, HBE.out⟩
    ·exact zyv
theorem zmk (x : V.Adv) (v : Value) (w : World) (hm : zg w) (hp : zc6 w) (hv : Affs w v x.aff) (hid : x.id.length ≤ maxLen) (hl : x.aff.length ≤ maxLen) :
  Calls Tryz.prog 4 #[advV x v] w (EncV x w) := by
 refine (zdt x v w hm hp hv hid hl).mono ?_
 intro e w' h
 refine ⟨fun hz => ?_, h.2⟩
 obtain ⟨u, N, W0, he, hb, _⟩ := h.1 hz
 exact ⟨u, N, W0, he, hb.buf⟩
end Go.Proofs.YtcfbkcapbbhmpaaGreatDoor
