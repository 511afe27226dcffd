/-
  Lemmas for the law.
-/
import Derived.Test.YtnhfaincdabdkaaGreatDoorC36x39
import Derived.Test.YtnhfaincdabdkaaGreatDoorC36x40
import Derived.Test.YtnhfaincdabdkaaGreatDoorC36x42
import Derived.Test.YtnhfaincdabdkaaGreatDoorC36x34
import Derived.Test.YtnhfaincdabdkaaGreatDoorC36x22
import Derived.Test.YtnhfaincdabdkaaGreatDoorC36x43
import Derived.Test.YtnhfaincdabdkaaGreatDoorC36x15
set_option linter.all false
set_option maxRecDepth 100000
set_option maxHeartbeats 6400000
namespace Go.Proofs.YtnhfaincdabdkaaGreatDoor
open Go.RowKit
def zp6 (b : V.Bs) (w : World) (e : Ending) (w' : World) : Prop :=
 ∃ u, e = .returned (.tuple #[advV (V.decV b).1 u, .int .i64 (V.decV b).2]) /\ Affs w' u (V.decV b).1.aff /\ Below w.heap.size w w'
theorem znk {w : World} {v : Value} {bs : V.Bs} (h : zba w v bs) (h0 : 0 < bs.length) : (convert 22 9 v).run Tryz.prog w = .ok (.string ⟨bs.toArray⟩) w := by
 obtain ⟨a, cap, rfl, _, hat⟩ := h
 obtain ⟨b, off, rfl, _, _⟩ := hat 0 h0
 refine zi9 w b off bs.length cap bs rfl (fun j hj => ?_)
 obtain ⟨b', off', e, _, hc⟩ := hat j hj
 cases e
 exact hc
theorem V.readFs_len : ∀ {R : List (List V.Bs)} {l : List V.Aff}, V.xe R = some l -> l.length = R.length
 | [], l, h => by cases h; rfl
 | x :: R, l, h => by
  rw [V.xe] at h
  split at h
  ·obtain ⟨l', h1, rfl⟩ := Option.map_eq_some_iff.1 h
   rw [List.length_cons, List.length_cons, V.readFs_len h1]
  ·cases h
theorem V.readV_facts {ls : List (List V.Bs)} (hw : ∀ l ∈ ls, ∀ x ∈ l, x.length ≤ 32768) (hn : ls.length ≤ 1000) {x : V.Adv} (h : V.ke ls = some x) : x.id.length ≤ maxLen /\ x.aff.length ≤ maxLen := by
 unfold V.ke at h
 split at h
 ·rename_i a i r s rest
  split at h
  ·obtain ⟨l, h1, rfl⟩ := Option.map_eq_some_iff.1 h
   have h2 := hw _ (List.mem_cons_self ..) i (by simp)
   have h3 := V.readFs_len h1
   rw [List.length_cons] at hn
   exact ⟨by show i.length ≤ maxLen; unfold maxLen; omega, by show l.length ≤ maxLen; unfold maxLen; omega⟩
  ·cases h
 ·cases h
theorem V.doc_pos {x : V.Adv} : 0 < (V.doc (V.qv x)).length := by
 have : V.doc (V.qv x) = V.line (V.xd x) ++ V.doc ((x.aff.take x.aff.length).map V.uw) := rfl
 rw [this, List.length_append]
 have : 0 < (V.line (V.xd x)).length := by unfold V.line; simp
 omega
theorem zv4 {P : Prop} (h : P := by
 go_wp2_with (first | (refine ku rfl qt _ _ rfl w.heap.size #[.string ⟨#[]⟩, .int .i64 0, .int .i64 0, .slice none 0 0] 41 HK4.out rfl (.string ⟨#[]⟩) (.int .i64 0) (.int .i64 0) (.slice none 0 0) ⟨rfl, rfl, rfl, rfl⟩ rfl rfl ?_) | fail)
 exact HEX.out 1 _ HE.out HK4.out HB4.out _ Tryz.results28 _ rfl rfl rfl) : P := h
theorem zk5 (v : Value) (bs : V.Bs) (w : World) (hm : zg w) (hp : zer w) (hv : zba w v bs) (hl : bs.length ≤ maxLen) :
  Calls Tryz.prog 28 #[v] w (zp6 bs w) := by
 obtain ⟨hb0, hk0, hz0⟩ := zkb w
 have HM := zuy hm
 have HP := zuy hp
 have HB0 := zuy hb0
 have HK0 := zuy hk0
 have HZ0 := zuy hz0
 have HV := zuy (hv.below hb0)
 have HLB := zuy hl
 have HEX : Hid (∀ (k : Int) (W : World), V.decV bs = (V.zV, k) -> W.heap[w.heap.size]? = some (.cells #[.string ⟨#[]⟩, .int .i64 0, .int .i64 0, .slice none 0 0] 41 (0, 0)) -> Below w.heap.size w W ->
     ∀ fn : Func, fn.results = #[.cell 2 41, .tmp 3] -> ∀ a : Act, a.tmps.getD 2 undef = .pointer (some ⟨w.heap.size, 0, none⟩) -> a.tmps.getD 3 undef = .int .i64 k -> a.defers = [] ->
     bodyPost Tryz.prog fn (zp6 bs w) .ret a (W.setRow w.heap.size #[.string ⟨#[]⟩, .int .i64 0, .int .i64 0, .slice none 0 0])) := zuy (by
   intro k W hr hg hb fn hfn a h4 h5 h6
   refine bodyPost_ret (kl hfn h4 h5 (zdb Tryz.underlying41 qt (setRow_heap _ _ _ _ _ _ hg))) h6 ?_
   exact ⟨.slice none 0 0, by rw [hr]; rfl, by rw [hr]; exact Affs.nil _, qy hb _ _ (zu0 _) (Array.getElem?_eq_some_iff.1 hg).1⟩)
 obtain ⟨va, vc, rfl⟩ : ∃ va vc, v = .slice va bs.length vc := by obtain ⟨a, c, e, _⟩ := hv; exact ⟨a, c, e⟩
 clear hm hp hv hl hb0 hk0 hz0
 go_enter Tryz.func28, Tryz.ntmps28
 go_wp2_with fail
 generalize w.alloc (.cells #[.string ⟨#[]⟩, .int .i64 0, .int .i64 0, .slice none 0 0] 41) = w0 at *
 refine (zlb (.slice va bs.length vc) bs w0 (HM.out.below HB0.out) HV.out HLB.out).mono ?_
 rintro e w1 ⟨u, rfl, hu, hcap, hb1⟩
 have HB1 := zuz HB0 hb1
 have HK1 := zuy ((hb1.block _ (by have := HZ0.out; omega)).trans HK0.out)
 have HZ1 : Hid (w.heap.size + 1 ≤ w1.heap.size) := zuy (by have := hb1.size; have := HZ0.out; omega)
 have HU := zuy hu
 have HCP := zuy hcap
 have HV1 := zuy (HV.out.below hb1)
 have HWD := zuy (V.decP_words (bs := bs))
 have HLN := zuy (V.decP_len bs)
 clear hb1 hu hcap HB0 HK0 HZ0 HV
 obtain ⟨⟨ls, c⟩, hdp⟩ : ∃ p, V.decP bs = p := ⟨_, rfl⟩
 rw [hdp] at HU HWD HLN ⊢
 simp only at HU HWD HLN ⊢
 have HDP := zuy hdp
 clear hdp
 obtain ⟨ua, uc, rfl⟩ : ∃ ua uc, u = .slice ua ls.length uc := by obtain ⟨a, c, e, _⟩ := HU.out; exact ⟨a, c, e⟩
 by_cases hc : c = 0
 case neg =>
  have HE := zuy (V.decV_err HDP.out hc)
  have hcb : (c != 0) = true := by simp [hc]
  go_wp2_with (first | (refine ku rfl qt _ _ rfl w.heap.size #[.string ⟨#[]⟩, .int .i64 0, .int .i64 0, .slice none 0 0] 41 HK1.out rfl (.string ⟨#[]⟩) (.int .i64 0) (.int .i64 0) (.slice none 0 0) ⟨rfl, rfl, rfl, rfl⟩ rfl rfl ?_) | fail)
  exact HEX.out c _ HE.out HK1.out HB1.out _ Tryz.results28 _ rfl rfl rfl
 subst hc
 have HNO : Hid (V.ke ls = none -> V.decV bs = (V.zV, 2)) := zuy (fun h => V.zuo HDP.out h)
 have HYES : Hid (∀ x, V.ke ls = some x -> V.decV bs = if (V.encV x).2 = 0 /\ (V.encV x).1 = bs then (x, 0) else (V.zV, 1)) := zuy (fun x h => V.zmy HDP.out h)
 have HRF : Hid (∀ x, V.ke ls = some x -> x.id.length ≤ maxLen /\ x.aff.length ≤ maxLen) := zuy (fun x h => V.readV_facts HWD.out HLN.out h)
 have HBS : Hid (∀ x, V.ke ls = some x -> 0 < bs.length) := zuy (fun x h => by
   rcases Nat.eq_zero_or_pos bs.length with e | e
   · have e2 := List.eq_nil_of_length_eq_zero e
     have h1 := HDP.out
     rw [e2, V.zq7] at h1
     cases h1
     cases h
   · exact e)
 go_wp2_with fail
 refine (zpm (.slice ua ls.length uc) ls w1 (HM.out.below HB1.out) HU.out HCP.out HWD.out HLN.out).mono ?_
 rintro e w2 ⟨u2, us, rfl, ⟨hrow, hmap, hown⟩, hb2⟩
 obtain ⟨p2, q2, hu2⟩ := hrow.affs.slice
 rw [hmap] at hu2
 subst hu2
 unfold advV
 have HB2 := zuz HB1 hb2
 have HK2 := zuy ((hb2.block _ (by have := HZ1.out; omega)).trans HK1.out)
 have HZ2 : Hid (w.heap.size + 1 ≤ w2.heap.size) := zuy (by have := hb2.size; have := HZ1.out; omega)
 have HR2 := zuy hrow
 have HMP := zuy hmap
 have HOW := zuy hown
 have HV2 := zuy (HV1.out.below hb2)
 clear hb2 hrow hmap hown HB1 HK1 HV1 HU HCP HDP HWD HLN
 obtain ⟨x, hx⟩ : ∃ x, (V.ke ls).getD V.zV = x := ⟨_, rfl⟩
 obtain ⟨ok, hok⟩ : ∃ ok, (V.ke ls).isSome = ok := ⟨_, rfl⟩
 rw [hx, hok]
 rw [hx] at HMP HR2
 have HX := zuy hx
 have HO := zuy hok
 clear hx hok
 obtain ⟨hb3, d0, d1, d2, d3⟩ := zf0 x (.slice p2 x.aff.length q2) w2
 have HB3 := zuz HB2 hb3
 have HK3 := zuy ((hb3.block _ (by have := HZ2.out; omega)).trans HK2.out)
 have HR3 := zuy (HR2.out.later hb3)
 have HV3 := zuy (HV2.out.below hb3)
 have HM3 := zuy (HM.out.below HB3.out)
 have HP3 := zuy (HP.out.below HB3.out)
 have HXW : Hid (w.heap.size + 1 ≤ w2.heap.size) := HZ2
 clear hb3 HB2 HK2 HR2 HV2 HM HP
 rcases ok with _ | _
 ·have HE := zuy (HNO.out (by cases h : V.ke ls with | none => rfl | some y => have := HO.out; rw [h] at this; cases this))
  go_wp2_with (first | (refine ku rfl qt _ _ rfl w.heap.size #[.string ⟨#[]⟩, .int .i64 0, .int .i64 0, .slice none 0 0] 41 HK3.out rfl (.string ⟨#[]⟩) (.int .i64 0) (.int .i64 0) (.slice none 0 0) ⟨rfl, rfl, rfl, rfl⟩ rfl rfl ?_) | fail)
  exact HEX.out 2 _ HE.out HK3.out HB3.out _ Tryz.results28 _ rfl rfl rfl
 ·have hrv : V.ke ls = some x := by
   cases h : V.ke ls with
   | none => have := HO.out; rw [h] at this; cases this
   | some y => have := HX.out; rw [h] at this; exact congrArg some this
  have HY := zuy (HYES.out x hrv)
  have HF := zuy (HRF.out x hrv)
  have HBP := zuy (HBS.out x hrv)
  have HAF : Hid (Affs (w2.alloc (.cells #[.string ⟨x.id.toArray⟩, .int .i64 x.rev, .int .i64 x.sev, .slice p2 x.aff.length q2] 41)) (.slice p2 x.aff.length q2) x.aff) := zuy (by have := HR3.out.affs; rwa [HMP.out] at this)
  clear hrv HYES HRF HBS HNO HO HX
  go_wp2_with fail
  generalize w2.alloc (.cells #[.string ⟨x.id.toArray⟩, .int .i64 x.rev, .int .i64 x.sev, .slice p2 x.aff.length q2] 41) = w3 at *
  generalize w2.heap.size = X at *
  refine (vw x (.slice p2 x.aff.length q2) w3 HM3.out HP3.out HAF.out HF.out.1 HF.out.2).mono ?_
  intro e w4 he
  have hb4 := he.2.2
  have HB4 := zuz HB3 hb4
  have HK4 := zuy ((hb4.block _ (by have := HB3.out.size; have := (Array.getElem?_eq_some_iff.1 HK3.out).1; omega)).trans HK3.out)
  have HR4 := zuy (HR3.out.later hb4)
  have HV4 := zuy (HV3.out.below hb4)
  replace d0 := zb hb4 d0
  replace d1 := zb hb4 d1
  replace d2 := zb hb4 d2
  replace d3 := zb hb4 d3
  clear hb4 HB3 HK3 HR3 HV3 HM3 HP3 HAF
  by_cases hz : (V.encV x).2 = 0
  case neg =>
   have hq := he.2.1 hz
   subst hq
   have HE : Hid (V.decV bs = (V.zV, 1)) := zuy (by rw [HY.out, if_neg (fun e => hz e.1)])
   have hzb : ((V.encV x).2 != 0) = true := by simp [hz]
   clear he
   generalize (V.encV x).2 = ee at *
   exact zv4
  obtain ⟨u4, N4, W4, rfl, hbuf⟩ := he.1 hz
  have h1 := zi3 hbuf (by rw [(V.znc hz).2.2]; exact V.doc_pos)
  have h2 := znk HV4.out HBP.out
  obtain ⟨a4, c4, rfl⟩ := hbuf.slice
  have H1 := zuy h1
  have H2 := zuy h2
  have HZ := zuy hz
  clear he h1 h2 hbuf hz
  generalize hD : (V.encV x).1 = D at *
  have HD := zuy hD
  clear hD
  go_wp2_with fail
  refine (Tryz.bytes_Equal_strs _ _ ⟨D.toArray⟩ ⟨bs.toArray⟩ w4 H1.out H2.out).mono ?_
  rintro e w' ⟨rfl, hw'⟩
  obtain rfl := hw'.symm
  clear hw'
  by_cases heq : D = bs
  case neg =>
   have hb : ((⟨D.toArray⟩ : ByteArray).toList == (⟨bs.toArray⟩ : ByteArray).toList) = false := by
    rw [Lib.toList_data, Lib.toList_data, ww, ww, zu2]; exact heq
   have HE : Hid (V.decV bs = (V.zV, 1)) := zuy (by rw [HY.out, if_neg (fun e => heq e.2)])
   rw [hb]
   clear hb heq
   exact zv4
  ·have hb : ((⟨D.toArray⟩ : ByteArray).toList == (⟨bs.toArray⟩ : ByteArray).toList) = true := by
    rw [heq]; simp
   have HE : Hid (V.decV bs = (x, 0)) := zuy (by rw [HY.out, if_pos ⟨HZ.out, heq⟩])
   rw [hb]
   clear hb heq
   go_wp2_with (first | (refine ku rfl qt _ _ rfl w.heap.size #[.string ⟨#[]⟩, .int .i64 0, .int .i64 0, .slice none 0 0] 41 HK4.out rfl (.string ⟨x.id.toArray⟩) (.int .i64 x.rev) (.int .i64 x.sev) (.slice p2 x.aff.length q2) ⟨rfl, rfl, rfl, rfl⟩ rfl rfl ?_) | fail)
   refine bodyPost_ret (v := .tuple #[.agg #[.string ⟨x.id.toArray⟩, .int .i64 x.rev, .int .i64 x.sev, .slice p2 x.aff.length q2], .int .i64 0]) (kl Tryz.results28 rfl rfl (zdb Tryz.underlying41 qt (setRow_heap _ _ _ _ _ _ HK4.out))) rfl ?_
   refine ⟨.slice p2 x.aff.length q2, by rw [HE.out]; rfl, ?_, qy HB4.out _ _ (zu0 _) (Array.getElem?_eq_some_iff.1 HK4.out).1⟩
   rw [HE.out]
   have hbk := GRow.block HR4.out.row
   have := (HR4.out.kept (qd w4 w.heap.size #[.string ⟨x.id.toArray⟩, .int .i64 x.rev, .int .i64 x.sev, .slice p2 x.aff.length q2]) (fun e => by have h1 := hbk _ e; have h2 := HZ1.out; omega) (fun p hp c hc => by have h1 := HOW.out p hp c hc; have h2 := HZ1.out; omega)).affs
   rwa [HMP.out] at this
namespace V
def zg7 (n : Int) (s : Bs) (a : Aff) : Bool := decide (a.sch = n) && decide (a.name = s)
def covP (x : Adv) (n : Int) (s v : Bs) : Bool := match x.aff.find? (zg7 n s) with
 | none => false
 | some a => jy a.rs a.its v && ka x
theorem zsx {p : Aff -> Bool} : ∀ {l : List Aff} {k : Nat} (hk : k < l.length), (∀ j (h : j < l.length), j < k -> p l[j] = false) -> p l[k] = true -> l.find? p = some l[k]
 | a :: l, 0, _, _, h => by simp at h; simp [h]
 | a :: l, k + 1, hk, hn, h => by
  have h0 := hn 0 (by simp) (by omega)
  simp only [List.getElem_cons_zero] at h0
  rw [List.find?_cons_of_neg (by rw [h0]; simp)]
  simp only [List.getElem_cons_succ] at h ⊢
  exact zsx (by simpa using hk) (fun j hj hjk => by have := hn (j + 1) (by simpa using hj) (by omega); simpa using this) h
theorem find_no {p : Aff -> Bool} {l : List Aff} (h : ∀ j (hj : j < l.length), p l[j] = false) : l.find? p = none := by
 rw [List.find?_eq_none]
 intro a ha
 obtain ⟨j, hj, rfl⟩ := List.mem_iff_getElem.1 ha
 rw [h j hj]; simp
end V
theorem zyw {P : Prop} (h : P := by
 go_wp2
 go_roundw
 case rel => exact ⟨k + 1, by omega, by go_num, HNY.out, HB2.out⟩
 case measure => simp [intOf]; omega) : P := h
theorem zk6 (x : V.Adv) (v : Value) (n : Int) (s ver : V.Bs) (w : World) (hm : zg w) (hv : Affs w v x.aff) (hid : x.id.length ≤ maxLen) (hl : x.aff.length ≤ maxLen) (hs : ver.length ≤ maxLen) :
  Calls Tryz.prog 38 #[advV x v, .int .i64 n, .string ⟨s.toArray⟩, .string ⟨ver.toArray⟩] w fun e w' => e = .returned (.bool (V.covP x n s ver)) /\ Below w.heap.size w w' := by
 obtain ⟨pa, pc, rfl⟩ := hv.slice
 obtain ⟨hb, c0, c1, c2, c3⟩ := zf0 x (.slice pa x.aff.length pc) w
 have HM := zuy (hm.below hb)
 have HV := zuy (hv.below hb)
 have HB := zuy hb
 have HI := zuy (And.intro hid (And.intro hl hs))
 unfold maxLen at hl
 clear hm hv hid hb hs
 unfold advV
 go_enter Tryz.func38, Tryz.ntmps38
 go_wp2_with fail
 generalize w.alloc (.cells #[.string ⟨x.id.toArray⟩, .int .i64 x.rev, .int .i64 x.sev, .slice pa x.aff.length pc] 41) = w0 at *
 go_loopw [14] (fun iv W => ∃ k : Nat, k ≤ x.aff.length /\ iv = .int .i64 k /\ (∀ j (h : j < x.aff.length), j < k -> V.zg7 n s x.aff[j] = false) /\ Below w0.heap.size w0 W) (fun iv _ => x.aff.length - (intOf iv).toNat)
 case atStart => exact ⟨0, Nat.zero_le _, rfl, (fun j _ h => absurd h (Nat.not_lt_zero _)), zu1 _ _⟩
 case round =>
  obtain ⟨k, hk, rfl, hno, hbr⟩ := hrel
  have HNO := zuy hno
  have HBR := zuy hbr
  clear hno hbr
  by_cases hlt : k < x.aff.length
  ·obtain ⟨hwf, b, off, ua, uc, rfl, hblt, ha⟩ := HV.out.at k hlt
   have HVR := zuy (HV.out.below HBR.out)
   have HW := zuy hwf
   have HA := zuy (ha.below HBR.out)
   have HAT := zuy (V.zsx (p := V.zg7 n s) hlt HNO.out)
   have HNX : Hid (V.zg7 n s x.aff[k] = false -> ∀ j (h : j < x.aff.length), j < k + 1 -> V.zg7 n s x.aff[j] = false) := zuy (fun hf j h hj => by
     by_cases e : j = k
     · subst e; exact hf
     · exact HNO.out j h (by omega))
   generalize x.aff[k] = a at *
   have HPK : Hid (V.zg7 n s a = (decide (a.sch = n) && decide (a.name = s))) := zuy rfl
   have e0 := HA.out.c0
   have e1 := HA.out.c1
   have e2 := HA.out.c2
   have e3 := HA.out.c3
   have i1 : (0 : Int) ≤ (k : Int) := by omega
   have i2 : (k : Int) < (x.aff.length : Int) := by omega
   have wr1 : IntKind.i64.wrap ((k : Int) + 1) = (k : Int) + 1 := IntWalk.i64_in _ (by omega)
   obtain ⟨hb2, d0, d1, d2, d3⟩ := zfm a (.slice ua a.its.length uc) wr
   have HIT := zuy (HA.out.its.below hb2)
   have HB2 := zuz HBR hb2
   have HM2 := zuy (HM.out.below HB2.out)
   have HV2 := zuy (HVR.out.below hb2)
   have b0 := zb HB2.out c0
   have b1 := zb HB2.out c1
   have b2 := zb HB2.out c2
   have b3 := zb HB2.out c3
   clear hb2 hwf ha HA HVR
   by_cases hp : V.zg7 n s a = true
   ·have HFI : Hid (V.covP x n s ver = (V.jy a.rs a.its ver && V.ka x)) := zuy (by unfold V.covP; rw [HAT.out hp])
    rw [HPK.out, Bool.and_eq_true, decide_eq_true_eq, decide_eq_true_eq] at hp
    have q1 : (a.sch == n) = true := by simpa using hp.1
    have q2 : (a.name == s) = true := by simpa using hp.2
    have q3 := hp.1
    have q4 := hp.2
    clear hp HNX HAT HPK
    subst q3
    subst q4
    go_wp2_with fail
    generalize wr.alloc (.cells #[.int .i64 a.sch, .string ⟨a.name.toArray⟩, .int .i64 a.rs, .slice ua a.its.length uc] 50) = w2 at *
    refine (zi8 a.rs (.slice ua a.its.length uc) a.its ver w2 HM2.out HIT.out HW.out.lens HW.out.len HI.out.2.2).mono ?_
    rintro e w3 ⟨rfl, hb3⟩
    have HB3 := zuz HB2 hb3
    have HM3 := zuy (HM2.out.below hb3)
    have HV3 := zuy (HV2.out.below hb3)
    replace b0 := zb hb3 b0
    replace b1 := zb hb3 b1
    replace b2 := zb hb3 b2
    replace b3 := zb hb3 b3
    clear hb3
    rcases hcl : V.jy a.rs a.its ver with _ | _
    ·have HR : Hid (V.covP x a.sch a.name ver = false) := zuy (by rw [HFI.out, hcl]; rfl)
     clear hcl
     go_wp2
     go_ret
     exact ⟨zd HR.out.symm, HB.out.trans (HB3.out.mono HB.out.size)⟩
    ·have HR : Hid (V.covP x a.sch a.name ver = V.ka x) := zuy (by rw [HFI.out, hcl]; rfl)
     clear hcl
     go_wp2_with fail
     refine (zcf x (.slice (some ⟨b, off, none⟩) x.aff.length pc) w3 HM3.out HV3.out HI.out.1 HI.out.2.1).mono ?_
     rintro e w4 ⟨rfl, hb4⟩
     have HB4 := zuz HB3 hb4
     clear hb4
     go_wp2
     go_ret
     exact ⟨zd HR.out.symm, HB.out.trans (HB4.out.mono HB.out.size)⟩
   ·have hpf : V.zg7 n s a = false := by simpa using hp
    have HNY := zuy (HNX.out hpf)
    have hcase : (a.sch == n) = false /\ ¬ a.sch = n ∨ (a.sch == n) = true /\ a.sch = n /\ (a.name == s) = false /\ ¬ a.name = s := by
     rw [HPK.out, Bool.and_eq_false_iff, decide_eq_false_iff_not, decide_eq_false_iff_not] at hpf
     by_cases h1 : a.sch = n
     ·rcases hpf with h | h
      ·exact absurd h1 h
      ·exact .inr ⟨by simpa using h1, h1, by rw [zu2]; exact h, h⟩
     ·exact .inl ⟨by rw [zu2]; exact h1, h1⟩
    clear hp hpf HNX HAT HPK
    rcases hcase with ⟨q1, q2⟩ | ⟨q1, q2, q3, q4⟩
    ·exact zyw
    ·subst q2
     exact zyw
  ·obtain rfl : k = x.aff.length := by omega
   have HR : Hid (V.covP x n s ver = false) := zuy (by unfold V.covP; rw [V.find_no (fun j hj => HNO.out j hj hj)])
   go_wp2
   go_ret
   exact ⟨zd HR.out.symm, HB.out.trans (HBR.out.mono HB.out.size)⟩
open Go.RowKit
theorem Buf.bytesInA {N : Nat} {v : Value} {l : V.Bs} {W0 w : World} (h : Buf N v l W0 w) : zba w v l := by
 rcases h.1.2 with ⟨rfl, hn⟩ | ⟨g, cap, cur, fz, rfl, hb, hg, hnc, hm, hsz, hq, htk⟩
 ·have := List.eq_nil_of_length_eq_zero hn
  subst this
  exact ⟨none, 0, rfl, zu0 _, fun j hj => by simp at hj⟩
 ·refine ⟨_, _, rfl, hm, fun j hj => ⟨g, 0, rfl, (Array.getElem?_eq_some_iff.1 hg).1, ?_⟩⟩
  rw [Nat.zero_add]
  have hc : w.cell? ⟨g, j, none⟩ = cur[j]? := by
   unfold World.cell?
   rw [hg]
   rfl
  have h1 : (bvals l)[j]? = some (.int .u8 (l[j]).toNat) := by simp [bvals, hj]
  rw [← htk, List.getElem?_take] at h1
  split at h1
  ·rw [hc]; simpa using h1
  ·cases h1
theorem V.doc_lenA {ls : List (List V.Bs)} (h : V.DocOk ls) : (V.doc ls).length ≤ 262144 := by
 rw [← V.zgn, V.zd3 (fun l hl => (h.line l hl).1) _ (zu0 _)]; exact h.size
theorem V.encV_len {x : V.Adv} (h : (V.encV x).2 = 0) : (V.encV x).1.length ≤ 262144 := by
 obtain ⟨_, h2, h3⟩ := V.znc h
 rw [h3]
 exact V.doc_lenA (V.zgc h2)
namespace V
def smpI : Itv := ⟨[51, 46, 48], 1, [51, 46, 48, 46, 55], 2⟩
def smpA : Aff := ⟨2, [111, 112, 101, 110, 115, 115, 108], 2, [smpI]⟩
def smp : Adv := ⟨[99, 118, 101, 45, 49], 2, 7, [smpA]⟩
theorem zid : MadeV smp := ⟨by kernel_rfl, by decide, by decide, by decide, by decide, by decide, by decide, (fun a ha => by
  rw [List.mem_singleton.1 ha]; kernel_rfl), List.pairwise_singleton _ _⟩
theorem smp_cov : covP smp 2 [111, 112, 101, 110, 115, 115, 108] [51, 46, 48, 46, 54] = true := by kernel_rfl
end V
theorem smp_wf : AffWf V.smpA := ⟨by decide, yo (V.wu (V.yy (V.zid.snd V.smpA (List.mem_singleton.2 rfl))).2.2.2), by decide⟩
theorem zq3 (w : World) : Calls Tryz.prog 76 #[] w fun e w' => ∃ u, e = .returned (advV V.smp u) /\ Affs w' u V.smp.aff /\ Below w.heap.size w w' := by
 obtain ⟨w0, hw0⟩ : ∃ w0, w0 = w.alloc (.cells #[.string ⟨#[]⟩, .int .i64 0, .int .i64 0, .slice none 0 0] 41) := ⟨_, rfl⟩
 obtain ⟨w1, hw1⟩ : ∃ w1, w1 = w0.alloc (.cells #[.string ⟨#[51, 46, 48]⟩, .int .i64 1, .string ⟨#[51, 46, 48, 46, 55]⟩, .int .i64 2] 120) := ⟨_, rfl⟩
 obtain ⟨w2, hw2⟩ : ∃ w2, w2 = w1.alloc (.cells #[.int .i64 2, .string ⟨#[111, 112, 101, 110, 115, 115, 108]⟩, .int .i64 2, .slice (some ⟨w.heap.size + 1, 0, none⟩) 1 1] 50) := ⟨_, rfl⟩
 obtain ⟨w3, hw3⟩ : ∃ w3, w3 = w2.setRow w.heap.size #[.string ⟨#[99, 118, 101, 45, 49]⟩, .int .i64 2, .int .i64 7, .slice (some ⟨w.heap.size + 2, 0, none⟩) 1 1] := ⟨_, rfl⟩
 have hz0 : w0.heap.size = w.heap.size + 1 := by rw [hw0]; simp
 have hz1 : w1.heap.size = w.heap.size + 2 := by rw [hw1]; simp [hz0]
 have hz2 : w2.heap.size = w.heap.size + 3 := by rw [hw2]; simp [hz1]
 have hb0 : Below w.heap.size w w0 := by rw [hw0]; exact (zu1 _ w).alloc (zu0 _) _
 have hb1 : Below w0.heap.size w0 w1 := by rw [hw1]; exact (zu1 _ w0).alloc (zu0 _) _
 have hb2 : Below w1.heap.size w1 w2 := by rw [hw2]; exact (zu1 _ w1).alloc (zu0 _) _
 have hk0 : w2.heap[w.heap.size]? = some (.cells #[.string ⟨#[]⟩, .int .i64 0, .int .i64 0, .slice none 0 0] 41 (0, 0)) := (hb2.block _ (by omega)).trans ((hb1.block _ (by omega)).trans (by rw [hw0]; exact heap_alloc_new w _))
 have hbz := (hb0.trans (hb1.mono hb0.size)).trans (hb2.mono (by omega))
 have hz3 : w3.heap.size = w.heap.size + 3 := by rw [hw3]; simpa using hz2
 have hq1 : w3.heap[w.heap.size + 1]? = some (.cells #[.string ⟨#[51, 46, 48]⟩, .int .i64 1, .string ⟨#[51, 46, 48, 46, 55]⟩, .int .i64 2] 120 (0, 0)) := by
  rw [hw3, setRow_other w2 _ _ _ (by omega), hb2.block _ (by omega), hw1, ← hz0]
  exact heap_alloc_new w0 _
 have hq2 : w3.heap[w.heap.size + 2]? = some (.cells #[.int .i64 2, .string ⟨#[111, 112, 101, 110, 115, 115, 108]⟩, .int .i64 2, .slice (some ⟨w.heap.size + 1, 0, none⟩) 1 1] 50 (0, 0)) := by
  rw [hw3, setRow_other w2 _ _ _ (by omega), hw2, ← hz1]
  exact heap_alloc_new w1 _
 have hi : Itvs w3 (.slice (some ⟨w.heap.size + 1, 0, none⟩) 1 1) [V.smpI] := ⟨_, _, rfl, fun j hj => by
   obtain rfl : j = 0 := by simpa using hj
   exact ⟨w.heap.size + 1, 0, rfl, by omega, uk hq1⟩⟩
 have ha : Affs w3 (.slice (some ⟨w.heap.size + 2, 0, none⟩) 1 1) V.smp.aff := ⟨_, _, rfl, fun j hj => by
   obtain rfl : j = 0 := by simpa [V.smp] using hj
   obtain ⟨c0, c1, c2, c3⟩ := uk hq2
   exact ⟨smp_wf, w.heap.size + 2, 0, _, _, rfl, by omega, c0, c1, c2, c3, hi⟩⟩
 rw [hw3, hw2, hw1, hw0] at ha
 rw [hw2, hw1, hw0] at hbz hk0
 have HA := zuy ha
 have HK0 := zuy hk0
 have HBZ := zuy hbz
 clear hb0 hb1 hb2 hi ha hk0 hbz hz1 hz2 hz3 hq1 hq2 hw0 hw1 hw2 hw3 hz0
 go_enter Tryz.func76, Tryz.ntmps76
 go_wp2_with (first | (refine ku rfl qt _ _ rfl w.heap.size #[.string ⟨#[]⟩, .int .i64 0, .int .i64 0, .slice none 0 0] 41 HK0.out rfl (.string ⟨#[99, 118, 101, 45, 49]⟩) (.int .i64 2) (.int .i64 7) (.slice (some ⟨w.heap.size + 2, 0, none⟩) 1 1) ⟨rfl, rfl, rfl, rfl⟩ rfl rfl ?_) | fail)
 refine bodyPost_ret (v := advV V.smp (.slice (some ⟨w.heap.size + 2, 0, none⟩) 1 1)) (zhj Tryz.results76 rfl (zdb Tryz.underlying41 qt (setRow_heap _ _ _ _ _ _ HK0.out))) rfl ?_
 exact ⟨_, rfl, HA.out, qy HBZ.out _ _ (zu0 _) (Array.getElem?_eq_some_iff.1 HK0.out).1⟩
theorem zoz (w : World) (hm : zg w) (hp : zer w) : Calls Tryz.prog 27 #[] w fun e w' => e = .returned (.bool true) /\ Below w.heap.size w w' := by
 have HM := zuy hm
 have HP := zuy hp
 have HE : Hid ((V.encV V.smp).2 = 0) := zuy (by rw [V.zid.encV])
 have HL : Hid (V.smp.id.length ≤ maxLen /\ V.smp.aff.length ≤ maxLen) := zuy (by decide)
 have HDE := zuy (V.zif HE.out)
 have HLN := zuy (V.encV_len HE.out)
 have HOK := zuy V.zid.ok
 have HCV := zuy V.smp_cov
 have HSV : Hid (V.smp.sev = 7) := zuy rfl
 have HS : Hid (∀ w, Calls Tryz.prog 76 #[] w fun e w' => ∃ u, e = .returned (advV V.smp u) /\ Affs w' u V.smp.aff /\ Below w.heap.size w w') := zuy zq3
 clear hm hp
 generalize V.smp = x at *
 go_enter Tryz.func27, Tryz.ntmps27
 go_wp2_with fail
 refine (HS.out w).mono ?_
 rintro e w1 ⟨u1, rfl, hu1, hb1⟩
 have HU1 := zuy hu1
 have HB1 := zuy hb1
 clear hu1 hb1
 go_wp2_with fail
 refine (vw x u1 w1 (HM.out.below HB1.out) (HP.out.below HB1.out) HU1.out HL.out.1 HL.out.2).mono ?_
 intro e w2 he
 obtain ⟨u2, N2, W2, rfl, hbuf⟩ := he.1 HE.out
 have hb2 := he.2.2
 have HB2 := zuz HB1 hb2
 have HBI := zuy hbuf.bytesInA
 clear he hb2 HB1 HU1 hbuf
 generalize (V.encV x).1 = D at *
 obtain ⟨ua, uc, hue, hj⟩ := HBI.out
 subst hue
 clear hj
 go_wp2_with fail
 refine (zk5 (.slice ua D.length uc) D w2 (HM.out.below HB2.out) (HP.out.below HB2.out) HBI.out (by have := HLN.out; unfold maxLen; omega)).mono ?_
 rintro e w3 ⟨u3, rfl, hu3, hb3⟩
 rw [HDE.out] at hu3 ⊢
 simp only at hu3 ⊢
 obtain ⟨pa, pc, rfl⟩ := hu3.slice
 obtain ⟨hb4, c0, c1, c2, c3⟩ := zf0 x (.slice pa x.aff.length pc) w3
 have HB4 := zuy (HB2.out.trans ((hb3.trans (hb4.mono hb3.size)).mono HB2.out.size))
 clear hb3 hb4 hu3 c0 c1 c3 HBI HB2
 unfold advV
 go_wp2_with fail
 generalize w3.alloc (.cells #[.string ⟨x.id.toArray⟩, .int .i64 x.rev, .int .i64 x.sev, .slice pa x.aff.length pc] 41) = w4 at *
 rw [HSV.out] at c2
 refine (HS.out w4).mono ?_
 rintro e w5 ⟨u5, rfl, hu5, hb5⟩
 replace c2 := zb hb5 c2
 have HB5 := zuz HB4 hb5
 have HU5 := zuy hu5
 clear hb5 hu5 HB4
 go_wp2_with fail
 refine (zcf x u5 w5 (HM.out.below HB5.out) HU5.out HL.out.1 HL.out.2).mono ?_
 rintro e w6 ⟨rfl, hb6⟩
 rw [HOK.out]
 replace c2 := zb hb6 c2
 have HB6 := zuz HB5 hb6
 clear hb6 HB5 HU5
 go_wp2_with fail
 refine (HS.out w6).mono ?_
 rintro e w7 ⟨u7, rfl, hu7, hb7⟩
 have HB7 := zuz HB6 hb7
 have HU7 := zuy hu7
 clear hb7 hu7 HB6 c2
 go_wp2_with fail
 refine (zk6 x u7 2 [111, 112, 101, 110, 115, 115, 108] [51, 46, 48, 46, 54] w7 (HM.out.below HB7.out) HU7.out HL.out.1 HL.out.2 (by decide)).mono ?_
 rintro e w8 ⟨rfl, hb8⟩
 rw [HCV.out]
 have HB8 := zuz HB7 hb8
 go_wp2
 go_ret
 exact ⟨zd rfl, HB8.out⟩
open Go.RowKit
theorem Nums.below2A {w w' : World} {a : Option Addr} {m : Nat} (h : Nums w a m) (hb : Below w.heap.size w w') : Nums w' a m := by
 obtain ⟨h1, h2⟩ := h
 refine ⟨h1, fun j hj => ?_⟩
 obtain ⟨b, off, z, e, hlt, hcz, hz⟩ := h2 j hj
 exact ⟨b, off, z, e, Nat.lt_of_lt_of_le hlt hb.size, (hb.cell (p := ⟨b, off + j, none⟩) hlt).trans hcz, hz⟩
theorem zrv (w : World) :
  Calls Tryz.prog 32 #[] w fun e w' => e = .returned (.slice (some ⟨w.heap.size, 0, none⟩) 3 3) /\ w' = w.alloc (.cells #[.string ⟨#[119, 45, 49]⟩, .string ⟨#[119, 45, 50]⟩, .string ⟨#[119, 45, 51]⟩] 9) := by
 go_enter Tryz.func32, Tryz.ntmps32
 go_wp2
 go_ret
 exact ⟨rfl, rfl⟩
theorem zo8 (w : World) :
  Calls Tryz.prog 34 #[] w fun e w' => e = .returned (.slice (some ⟨w.heap.size, 0, none⟩) 4 4) /\ w' = w.alloc (.cells #[.string ⟨#[122, 108, 105, 98]⟩, .string ⟨#[115, 115, 108]⟩, .string ⟨#[108, 105, 98, 115, 47, 112, 110, 103]⟩, .string ⟨#[97]⟩] 9) := by
 go_enter Tryz.func34, Tryz.ntmps34
 go_wp2
 go_ret
 exact ⟨rfl, rfl⟩
theorem zmw (a : Option Addr) (m cap q0 : Nat) (w : World) (ht : Nums w a m) (hmc : m ≤ cap) (hq0 : q0 ≤ 1000) :
  Calls Tryz.prog 21 #[.slice a m cap, .int .i64 (q0 : Int)] w fun e w' => e = .returned (.pointer (some ⟨w.heap.size, 0, none⟩)) /\ Tape w' w.heap.size 0 /\ Below w.heap.size w w' /\ w.heap.size < w'.heap.size := by
 have HT := zuy ht
 have hl : Nums w a (min m q0) := ⟨by have := ht.1; omega, fun j hj => ht.2 j (by omega)⟩
 have HL := zuy hl
 obtain ⟨q, hq⟩ : ∃ q, q = min m q0 := ⟨_, rfl⟩
 rw [← hq] at HL
 have hq1 : min (m : Int) (q0 : Int) = (q : Int) := by omega
 have hq2 : (0 : Int) ≤ (q : Int) := by omega
 have hq3 : (q : Int) ≤ (cap : Int) := by omega
 have hb : Below w.heap.size w (w.alloc (.cells #[.slice a q cap, .int .i64 0] 81)) := (zu1 _ w).alloc (zu0 _) _
 have HP : Hid (Tape (w.alloc (.cells #[.slice a q cap, .int .i64 0] 81)) w.heap.size 0) := zuy (Tape.made HL.out hb (zu0 _) (by rw [World.cell?_alloc_new]; rfl) (by rw [World.cell?_alloc_new]; rfl) (by rw [zv, if_pos rfl]))
 have HB := zuy hb
 clear ht hl hq hb
 go_enter Tryz.func21, Tryz.ntmps21
 go_wp2
 go_ret
 exact ⟨rfl, HP.out, HB.out, by simp⟩
end Go.Proofs.YtnhfaincdabdkaaGreatDoor
