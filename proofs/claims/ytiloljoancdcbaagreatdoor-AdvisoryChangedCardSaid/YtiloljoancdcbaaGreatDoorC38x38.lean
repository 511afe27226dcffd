/-
  Lemmas for the law.
-/
import Derived.Test.YtiloljoancdcbaaGreatDoorC38x36
import Derived.Test.YtiloljoancdcbaaGreatDoorC38x34
import Derived.Test.YtiloljoancdcbaaGreatDoorC38x37
import Derived.Test.YtiloljoancdcbaaGreatDoorC38x26
import Derived.Test.YtiloljoancdcbaaGreatDoorC38x20
import Derived.Test.YtiloljoancdcbaaGreatDoorC38x33
import Derived.Test.YtiloljoancdcbaaGreatDoorC38x22
set_option linter.all false
set_option maxRecDepth 100000
set_option maxHeartbeats 6400000
namespace Go.Proofs.YtiloljoancdcbaaGreatDoor
open Go.RowKit
def zm4 (ls : List (List V.Bs)) (w : World) (e : Ending) (w' : World) : Prop :=
 ∃ u us, e = .returned (.tuple #[advV ((V.kp ls).getD V.zV) u, .bool (V.kp ls).isSome]) /\ (FRow w.heap.size w' u us /\ us.map (·.1) = ((V.kp ls).getD V.zV).aff /\ ∀ p ∈ us, ∀ c, p.2.v.ownBlock = some c -> w.heap.size ≤ c) /\ Below w.heap.size w w'
theorem zuh (s : V.Bs) : 0 ≤ (V.numP s).1 /\ (V.numP s).1 ≤ 1099511627776 := by
 unfold V.numP
 split
 ·rename_i h
  constructor
  ·show (0 : Int) ≤ ((V.valD s : Nat) : Int); omega
  ·show ((V.valD s : Nat) : Int) ≤ _; have := h.2.2.2.2; omega
 ·decide
theorem zu0 (n : Int) (s : V.Bs) : Lens (V.parP n s).2.1 /\ (V.parP n s).2.1.length ≤ 32 := by
 unfold V.parP
 split
 ·rename_i l c h
  have hp := (V.zji (n := n) (s := s) (l := l) (by rw [h])).1
  exact ⟨ul hp, hp.len⟩
 ·exact ⟨(fun x hx => by simp at hx), Nat.zero_le _⟩
theorem V.readF_wf {l : List V.Bs} (hw : ∀ x ∈ l, x.length ≤ 32768) : AffWf (V.vp l).1 := by
 have hz : AffWf V.zA := ⟨Nat.zero_le _, (fun x hx => by simp [V.zA] at hx), Nat.zero_le _⟩
 unfold V.vp
 split
 ·rename_i a s n r
  split
  ·have h1 := hw n (by simp)
   have h2 := zu0 (V.kq s) r
   exact ⟨by show n.length ≤ maxLen; unfold maxLen; omega, h2.1, Nat.le_trans h2.2 (by decide)⟩
  ·exact hz
 ·exact hz
theorem zkt (w : World) : Below w.heap.size w (w.alloc (.cells #[.string ⟨#[]⟩, .int .i64 0, .int .i64 0, .slice none 0 0] 25)) /\ (w.alloc (.cells #[.string ⟨#[]⟩, .int .i64 0, .int .i64 0, .slice none 0 0] 25)).heap[w.heap.size]? = some (.cells #[.string ⟨#[]⟩, .int .i64 0, .int .i64 0, .slice none 0 0] 25 (0, 0)) /\ (w.alloc (.cells #[.string ⟨#[]⟩, .int .i64 0, .int .i64 0, .slice none 0 0] 25)).heap.size = w.heap.size + 1 :=
 ⟨(zvu _ w).alloc (zvt _) _, heap_alloc_new w _, by simp⟩
theorem zwg {P : Prop} (h : P := by
 go_wp2_with (first | (refine xg rfl jb _ _ rfl w.heap.size #[.string ⟨#[]⟩, .int .i64 0, .int .i64 0, .slice none 0 0] 25 HK0.out rfl (.string ⟨#[]⟩) (.int .i64 0) (.int .i64 0) (.slice none 0 0) ⟨rfl, rfl, rfl, rfl⟩ rfl rfl ?_) | fail)
 exact HEX.out _ HE.out HK0.out HB0.out _ Tryz.results41 _ rfl rfl rfl) : P := h
theorem zqe (v : Value) (ls : List (List V.Bs)) (w : World) (hm : zg w) (hv : Lines w v ls) (hcap : CapOk v) (hw : ∀ l ∈ ls, ∀ x ∈ l, x.length ≤ 32768) (hn : ls.length ≤ 1000) :
  Calls Tryz.prog 41 #[v] w (zm4 ls w) := by
 obtain ⟨hb0, hk0, hz0⟩ := zkt w
 have HM := zvr hm
 have HB0 := zvr hb0
 have HK0 := zvr hk0
 have HZ0 := zvr hz0
 clear hz0
 have HU0 := zvr (hv.below hb0)
 have HWD := zvr hw
 obtain ⟨va, vn, vc, rfl, hvc⟩ := hcap
 obtain rfl : vn = ls.length := by obtain ⟨_, _, e, _⟩ := hv; cases e; rfl
 have HEX : Hid (∀ (W : World), V.kp ls = none -> W.heap[w.heap.size]? = some (.cells #[.string ⟨#[]⟩, .int .i64 0, .int .i64 0, .slice none 0 0] 25 (0, 0)) -> Below w.heap.size w W ->
     ∀ fn : Func, fn.results = #[.cell 2 25, .tmp 3] -> ∀ a : Act, a.tmps.getD 2 undef = .pointer (some ⟨w.heap.size, 0, none⟩) -> a.tmps.getD 3 undef = .bool false -> a.defers = [] ->
     bodyPost Tryz.prog fn (zm4 ls w) .ret a (W.setRow w.heap.size #[.string ⟨#[]⟩, .int .i64 0, .int .i64 0, .slice none 0 0])) := zvr (by
   intro W hr hg hb fn hfn a h4 h5 h6
   refine bodyPost_ret (kw hfn h4 h5 (zdw Tryz.underlying25 jb (setRow_heap _ _ _ _ _ _ hg))) h6 ?_
   exact ⟨.slice none 0 0, [], by rw [hr]; rfl, ⟨FRow.nil _ _, by rw [hr]; rfl, fun p hp => by simp at hp⟩, je hb _ _ (zvt _) (Array.getElem?_eq_some_iff.1 hg).1⟩)
 clear hm hv hw hb0 hk0
 match ls, HU0, HWD, hvc, hn, HEX with
 | [], HU0, HWD, hvc, hn, HEX =>
  have HE : Hid (V.kp [] = none) := zvr rfl
  clear HU0 HWD
  go_enter Tryz.func41, Tryz.ntmps41
  exact zwg
 | l0 :: rest, HU0, HWD, hvc, hn, HEX =>
  obtain ⟨B, off, u0, rfl, hBlt, hu0, hs0⟩ := HU0.out.at 0 (by simp)
  rw [Nat.add_zero] at hu0
  simp only [List.getElem_cons_zero] at hs0
  obtain ⟨m, hmm⟩ : ∃ m, m = rest.length + 1 := ⟨_, rfl⟩
  have hls : (l0 :: rest).length = m := by rw [hmm]; rfl
  rw [hls] at hvc hn HU0 ⊢
  have HMM := zvr hmm
  have q1 : (m : Int) ≠ 0 := by omega
  have q2 : ((m : Int) == 0) = false := by rw [zvv]; omega
  have q3 : (0 : Int) < (m : Int) := by omega
  clear hls hmm
  by_cases h4 : l0.length = 4
  case neg =>
   have HE := zvr (V.zuv (rest := rest) h4)
   obtain ⟨a0, c0, rfl, hjunk⟩ := hs0
   have q4 : ((l0.length : Int) != 4) = true := by simp; omega
   have q5 : ¬ (l0.length : Int) = 4 := by omega
   clear hjunk HU0 HWD h4
   generalize l0.length = m0 at *
   go_enter Tryz.func41, Tryz.ntmps41
   exact zwg
  obtain ⟨a, i, r, s, rfl⟩ := zk6 h4
  obtain ⟨b0, o0, c0, rfl, hb0lt, ca, ci, cr, cs⟩ := zqz hs0
  have hrl : (⟨r.toArray⟩ : ByteArray).size ≤ maxLen := by rw [ww]; have := HWD.out _ (List.mem_cons_self ..) r (by simp); unfold maxLen; omega
  have hsl : (⟨s.toArray⟩ : ByteArray).size ≤ maxLen := by rw [ww]; have := HWD.out _ (List.mem_cons_self ..) s (by simp); unfold maxLen; omega
  clear h4 hs0
  by_cases ha : a = V.advW
  case neg =>
   have HE : Hid (V.kp ([a, i, r, s] :: rest) = none) := zvr (by rw [V.zfl, if_neg (fun e => ha e.1)])
   have hne : (a == [97, 100, 118, 105, 115, 111, 114, 121]) = false := by rw [zvv]; exact ha
   clear HU0 HWD ha ci cr cs hrl hsl
   go_enter Tryz.func41, Tryz.ntmps41
   exact zwg
  subst ha
  have hcw : (⟨V.advW.toArray⟩ : ByteArray) = ⟨#[97, 100, 118, 105, 115, 111, 114, 121]⟩ := rfl
  rw [hcw] at ca
  clear hcw
  have HF := zvr (V.zfl V.advW i r s rest)
  have HRL := zvr hrl
  have HSL := zvr hsl
  clear hrl hsl
  go_enter Tryz.func41, Tryz.ntmps41
  go_wp2_with fail
  generalize w.alloc (.cells #[.string ⟨#[]⟩, .int .i64 0, .int .i64 0, .slice none 0 0] 25) = w0 at *
  refine (zbt ⟨r.toArray⟩ w0 HRL.out).mono ?_
  rintro e w' ⟨rfl, rfl⟩
  rw [vh] at *
  have HF1 : Hid ((V.numP r).2 = false -> V.kp ([V.advW, i, r, s] :: rest) = none) := zvr (fun h => by rw [HF.out, if_neg (fun e => by rw [h] at e; cases e.2.1)])
  have HF2 : Hid ((V.numP s).2 = false -> V.kp ([V.advW, i, r, s] :: rest) = none) := zvr (fun h => by rw [HF.out, if_neg (fun e => by rw [h] at e; cases e.2.2)])
  have HF3 : Hid ((V.numP r).2 = true -> (V.numP s).2 = true -> V.kp ([V.advW, i, r, s] :: rest) = (V.xo rest).map fun l => ⟨i, (V.numP r).1, (V.numP s).1, l⟩) := zvr (fun h g => by rw [HF.out, if_pos (by simp [h, g])])
  clear HF
  generalize (V.numP r).1 = nr at *
  generalize (V.numP r).2 = okr at *
  go_wp2_with fail
  refine (zbt ⟨s.toArray⟩ _ HSL.out).mono ?_
  rintro e w' ⟨rfl, rfl⟩
  rw [vh] at *
  have hns := zuh s
  generalize (V.numP s).1 = ns at *
  generalize (V.numP s).2 = oks at *
  by_cases hno : okr = true /\ oks = true
  case neg =>
   have HE : Hid (V.kp ([V.advW, i, r, s] :: rest) = none) := zvr (by
     rcases okr with _ | _
     · exact HF1.out rfl
     · rcases oks with _ | _
       · exact HF2.out rfl
       · exact absurd ⟨rfl, rfl⟩ hno)
   clear HF1 HF2 HF3 HU0 HWD ca ci cr cs hu0
   rcases okr with _ | _
   ·exact zwg
   ·rcases oks with _ | _
    ·exact zwg
    ·exact absurd ⟨rfl, rfl⟩ hno
  obtain ⟨rfl, rfl⟩ := hno
  have HN3 : Hid (V.xo rest = none -> V.kp ([V.advW, i, r, s] :: rest) = none) := zvr (fun h => by rw [HF3.out rfl rfl, h]; rfl)
  have HN4 : Hid (∀ l, V.xo rest = some l -> V.kp ([V.advW, i, r, s] :: rest) = some ⟨i, nr, ns, l⟩) := zvr (fun l h => by rw [HF3.out rfl rfl, h]; rfl)
  obtain ⟨o2, hpart, hparts⟩ := zrs HU0.out HMM.out hvc
  have HPT := zvr hparts
  have hm1 : m - 1 = rest.length := by have := HMM.out; omega
  have wns : IntKind.i64.wrap ns = ns := IntWalk.i64_in _ (by omega)
  have hb5 : Below w'.heap.size w' (w'.alloc (.cells #[.string ⟨i.toArray⟩, .int .i64 nr, .int .i64 ns, .slice none 0 0] 25)) := (zvu _ w').alloc (zvt _) _
  have HD5 : Hid (VInv w' w.heap.size w'.heap.size (.string ⟨i.toArray⟩) (.int .i64 nr) (.int .i64 ns) (.slice none 0 0) [] (w'.alloc (.cells #[.string ⟨i.toArray⟩, .int .i64 nr, .int .i64 ns, .slice none 0 0] 25))) := zvr ⟨FRow.nil _ _, heap_alloc_new w' _, (hb5.block _ (by have := HZ0.out; omega)).trans HK0.out, (fun p hp => by simp at hp), hb5, by have := HZ0.out; omega⟩
  have HBO : Hid (w.heap.size + 1 ≤ w'.heap.size /\ B < w'.heap.size /\ rest.length ≤ 999) := zvr ⟨by have := HZ0.out; omega, hBlt, by have := HMM.out; omega⟩
  clear hb5 HF1 HF2 HF3 hparts ca cr cs
  go_wp2_with fail
  generalize w'.alloc (.cells #[.string ⟨i.toArray⟩, .int .i64 nr, .int .i64 ns, .slice none 0 0] 25) = w5 at *
  obtain ⟨O, hO⟩ : ∃ O, O = w'.heap.size := ⟨_, rfl⟩
  try rw [hm1]
  rw [← hO] at HD5 HBO ⊢
  have HOE := zvr hO
  clear hO hpart hm1 hBlt hb0lt hvc hn q1 q2 q3 hu0 ci
  go_loopw [68] (fun jv W => ∃ (k : Nat) (vo : Value) (us : List Fs), k ≤ rest.length /\ us.length = k /\ jv = .int .i64 k /\ V.zaj rest k (us.map (·.1)) /\ VInv w' w.heap.size O (.string ⟨i.toArray⟩) (.int .i64 nr) (.int .i64 ns) vo us W) (fun jv _ => rest.length - (intOf jv).toNat)
  case atStart => exact ⟨0, _, [], Nat.zero_le _, rfl, rfl, V.zo8 _, HD5.out⟩
  case round =>
   obtain ⟨k, vo, us, hk, hok, rfl, hrt, hdi⟩ := hrel
   have HRT := zvr hrt
   have HOK := zvr hok
   have HDI := zvr hdi
   obtain ⟨vao, vco, hvo⟩ := hdi.row.slice
   subst hvo
   have hBO := HBO.out
   clear hok hrt HD5
   by_cases hlt : k < rest.length
   ·obtain ⟨u, hu, hs⟩ := HPT.out k hlt
    have hold : Below w'.heap.size w' wr := by rw [← HOE.out]; exact hdi.old
    have huW := zb hold hu
    have HSW := zvr (uy hs hold)
    have HWL : Hid (∀ x ∈ rest[k], x.length ≤ 32768) := zvr (fun x hx => HWD.out _ (List.mem_cons_of_mem _ (List.getElem_mem hlt)) x hx)
    have HWM : Hid (∀ x ∈ rest[k], x.length ≤ maxLen) := zvr (fun x hx => by have := HWL.out x hx; unfold maxLen; omega)
    have HMW := zvr (HM.out.below (HB0.out.trans (hold.mono HB0.out.size)))
    obtain ⟨au, cu, hue, hj⟩ := HSW.out
    subst hue
    have HNO := zvr (V.zsh HRT.out hlt)
    have HYES := zvr (V.zo2 HRT.out hlt)
    have HWF := zvr (V.readF_wf HWL.out)
    have hi1 : (0 : Int) ≤ (k : Int) := by omega
    have hi2 : (k : Int) < (rest.length : Int) := by omega
    clear hj hold hu hs hdi hBO
    go_wp2_with fail
    refine (zic _ rest[k] wr HMW.out HSW.out HWM.out).mono ?_
    rintro e w6 ⟨u6, rfl, hu6, how6, hb6⟩
    have HD6 := zvr (HDI.out.call hb6)
    have HOW6 : Hid (∀ c, u6.ownBlock = some c -> O < c) := zvr (fun c hc => by have := how6 c hc; have := HDI.out.lt; omega)
    have HRO : Hid (∀ c, u6.ownBlock = some c -> (Value.slice vao us.length vco).ownBlock ≠ some c) := zvr (fun c hc e => by
      have h1 := how6 c hc
      obtain ⟨_, hq⟩ := HDI.out.row.row
      rcases hq with ⟨e2, _⟩ | ⟨b, cap, cur, e2, _, hgg, _⟩
      · rw [e2] at e; cases e
      · rw [e2] at e
        simp [Value.ownBlock] at e
        subst e
        have := (Array.getElem?_eq_some_iff.1 hgg).1
        omega)
    obtain ⟨ua6, uc6, hue6⟩ := hu6.slice
    subst hue6
    have HI6 := zvr hu6
    clear hb6 HDI HSW HWL HWM HRT huW how6 hu6
    generalize (V.vp rest[k]).1 = a at *
    generalize (V.vp rest[k]).2 = ok at *
    unfold affV
    obtain ⟨hb7, y0, y1, y2, y3⟩ := zc4 a (.slice ua6 a.its.length uc6) w6
    have HD7 := zvr (HD6.out.call hb7)
    have HI7 := zvr (HI6.out.below hb7)
    have hXO : O < w6.heap.size := HD6.out.lt
    clear hb7 HD6 HI6
    rcases ok with _ | _
    ·have HE := zvr (HN3.out (HNO.out rfl))
     have HB7 : Hid (Below w.heap.size w (w6.alloc (.cells #[.int .i64 a.sch, .string ⟨a.name.toArray⟩, .int .i64 a.rs, .slice ua6 a.its.length uc6] 34))) := zvr (HB0.out.trans (HD7.out.old.mono (show w.heap.size ≤ O by have := HD7.out.base; omega)))
     go_wp2_with (first | (refine xg rfl jb _ _ rfl w.heap.size #[.string ⟨#[]⟩, .int .i64 0, .int .i64 0, .slice none 0 0] 25 HD7.out.zero rfl (.string ⟨#[]⟩) (.int .i64 0) (.int .i64 0) (.slice none 0 0) ⟨rfl, rfl, rfl, rfl⟩ rfl rfl ?_) | fail)
     exact HEX.out _ HE.out HD7.out.zero HB7.out _ Tryz.results41 _ rfl rfl rfl
    ·have HR8 := zvr (HYES.out rfl)
     have hi3 := (yb HD7.out.inv).2.2.2
     have hout : us.length ≤ 1000 := by have := HBO.out; have := HOK.out; omega
     have hr9 : rest.length ≤ 999 := HBO.out.2.2
     have wr1 : IntKind.i64.wrap ((k : Int) + 1) = (k : Int) + 1 := IntWalk.i64_in _ (by omega)
     have hO7 : O ≤ (w6.alloc (.cells #[.int .i64 a.sch, .string ⟨a.name.toArray⟩, .int .i64 a.rs, .slice ua6 a.its.length uc6] 34)).heap.size := Nat.le_of_lt HD7.out.lt
     have HP7 : Hid (FOk (w6.alloc (.cells #[.int .i64 a.sch, .string ⟨a.name.toArray⟩, .int .i64 a.rs, .slice ua6 a.its.length uc6] 34)) (.slice vao us.length vco) (a, ⟨ua6, a.its.length, uc6⟩)) := zvr ⟨HWF.out, rfl, HI7.out, fun _ => HRO.out⟩
     clear HNO HYES hi1 hi2
     have hb8 : Below (w6.alloc (.cells #[.int .i64 a.sch, .string ⟨a.name.toArray⟩, .int .i64 a.rs, .slice ua6 a.its.length uc6] 34)).heap.size (w6.alloc (.cells #[.int .i64 a.sch, .string ⟨a.name.toArray⟩, .int .i64 a.rs, .slice ua6 a.its.length uc6] 34)) ((w6.alloc (.cells #[.int .i64 a.sch, .string ⟨a.name.toArray⟩, .int .i64 a.rs, .slice ua6 a.its.length uc6] 34)).alloc (.cells #[.int .i64 a.sch, .string ⟨a.name.toArray⟩, .int .i64 a.rs, .slice ua6 a.its.length uc6] 34)) := (zvu _ _).alloc (zvt _) _
     have HA := zvr (HD7.out.call hb8)
     have HP8 : Hid (FOk ((w6.alloc (.cells #[.int .i64 a.sch, .string ⟨a.name.toArray⟩, .int .i64 a.rs, .slice ua6 a.its.length uc6] 34)).alloc (.cells #[.int .i64 a.sch, .string ⟨a.name.toArray⟩, .int .i64 a.rs, .slice ua6 a.its.length uc6] 34)) (.slice vao us.length vco) (a, ⟨ua6, a.its.length, uc6⟩)) := zvr ⟨HP7.out.1, HP7.out.2.1, HP7.out.2.2.1.below hb8, HP7.out.2.2.2⟩
     have HNW : Hid (∀ j u, (fE (a, ⟨ua6, a.its.length, uc6⟩))[j]? = some u -> ((w6.alloc (.cells #[.int .i64 a.sch, .string ⟨a.name.toArray⟩, .int .i64 a.rs, .slice ua6 a.its.length uc6] 34)).alloc (.cells #[.int .i64 a.sch, .string ⟨a.name.toArray⟩, .int .i64 a.rs, .slice ua6 a.its.length uc6] 34)).cell? ⟨w6.heap.size + 1, j, none⟩ = some u) := zvr (fun j u hj => by rw [zc, if_pos (by simp)]; simpa [fE, Sl.v] using hj)
     have HO8 : Hid (O ≤ ((w6.alloc (.cells #[.int .i64 a.sch, .string ⟨a.name.toArray⟩, .int .i64 a.rs, .slice ua6 a.its.length uc6] 34)).alloc (.cells #[.int .i64 a.sch, .string ⟨a.name.toArray⟩, .int .i64 a.rs, .slice ua6 a.its.length uc6] 34)).heap.size) := zvr (Nat.le_of_lt HA.out.lt)
     clear hb8 hO7
     go_wp2_with (first | (refine zdp vd (by decide) zdr zhz (by decide) rfl _ _ 23 rfl Tryz.underlying23 O (.slice vao us.length vco) us rfl HA.out.row.row (w6.heap.size + 1) (a, ⟨ua6, a.its.length, uc6⟩) rfl HNW.out (by omega) HO8.out ?_
                           intro v8 w8 hr8 hg8 ho8
                           have hk8 := HA.out.invKept hg8
                           have hc8 : w8.cell? ⟨O, 3, none⟩ = some (.slice vao us.length vco) := (yb hk8).2.2.2
                           have hf8 : w8.frozen? ⟨O, 3, none⟩ = false := xn hk8
                           have hfr := HA.out.row.add hr8 hg8 ho8 HP8.out
                           have HM9 := zvr (HA.out.append hfr hg8 HOW6.out)
                           obtain ⟨va8, vc8, hv8⟩ := hfr.slice
                           subst hv8
                           rw [show (us ++ [((a, ⟨ua6, a.its.length, uc6⟩) : Fs)]).length = us.length + 1 by simp] at HM9 ⊢
                           clear hr8 hg8 ho8 hk8 hfr)
                        | (refine zkg rfl 23 _ _ rfl O 3 rfl (.slice va8 (us.length + 1) vc8) rfl _ hc8 hf8 vj rfl ?_
                           clear hc8 hf8
                           generalize w8.setCell ⟨O, 3, none⟩ (.slice va8 (us.length + 1) vc8) = w9 at *) | fail)
     go_roundw
     case rel => exact ⟨k + 1, _, us ++ [(a, ⟨ua6, a.its.length, uc6⟩)], by omega, by rw [List.length_append, HOK.out]; rfl, by go_num, by rw [List.map_append]; exact HR8.out, HM9.out⟩
     case measure => simp [intOf]; omega
   ·obtain rfl : k = rest.length := by omega
    have HAL := zvr (HN4.out _ (V.zqh HRT.out))
    have HBW : Hid (Below w.heap.size w wr) := zvr (HB0.out.trans (hdi.old.mono (show w.heap.size ≤ O by omega)))
    have HAF := zvr hdi.row.affs
    have hc4 := yb hdi.inv
    obtain ⟨z0, z1, z2, z3⟩ := hc4
    clear hdi hBO
    go_wp2_with (first | (refine xg rfl jb _ _ rfl w.heap.size #[.string ⟨#[]⟩, .int .i64 0, .int .i64 0, .slice none 0 0] 25 HDI.out.zero rfl (.string ⟨i.toArray⟩) (.int .i64 nr) (.int .i64 ns) (.slice vao us.length vco) ⟨rfl, rfl, rfl, rfl⟩ rfl rfl ?_) | fail)
    refine bodyPost_ret (v := .tuple #[.agg #[.string ⟨i.toArray⟩, .int .i64 nr, .int .i64 ns, .slice vao us.length vco], .bool true]) (kw Tryz.results41 rfl rfl (zdw Tryz.underlying25 jb (setRow_heap _ _ _ _ _ _ HDI.out.zero))) rfl ?_
    have hbase : w.heap.size + 1 ≤ O := HDI.out.base
    refine ⟨.slice vao us.length vco, us, by rw [HAL.out]; rfl, ⟨?_, by rw [HAL.out]; rfl, fun p hp c hc => by have := HDI.out.own p hp c hc; omega⟩, je HBW.out _ _ (zvt _) (Array.getElem?_eq_some_iff.1 HDI.out.zero).1⟩
    exact (HDI.out.row.kept (qg _ _ _) (HDI.out.rowNe HDI.out.zero (by decide)) (fun p hp c hc => by have := HDI.out.own p hp c hc; omega)).weaken (by omega)
def txtB (x : V.Itv) : ByteArray := ⟨(V.zv x).toArray⟩
def zta (r : V.Bs × Int) (w : World) (e : Ending) (w' : World) : Prop := e = .returned (.tuple #[.string ⟨r.1.toArray⟩, .int .i64 r.2]) /\ Below w.heap.size w w'
theorem zqc {l : List V.Itv} {k : Nat} (h : k < l.length) : (l.take (k + 1)).map txtB = (l.take k).map txtB ++ [txtB l[k]] := by
 rw [List.take_succ_eq_append_getElem h, List.map_append]
 rfl
theorem zgk {l : List V.Itv} (h : l ≠ []) : Lib.join ((l.map txtB).map (·.data.toList)) V.orT = V.xj l := by
 unfold V.xj
 rw [if_neg (by simpa using h), List.map_map]
 rfl
theorem znz {n : Int} {l : List V.Itv} (h : V.Ok n l) (h0 : l ≠ []) : (V.xj l).length ≤ 10000 := by
 rcases l with _ | ⟨x, r⟩
 ·exact absurd rfl h0
 ·have hle : ∀ y ∈ V.zv x :: r.map V.zv, y.length ≤ 133 := by
   intro y hy
   rw [← List.map_cons (f := V.zv), List.mem_map] at hy
   obtain ⟨z, hz, rfl⟩ := hy
   exact (V.zgt (V.zpa h hz)).len
  have h1 := V.zoq hle
  have h2 := h.len
  rw [List.length_map] at h1
  rw [List.length_cons] at h2
  show (Lib.join (V.zv x :: r.map V.zv) V.orT).length ≤ _
  omega
theorem zka {w W1 W2 : World} {N : Nat} {v : Value} {l : List ByteArray} {o : Obj} (h1 : Below N w W1) (hN : N ≤ w.heap.size) (hr : SRow W1 N v l) (h2 : (W1.alloc o).grownBy W2 v.ownBlock) : Below N w W2 :=
 (h1.alloc (Nat.le_trans hN h1.size) o).trans ⟨h2.os, h2.tape, h2.output, h2.size, fun k hk => h2.block k (by have := h1.size; simp; omega) (fun e => by have := GRow.block hr k e.symm; omega)⟩
theorem zwp {P : Prop} (h : P := by
 clear hb2 h0 h1 h2 h3
 go_wp2_with (first | (refine zk qt (by decide) qs qr (by decide) rfl _ _ 47 rfl Tryz.underlying47 w1.heap.size _ L rfl (GRow.below HR0.out (HB2.out.alloc HB2.out.size _)) w2.heap.size (txtB x) rfl (fun j u hu => by rw [World.cell?_alloc_new]; simpa [baE, txtB] using hu) (by have := HLK.out; omega) (by have := HB2.out.size; have := HBX.out.size; simp; omega) ?_; intro v2 W2 hr2 hg2) | fail)
 have HR2 : Hid (SRow W2 w1.heap.size v2 (L ++ [txtB x])) := zvr hr2
 have HB3 := zvr (zka (HBX.out.trans (HB2.out.mono HBX.out.size)) (zvt _) (GRow.below HR0.out HB2.out) hg2)
 clear hr2 hg2
 go_wp2_with fail
 go_roundw
 case rel => exact ⟨k + 1, by omega, by go_num, by rw [HST.out]; exact HR2.out, HB3.out⟩
 case measure => simp [intOf]; omega) : P := h
theorem zws {P : Prop} (h : P := by
 obtain rfl : k = l.length := by omega
 have HRA : Hid (SRow wr w1.heap.size _ (l.map txtB)) := zvr (by have := HR0.out; rw [List.take_length] at this; exact this)
 go_wp2_with fail
 refine (qv wr w1.heap.size _ (l.map txtB) ⟨#[32, 124, 124, 32]⟩ HRA.out (by simpa using HNE.out) (by simp; omega) (by rw [show (ByteArray.mk #[32, 124, 124, 32]).data.toList = V.orT from rfl, zgk HNE.out]; have := znz HOK.out HNE.out; omega)).mono ?_
 rintro e w3 ⟨rfl, hb3⟩
 have HB3 := zvs HBF hb3
 have HT : Hid (Lib.join ((l.map txtB).map (·.data.toList)) (ByteArray.mk #[32, 124, 124, 32]).data.toList = V.xj l) := zvr (zgk HNE.out)
 clear hb3
 rw [HT.out]
 go_wp2
 go_ret2
 exact (by rw [HF2.out]; exact ⟨rfl, HB3.out⟩)) : P := h
theorem zyh {P : Prop} (h : P := by
 have hq : ((l.length : Int) == 0) = true := by rw [h0]; rfl
 have HR : Hid (V.ye n l = (V.zcr, 0)) := zvr (by rw [HF2.out, h0]; rfl)
 clear h0
 go_wp2
 go_ret2
 exact (by rw [HR.out]; exact ⟨rfl, HB1.out⟩)) : P := h
theorem zzi {P : Prop} (h : P := by
 have HR : Hid (V.ye n l = ([], 1)) := zvr (by rw [HF.out, hok]; rfl)
 clear hok
 go_wp2
 go_ret2
 exact (by rw [HR.out]; exact ⟨rfl, HB1.out⟩)) : P := h
theorem zof (n : Int) (v : Value) (l : List V.Itv) (w : World) (hm : zg w) (hv : Itvs w v l) (hs : Lens l) (hl : l.length ≤ maxLen) :
  Calls Tryz.prog 25 #[setV n v] w (zta (V.ye n l) w) := by
 have HV := zvr hv
 obtain ⟨va, vc, rfl⟩ := hv.slice
 have HL := zvr hl
 unfold maxLen at hl
 have HS := zvr hs
 have HF : Hid (V.ye n l = if V.okR n l then (V.xj l, 0) else ([], 1)) := zvr rfl
 have hb0 : Below w.heap.size w (w.alloc (.cells #[.int .i64 n, .slice va l.length vc] 32)) := (zvu _ w).alloc (zvt _) _
 have HB0 := zvr hb0
 have HM := zvr (hm.below hb0)
 have c0 : (w.alloc (.cells #[.int .i64 n, .slice va l.length vc] 32)).cell? ⟨w.heap.size, 0, none⟩ = some (.int .i64 n) := by simp [zc]
 have c1 : (w.alloc (.cells #[.int .i64 n, .slice va l.length vc] 32)).cell? ⟨w.heap.size, 1, none⟩ = some (.slice va l.length vc) := by simp [zc]
 have hz0 : w.heap.size < (w.alloc (.cells #[.int .i64 n, .slice va l.length vc] 32)).heap.size := by simp
 clear hv hs hb0 hm
 unfold setV
 go_enter Tryz.func25, Tryz.ntmps25
 go_wp2_with fail
 generalize w.alloc (.cells #[.int .i64 n, .slice va l.length vc] 32) = w0 at *
 refine (zat n (.slice va l.length vc) l w0 HM.out (HV.out.below HB0.out) HS.out HL.out).mono ?_
 rintro e w1 ⟨rfl, hb1⟩
 have HB1 := zvs HB0 hb1
 have d0 := za hb1 c0
 have d1 := za hb1 c1
 have hz1 : w.heap.size < w1.heap.size := Nat.lt_of_lt_of_le hz0 hb1.size
 clear hb1 c0 c1 hz0 HM
 rcases hok : V.okR n l with _ | _
 ·exact zzi
 ·have HOK := zvr (V.wu hok)
  have HF2 : Hid (V.ye n l = (V.xj l, 0)) := zvr (by rw [HF.out, hok]; rfl)
  clear hok
  by_cases h0 : l = []
  ·exact zyh
  ·have HNE := zvr h0
   have hq : ((l.length : Int) == 0) = false := by rw [zvv]; have := List.length_pos_iff.2 h0; omega
   clear h0
   have h32 : l.length ≤ 32 := HOK.out.len
   have HD := zvr d1
   go_wp2_with fail
   clear d0 d1
   go_loopw [4, 17] (fun v iv wx => ∃ k : Nat, k ≤ l.length /\ iv = .int .i64 k /\ SRow wx w1.heap.size v ((l.take k).map txtB) /\ Below w1.heap.size w1 wx) (fun _ iv _ => l.length - (intOf iv).toNat)
   case atStart => exact ⟨0, Nat.zero_le _, rfl, GRow.nil _ _, zvu _ _⟩
   case round =>
    obtain ⟨k, hk, rfl, hr, hbx⟩ := hrel
    have HR0 := zvr hr
    have HBX := zvr hbx
    have HBF := zvs HB1 hbx
    have e1 := za hbx HD.out
    clear hr hbx
    by_cases hlt : k < l.length
    ·obtain ⟨b, off, rfl, hb0, hx⟩ := HV.out.at k hlt
     obtain ⟨h0, h1, h2, h3⟩ := hx.below hb0 HBF.out
     have hi1 : (0 : Int) ≤ (k : Int) := by omega
     have hi2 : (k : Int) < (l.length : Int) := by omega
     have HBK : Hid (V.zj n l[k] = true) := zvr (HOK.out.bnd _ (List.getElem_mem hlt))
     have HST := zvr (zqc hlt)
     have HLK : Hid (((l.take k).map txtB).length ≤ 32) := zvr (by rw [List.length_map, List.length_take]; omega)
     clear hx
     generalize l[k] = x at *
     generalize (l.take k).map txtB = L at *
     have HXA := zvr ((zvu wr.heap.size wr).alloc (zvt _) (.cells #[.string ⟨x.lo.toArray⟩, .int .i64 x.lk, .string ⟨x.hi.toArray⟩, .int .i64 x.hk] 87))
     go_wp2_with fail
     refine (zr7 n x _ HBK.out).mono ?_
     rintro e w2 ⟨rfl, hb2⟩
     have HB2 := zvs HXA hb2
     exact zwp
    ·exact zws
theorem zn0 (n : Int) (v : Value) (l : List V.Itv) (w : World) (hm : zg w) (hv : Itvs w v l) (hs : Lens l) (hl : l.length ≤ maxLen) :
  Calls Tryz.prog 29 #[setV n v] w (zta (V.ye n l) w) := by
 have HV := zvr hv
 obtain ⟨va, vc, rfl⟩ := hv.slice
 have HL := zvr hl
 unfold maxLen at hl
 have HS := zvr hs
 have HF : Hid (V.ye n l = if V.okR n l then (V.xj l, 0) else ([], 1)) := zvr rfl
 have hb0 : Below w.heap.size w (w.alloc (.cells #[.int .i64 n, .slice va l.length vc] 32)) := (zvu _ w).alloc (zvt _) _
 have HB0 := zvr hb0
 have HM := zvr (hm.below hb0)
 have c0 : (w.alloc (.cells #[.int .i64 n, .slice va l.length vc] 32)).cell? ⟨w.heap.size, 0, none⟩ = some (.int .i64 n) := by simp [zc]
 have c1 : (w.alloc (.cells #[.int .i64 n, .slice va l.length vc] 32)).cell? ⟨w.heap.size, 1, none⟩ = some (.slice va l.length vc) := by simp [zc]
 have hz0 : w.heap.size < (w.alloc (.cells #[.int .i64 n, .slice va l.length vc] 32)).heap.size := by simp
 clear hv hs hb0 hm
 unfold setV
 go_enter Tryz.func29, Tryz.ntmps29
 go_wp2_with fail
 generalize w.alloc (.cells #[.int .i64 n, .slice va l.length vc] 32) = w0 at *
 refine (zbz n (.slice va l.length vc) l w0 HM.out (HV.out.below HB0.out) HS.out HL.out).mono ?_
 rintro e w1 ⟨rfl, hb1⟩
 have HB1 := zvs HB0 hb1
 have d0 := za hb1 c0
 have d1 := za hb1 c1
 have hz1 : w.heap.size < w1.heap.size := Nat.lt_of_lt_of_le hz0 hb1.size
 clear hb1 c0 c1 hz0 HM
 rcases hok : V.okR n l with _ | _
 ·exact zzi
 ·have HOK := zvr (V.wu hok)
  have HF2 : Hid (V.ye n l = (V.xj l, 0)) := zvr (by rw [HF.out, hok]; rfl)
  clear hok
  by_cases h0 : l = []
  ·exact zyh
  ·have HNE := zvr h0
   have hq : ((l.length : Int) == 0) = false := by rw [zvv]; have := List.length_pos_iff.2 h0; omega
   clear h0
   have h32 : l.length ≤ 32 := HOK.out.len
   have HD := zvr d1
   go_wp2_with fail
   clear d0 d1
   go_loopw [4, 5] (fun v iv wx => ∃ k : Nat, k ≤ l.length /\ iv = .int .i64 k /\ SRow wx w1.heap.size v ((l.take k).map txtB) /\ Below w1.heap.size w1 wx) (fun _ iv _ => l.length - (intOf iv).toNat)
   case atStart => exact ⟨0, Nat.zero_le _, rfl, GRow.nil _ _, zvu _ _⟩
   case round =>
    obtain ⟨k, hk, rfl, hr, hbx⟩ := hrel
    have HR0 := zvr hr
    have HBX := zvr hbx
    have HBF := zvs HB1 hbx
    have e1 := za hbx HD.out
    clear hr hbx
    by_cases hlt : k < l.length
    ·obtain ⟨b, off, rfl, hb0, hx⟩ := HV.out.at k hlt
     obtain ⟨h0, h1, h2, h3⟩ := hx.below hb0 HBF.out
     have hi1 : (0 : Int) ≤ (k : Int) := by omega
     have hi2 : (k : Int) < (l.length : Int) := by omega
     have HBK : Hid (V.zj n l[k] = true) := zvr (HOK.out.bnd _ (List.getElem_mem hlt))
     have HST := zvr (zqc hlt)
     have HLK : Hid (((l.take k).map txtB).length ≤ 32) := zvr (by rw [List.length_map, List.length_take]; omega)
     clear hx
     generalize l[k] = x at *
     generalize (l.take k).map txtB = L at *
     have HXA := zvr ((zvu wr.heap.size wr).alloc (zvt _) (.cells #[.string ⟨x.lo.toArray⟩, .int .i64 x.lk, .string ⟨x.hi.toArray⟩, .int .i64 x.hk] 87))
     go_wp2_with fail
     refine (zsr n x wr HBK.out).mono ?_
     rintro e w2 ⟨rfl, hb2⟩
     have HB2 := zvr hb2
     exact zwp
    ·exact zws
open Go.RowKit
theorem zbd {ops : Array Oper} {o : Oper} {a : Act} {w : World} {K : Act -> World -> Prop} {Q : Exit -> Act -> World -> Prop} {E : Prop} (hgd : o.guard = none) (e1 e2 e3 e4 : Operand) (ho : o.op = .buildSlice 47 4 #[(0, e1), (1, e2), (2, e3), (3, e4)])
  (s1 s2 s3 s4 : V.Bs) (h1 : a.eval e1 = .string ⟨s1.toArray⟩) (h2 : a.eval e2 = .string ⟨s2.toArray⟩) (h3 : a.eval e3 = .string ⟨s3.toArray⟩) (h4 : a.eval e4 = .string ⟨s4.toArray⟩)
  (h : K (a.put o.dst (.slice (some ⟨w.heap.size, 0, none⟩) 4 4)) (w.alloc (.cells (ue [s1, s2, s3, s4]) 9))) : if Region.wanted o (yielded ops a.tmps) = true then Oper.wp Tryz.prog o a w K Q else E := by
 rw [if_pos (by simp [Region.wanted, hgd])]
 obtain ⟨i, hi, hz, hs, hb⟩ := infoS
 refine wp_buildSlice _ 9 4 _ ho (ue [s1, s2, s3, s4]) i _ Tryz.underlying47 hi hz (by rw [hs]; decide) (by rw [hs]; decide) ?_ h
 have := Great.fill_whole (s := 1) (by decide) [Value.string ⟨s1.toArray⟩, Value.string ⟨s2.toArray⟩, Value.string ⟨s3.toArray⟩, Value.string ⟨s4.toArray⟩] ((Array.range (4 * i.size)).map ((Value.string ⟨#[]⟩).cells[· % (Value.string ⟨#[]⟩).cells.size]!)) (fun v hv => by
   simp only [List.mem_cons, List.not_mem_nil, or_false] at hv
   rcases hv with rfl | rfl | rfl | rfl <;> rfl) (by rw [hs]; simp)
 rw [hs] at this ⊢
 simp only [h1, h2, h3, h4, List.map_toArray, List.map_cons, List.map_nil]
 exact this
theorem V.advLines_len (x : V.Adv) (k : Nat) : (V.jo x k).length ≤ x.aff.length + 1 := by
 unfold V.jo
 rw [List.length_cons, List.length_map, List.length_take]
 omega
theorem V.adv_words {x : V.Adv} (h : V.ql x = true) : ∀ l ∈ V.qc x, l.length = 4 /\ ∀ u ∈ l, u.length ≤ 10000 := by
 have hp := V.ja h
 intro l hl
 unfold V.qc V.jo at hl
 rcases List.mem_cons.1 hl with rfl | hl
 ·refine ⟨rfl, fun u hu => ?_⟩
  have h1 := V.name_len hp.id
  have h2 := zig (n := x.rev.toNat) (by have := hp.rev1; omega)
  have h3 := zig (n := x.sev.toNat) (by have := hp.sev1; omega)
  simp only [V.xm, List.mem_cons, List.not_mem_nil, or_false] at hu
  rcases hu with rfl | rfl | rfl | rfl
  ·decide
  ·omega
  ·omega
  ·omega
 ·rw [List.take_length] at hl
  obtain ⟨a, ha, rfl⟩ := List.mem_map.1 hl
  obtain ⟨s1, s2, s3, s4⟩ := V.yk (hp.sound ha)
  refine ⟨rfl, fun u hu => ?_⟩
  have h1 := V.zfd s1
  have h2 := V.zd6 a.sch
  have h3 := znz (V.wu s4) (fun e => by rw [e] at s3; simp at s3)
  simp only [V.uk, List.mem_cons, List.not_mem_nil, or_false] at hu
  rcases hu with rfl | rfl | rfl | rfl
  ·decide
  ·omega
  ·omega
  ·exact h3
theorem V.adv_sz {x : V.Adv} (h : V.ql x = true) : V.kb (V.qc x) (V.qc x).length ≤ 9000000 := by
 have hl := V.advLines_len x x.aff.length
 have h16 := (V.ja h).len
 have := V.znn (ls := V.qc x) (M := 4 * 30002) (fun l hm => by
   obtain ⟨h4, hw⟩ := V.adv_words h l hm
   have := V.zrv (x := l) (M := 30002) (fun u hu => by
     have h1 := hw u hu
     have h2 := V.xu u
     omega)
   rw [h4] at this ⊢; exact this) (V.qc x).length (zvt _)
 have h17 : (V.qc x).length ≤ 17 := by unfold V.qc; omega
 have := Nat.mul_le_mul_right (4 * 30002) h17
 omega
def EncV (x : V.Adv) (w : World) (e : Ending) (w' : World) : Prop :=
 ((V.encV x).2 = 0 -> ∃ u N W0, e = .returned (.tuple #[u, .int .i64 0]) /\ Buf N u (V.encV x).1 W0 w') /\
 (¬ (V.encV x).2 = 0 -> e = .returned (.tuple #[.slice none 0 0, .int .i64 (V.encV x).2])) /\ Below w.heap.size w w'
end Go.Proofs.YtiloljoancdcbaaGreatDoor
