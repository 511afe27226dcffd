/-
  Lemmas for the law.
-/
import Derived.Test.YtnhfaincdabdkaaGreatDoorC32x33
import Derived.Test.YtnhfaincdabdkaaGreatDoorC32x32
import Derived.Test.YtnhfaincdabdkaaGreatDoorC32x34
import Derived.Test.YtnhfaincdabdkaaGreatDoorC32x22
import Derived.Test.YtnhfaincdabdkaaGreatDoorC32x19
import Derived.Test.YtnhfaincdabdkaaGreatDoorC32x21
set_option linter.all false
set_option maxRecDepth 100000
set_option maxHeartbeats 6400000
namespace Go.Proofs.YtnhfaincdabdkaaGreatDoor
open Go.RowKit
def zmj (ls : List (List V.Bs)) (w : World) (e : Ending) (w' : World) : Prop :=
 ∃ u us, e = .returned (.tuple #[advV ((V.kh ls).getD V.zV) u, .bool (V.kh ls).isSome]) /\ (FRow w.heap.size w' u us /\ us.map (·.1) = ((V.kh ls).getD V.zV).aff /\ ∀ p ∈ us, ∀ c, p.2.v.ownBlock = some c -> w.heap.size ≤ c) /\ Below w.heap.size w w'
theorem zth (s : V.Bs) : 0 ≤ (V.numP s).1 /\ (V.numP s).1 ≤ 1099511627776 := by
 unfold V.numP
 split
 ·rename_i h
  constructor
  ·show (0 : Int) ≤ ((V.valD s : Nat) : Int); omega
  ·show ((V.valD s : Nat) : Int) ≤ _; have := h.2.2.2.2; omega
 ·decide
theorem zt1 (n : Int) (s : V.Bs) : Lens (V.parP n s).2.1 /\ (V.parP n s).2.1.length ≤ 32 := by
 unfold V.parP
 split
 ·rename_i l c h
  have hp := (V.zi5 (n := n) (s := s) (l := l) (by rw [h])).1
  exact ⟨yt hp, hp.len⟩
 ·exact ⟨(fun x hx => by simp at hx), Nat.zero_le _⟩
theorem V.readF_wf {l : List V.Bs} (hw : ∀ x ∈ l, x.length ≤ 32768) : AffWf (V.ui l).1 := by
 have hz : AffWf V.zA := ⟨Nat.zero_le _, (fun x hx => by simp [V.zA] at hx), Nat.zero_le _⟩
 unfold V.ui
 split
 ·rename_i a s n r
  split
  ·have h1 := hw n (by simp)
   have h2 := zt1 (V.ki s) r
   exact ⟨by show n.length ≤ maxLen; unfold maxLen; omega, h2.1, Nat.le_trans h2.2 (by decide)⟩
  ·exact hz
 ·exact hz
theorem zkg (w : World) : Below w.heap.size w (w.alloc (.cells #[.string ⟨#[]⟩, .int .i64 0, .int .i64 0, .slice none 0 0] 41)) /\ (w.alloc (.cells #[.string ⟨#[]⟩, .int .i64 0, .int .i64 0, .slice none 0 0] 41)).heap[w.heap.size]? = some (.cells #[.string ⟨#[]⟩, .int .i64 0, .int .i64 0, .slice none 0 0] 41 (0, 0)) /\ (w.alloc (.cells #[.string ⟨#[]⟩, .int .i64 0, .int .i64 0, .slice none 0 0] 41)).heap.size = w.heap.size + 1 :=
 ⟨(zut _ w).alloc (zus _) _, heap_alloc_new w _, by simp⟩
theorem zu7 {P : Prop} (h : P := by
 go_wp2_with (first | (refine kx rfl qu _ _ rfl w.heap.size #[.string ⟨#[]⟩, .int .i64 0, .int .i64 0, .slice none 0 0] 41 HK0.out rfl (.string ⟨#[]⟩) (.int .i64 0) (.int .i64 0) (.slice none 0 0) ⟨rfl, rfl, rfl, rfl⟩ rfl rfl ?_) | fail)
 exact HEX.out _ HE.out HK0.out HB0.out _ Tryz.results77 _ rfl rfl rfl) : P := h
theorem zpl (v : Value) (ls : List (List V.Bs)) (w : World) (hm : zg w) (hv : Lines w v ls) (hcap : CapOk v) (hw : ∀ l ∈ ls, ∀ x ∈ l, x.length ≤ 32768) (hn : ls.length ≤ 1000) :
  Calls Tryz.prog 77 #[v] w (zmj ls w) := by
 obtain ⟨hb0, hk0, hz0⟩ := zkg w
 have HM := zuq hm
 have HB0 := zuq hb0
 have HK0 := zuq hk0
 have HZ0 := zuq hz0
 clear hz0
 have HU0 := zuq (hv.below hb0)
 have HWD := zuq hw
 obtain ⟨va, vn, vc, rfl, hvc⟩ := hcap
 obtain rfl : vn = ls.length := by obtain ⟨_, _, e, _⟩ := hv; cases e; rfl
 have HEX : Hid (∀ (W : World), V.kh ls = none -> W.heap[w.heap.size]? = some (.cells #[.string ⟨#[]⟩, .int .i64 0, .int .i64 0, .slice none 0 0] 41 (0, 0)) -> Below w.heap.size w W ->
     ∀ fn : Func, fn.results = #[.cell 2 41, .tmp 3] -> ∀ a : Act, a.tmps.getD 2 undef = .pointer (some ⟨w.heap.size, 0, none⟩) -> a.tmps.getD 3 undef = .bool false -> a.defers = [] ->
     bodyPost Tryz.prog fn (zmj ls w) .ret a (W.setRow w.heap.size #[.string ⟨#[]⟩, .int .i64 0, .int .i64 0, .slice none 0 0])) := zuq (by
   intro W hr hg hb fn hfn a h4 h5 h6
   refine bodyPost_ret (kn hfn h4 h5 (zdj Tryz.underlying41 qu (setRow_heap _ _ _ _ _ _ hg))) h6 ?_
   exact ⟨.slice none 0 0, [], by rw [hr]; rfl, ⟨FRow.nil _ _, by rw [hr]; rfl, fun p hp => by simp at hp⟩, qy hb _ _ (zus _) (Array.getElem?_eq_some_iff.1 hg).1⟩)
 clear hm hv hw hb0 hk0
 match ls, HU0, HWD, hvc, hn, HEX with
 | [], HU0, HWD, hvc, hn, HEX =>
  have HE : Hid (V.kh [] = none) := zuq rfl
  clear HU0 HWD
  go_enter Tryz.func77, Tryz.ntmps77
  exact zu7
 | l0 :: rest, HU0, HWD, hvc, hn, HEX =>
  obtain ⟨B, off, u0, rfl, hBlt, hu0, hs0⟩ := HU0.out.at 0 (by simp)
  rw [Nat.add_zero] at hu0
  simp only [List.getElem_cons_zero] at hs0
  obtain ⟨m, hmm⟩ : ∃ m, m = rest.length + 1 := ⟨_, rfl⟩
  have hls : (l0 :: rest).length = m := by rw [hmm]; rfl
  rw [hls] at hvc hn HU0 ⊢
  have HMM := zuq hmm
  have q1 : (m : Int) ≠ 0 := by omega
  have q2 : ((m : Int) == 0) = false := by rw [zuu]; omega
  have q3 : (0 : Int) < (m : Int) := by omega
  clear hls hmm
  by_cases h4 : l0.length = 4
  case neg =>
   have HE := zuq (V.ztx (rest := rest) h4)
   obtain ⟨a0, c0, rfl, hjunk⟩ := hs0
   have q4 : ((l0.length : Int) != 4) = true := by simp; omega
   have q5 : ¬ (l0.length : Int) = 4 := by omega
   clear hjunk HU0 HWD h4
   generalize l0.length = m0 at *
   go_enter Tryz.func77, Tryz.ntmps77
   exact zu7
  obtain ⟨a, i, r, s, rfl⟩ := zku h4
  obtain ⟨b0, o0, c0, rfl, hb0lt, ca, ci, cr, cs⟩ := zkk hs0
  have hrl : (⟨r.toArray⟩ : ByteArray).size ≤ maxLen := by rw [zck]; have := HWD.out _ (List.mem_cons_self ..) r (by simp); unfold maxLen; omega
  have hsl : (⟨s.toArray⟩ : ByteArray).size ≤ maxLen := by rw [zck]; have := HWD.out _ (List.mem_cons_self ..) s (by simp); unfold maxLen; omega
  clear h4 hs0
  by_cases ha : a = V.advW
  case neg =>
   have HE : Hid (V.kh ([a, i, r, s] :: rest) = none) := zuq (by rw [V.zfd, if_neg (fun e => ha e.1)])
   have hne : (a == [97, 100, 118, 105, 115, 111, 114, 121]) = false := by rw [zuu]; exact ha
   clear HU0 HWD ha ci cr cs hrl hsl
   go_enter Tryz.func77, Tryz.ntmps77
   exact zu7
  subst ha
  have hcw : (⟨V.advW.toArray⟩ : ByteArray) = ⟨#[97, 100, 118, 105, 115, 111, 114, 121]⟩ := rfl
  rw [hcw] at ca
  clear hcw
  have HF := zuq (V.zfd V.advW i r s rest)
  have HRL := zuq hrl
  have HSL := zuq hsl
  clear hrl hsl
  go_enter Tryz.func77, Tryz.ntmps77
  go_wp2_with fail
  generalize w.alloc (.cells #[.string ⟨#[]⟩, .int .i64 0, .int .i64 0, .slice none 0 0] 41) = w0 at *
  refine (zba ⟨r.toArray⟩ w0 HRL.out).mono ?_
  rintro e w' ⟨rfl, rfl⟩
  rw [zad] at *
  have HF1 : Hid ((V.numP r).2 = false -> V.kh ([V.advW, i, r, s] :: rest) = none) := zuq (fun h => by rw [HF.out, if_neg (fun e => by rw [h] at e; cases e.2.1)])
  have HF2 : Hid ((V.numP s).2 = false -> V.kh ([V.advW, i, r, s] :: rest) = none) := zuq (fun h => by rw [HF.out, if_neg (fun e => by rw [h] at e; cases e.2.2)])
  have HF3 : Hid ((V.numP r).2 = true -> (V.numP s).2 = true -> V.kh ([V.advW, i, r, s] :: rest) = (V.xg rest).map fun l => ⟨i, (V.numP r).1, (V.numP s).1, l⟩) := zuq (fun h g => by rw [HF.out, if_pos (by simp [h, g])])
  clear HF
  generalize (V.numP r).1 = nr at *
  generalize (V.numP r).2 = okr at *
  go_wp2_with fail
  refine (zba ⟨s.toArray⟩ _ HSL.out).mono ?_
  rintro e w' ⟨rfl, rfl⟩
  rw [zad] at *
  have hns := zth s
  generalize (V.numP s).1 = ns at *
  generalize (V.numP s).2 = oks at *
  by_cases hno : okr = true /\ oks = true
  case neg =>
   have HE : Hid (V.kh ([V.advW, i, r, s] :: rest) = none) := zuq (by
     rcases okr with _ | _
     · exact HF1.out rfl
     · rcases oks with _ | _
       · exact HF2.out rfl
       · exact absurd ⟨rfl, rfl⟩ hno)
   clear HF1 HF2 HF3 HU0 HWD ca ci cr cs hu0
   rcases okr with _ | _
   ·exact zu7
   ·rcases oks with _ | _
    ·exact zu7
    ·exact absurd ⟨rfl, rfl⟩ hno
  obtain ⟨rfl, rfl⟩ := hno
  have HN3 : Hid (V.xg rest = none -> V.kh ([V.advW, i, r, s] :: rest) = none) := zuq (fun h => by rw [HF3.out rfl rfl, h]; rfl)
  have HN4 : Hid (∀ l, V.xg rest = some l -> V.kh ([V.advW, i, r, s] :: rest) = some ⟨i, nr, ns, l⟩) := zuq (fun l h => by rw [HF3.out rfl rfl, h]; rfl)
  obtain ⟨o2, hpart, hparts⟩ := zqz HU0.out HMM.out hvc
  have HPT := zuq hparts
  have hm1 : m - 1 = rest.length := by have := HMM.out; omega
  have wns : IntKind.i64.wrap ns = ns := IntWalk.i64_in _ (by omega)
  have hb5 : Below w'.heap.size w' (w'.alloc (.cells #[.string ⟨i.toArray⟩, .int .i64 nr, .int .i64 ns, .slice none 0 0] 41)) := (zut _ w').alloc (zus _) _
  have HD5 : Hid (VInv w' w.heap.size w'.heap.size (.string ⟨i.toArray⟩) (.int .i64 nr) (.int .i64 ns) (.slice none 0 0) [] (w'.alloc (.cells #[.string ⟨i.toArray⟩, .int .i64 nr, .int .i64 ns, .slice none 0 0] 41))) := zuq ⟨FRow.nil _ _, heap_alloc_new w' _, (hb5.block _ (by have := HZ0.out; omega)).trans HK0.out, (fun p hp => by simp at hp), hb5, by have := HZ0.out; omega⟩
  have HBO : Hid (w.heap.size + 1 ≤ w'.heap.size /\ B < w'.heap.size /\ rest.length ≤ 999) := zuq ⟨by have := HZ0.out; omega, hBlt, by have := HMM.out; omega⟩
  clear hb5 HF1 HF2 HF3 hparts ca cr cs
  go_wp2_with fail
  generalize w'.alloc (.cells #[.string ⟨i.toArray⟩, .int .i64 nr, .int .i64 ns, .slice none 0 0] 41) = w5 at *
  obtain ⟨O, hO⟩ : ∃ O, O = w'.heap.size := ⟨_, rfl⟩
  try rw [hm1]
  rw [← hO] at HD5 HBO ⊢
  have HOE := zuq hO
  clear hO hpart hm1 hBlt hb0lt hvc hn q1 q2 q3 hu0 ci
  go_loopw [68] (fun jv W => ∃ (k : Nat) (vo : Value) (us : List Fs), k ≤ rest.length /\ us.length = k /\ jv = .int .i64 k /\ V.wg rest k (us.map (·.1)) /\ VInv w' w.heap.size O (.string ⟨i.toArray⟩) (.int .i64 nr) (.int .i64 ns) vo us W) (fun jv _ => rest.length - (intOf jv).toNat)
  case atStart => exact ⟨0, _, [], Nat.zero_le _, rfl, rfl, V.zoh _, HD5.out⟩
  case round =>
   obtain ⟨k, vo, us, hk, hok, rfl, hrt, hdi⟩ := hrel
   have HRT := zuq hrt
   have HOK := zuq hok
   have HDI := zuq hdi
   obtain ⟨vao, vco, hvo⟩ := hdi.row.slice
   subst hvo
   have hBO := HBO.out
   clear hok hrt HD5
   by_cases hlt : k < rest.length
   ·obtain ⟨u, hu, hs⟩ := HPT.out k hlt
    have hold : Below w'.heap.size w' wr := by rw [← HOE.out]; exact hdi.old
    have huW := zb hold hu
    have HSW := zuq (vp hs hold)
    have HWL : Hid (∀ x ∈ rest[k], x.length ≤ 32768) := zuq (fun x hx => HWD.out _ (List.mem_cons_of_mem _ (List.getElem_mem hlt)) x hx)
    have HWM : Hid (∀ x ∈ rest[k], x.length ≤ maxLen) := zuq (fun x hx => by have := HWL.out x hx; unfold maxLen; omega)
    have HMW := zuq (HM.out.below (HB0.out.trans (hold.mono HB0.out.size)))
    obtain ⟨au, cu, hue, hj⟩ := HSW.out
    subst hue
    have HNO := zuq (V.zrn HRT.out hlt)
    have HYES := zuq (V.zoc HRT.out hlt)
    have HWF := zuq (V.readF_wf HWL.out)
    have hi1 : (0 : Int) ≤ (k : Int) := by omega
    have hi2 : (k : Int) < (rest.length : Int) := by omega
    clear hj hold hu hs hdi hBO
    go_wp2_with fail
    refine (zhz _ rest[k] wr HMW.out HSW.out HWM.out).mono ?_
    rintro e w6 ⟨u6, rfl, hu6, how6, hb6⟩
    have HD6 := zuq (HDI.out.call hb6)
    have HOW6 : Hid (∀ c, u6.ownBlock = some c -> O < c) := zuq (fun c hc => by have := how6 c hc; have := HDI.out.lt; omega)
    have HRO : Hid (∀ c, u6.ownBlock = some c -> (Value.slice vao us.length vco).ownBlock ≠ some c) := zuq (fun c hc e => by
      have h1 := how6 c hc
      obtain ⟨_, hq⟩ := HDI.out.row.row
      rcases hq with ⟨e2, _⟩ | ⟨b, cap, cur, e2, _, hgg, _⟩
      · rw [e2] at e; cases e
      · rw [e2] at e
        simp [Value.ownBlock] at e
        subst e
        have := (Array.getElem?_eq_some_iff.1 hgg).1
        omega)
    obtain ⟨ua6, uc6, hue6⟩ := hu6.slice
    subst hue6
    have HI6 := zuq hu6
    clear hb6 HDI HSW HWL HWM HRT huW how6 hu6
    generalize (V.ui rest[k]).1 = a at *
    generalize (V.ui rest[k]).2 = ok at *
    unfold affV
    obtain ⟨hb7, y0, y1, y2, y3⟩ := zcn a (.slice ua6 a.its.length uc6) w6
    have HD7 := zuq (HD6.out.call hb7)
    have HI7 := zuq (HI6.out.below hb7)
    have hXO : O < w6.heap.size := HD6.out.lt
    clear hb7 HD6 HI6
    rcases ok with _ | _
    ·have HE := zuq (HN3.out (HNO.out rfl))
     have HB7 : Hid (Below w.heap.size w (w6.alloc (.cells #[.int .i64 a.sch, .string ⟨a.name.toArray⟩, .int .i64 a.rs, .slice ua6 a.its.length uc6] 50))) := zuq (HB0.out.trans (HD7.out.old.mono (show w.heap.size ≤ O by have := HD7.out.base; omega)))
     go_wp2_with (first | (refine kx rfl qu _ _ rfl w.heap.size #[.string ⟨#[]⟩, .int .i64 0, .int .i64 0, .slice none 0 0] 41 HD7.out.zero rfl (.string ⟨#[]⟩) (.int .i64 0) (.int .i64 0) (.slice none 0 0) ⟨rfl, rfl, rfl, rfl⟩ rfl rfl ?_) | fail)
     exact HEX.out _ HE.out HD7.out.zero HB7.out _ Tryz.results77 _ rfl rfl rfl
    ·have HR8 := zuq (HYES.out rfl)
     have hi3 := (yx HD7.out.inv).2.2.2
     have hout : us.length ≤ 1000 := by have := HBO.out; have := HOK.out; omega
     have hr9 : rest.length ≤ 999 := HBO.out.2.2
     have wr1 : IntKind.i64.wrap ((k : Int) + 1) = (k : Int) + 1 := IntWalk.i64_in _ (by omega)
     have hO7 : O ≤ (w6.alloc (.cells #[.int .i64 a.sch, .string ⟨a.name.toArray⟩, .int .i64 a.rs, .slice ua6 a.its.length uc6] 50)).heap.size := Nat.le_of_lt HD7.out.lt
     have HP7 : Hid (FOk (w6.alloc (.cells #[.int .i64 a.sch, .string ⟨a.name.toArray⟩, .int .i64 a.rs, .slice ua6 a.its.length uc6] 50)) (.slice vao us.length vco) (a, ⟨ua6, a.its.length, uc6⟩)) := zuq ⟨HWF.out, rfl, HI7.out, fun _ => HRO.out⟩
     clear HNO HYES hi1 hi2
     have hb8 : Below (w6.alloc (.cells #[.int .i64 a.sch, .string ⟨a.name.toArray⟩, .int .i64 a.rs, .slice ua6 a.its.length uc6] 50)).heap.size (w6.alloc (.cells #[.int .i64 a.sch, .string ⟨a.name.toArray⟩, .int .i64 a.rs, .slice ua6 a.its.length uc6] 50)) ((w6.alloc (.cells #[.int .i64 a.sch, .string ⟨a.name.toArray⟩, .int .i64 a.rs, .slice ua6 a.its.length uc6] 50)).alloc (.cells #[.int .i64 a.sch, .string ⟨a.name.toArray⟩, .int .i64 a.rs, .slice ua6 a.its.length uc6] 50)) := (zut _ _).alloc (zus _) _
     have HA := zuq (HD7.out.call hb8)
     have HP8 : Hid (FOk ((w6.alloc (.cells #[.int .i64 a.sch, .string ⟨a.name.toArray⟩, .int .i64 a.rs, .slice ua6 a.its.length uc6] 50)).alloc (.cells #[.int .i64 a.sch, .string ⟨a.name.toArray⟩, .int .i64 a.rs, .slice ua6 a.its.length uc6] 50)) (.slice vao us.length vco) (a, ⟨ua6, a.its.length, uc6⟩)) := zuq ⟨HP7.out.1, HP7.out.2.1, HP7.out.2.2.1.below hb8, HP7.out.2.2.2⟩
     have HNW : Hid (∀ j u, (fE (a, ⟨ua6, a.its.length, uc6⟩))[j]? = some u -> ((w6.alloc (.cells #[.int .i64 a.sch, .string ⟨a.name.toArray⟩, .int .i64 a.rs, .slice ua6 a.its.length uc6] 50)).alloc (.cells #[.int .i64 a.sch, .string ⟨a.name.toArray⟩, .int .i64 a.rs, .slice ua6 a.its.length uc6] 50)).cell? ⟨w6.heap.size + 1, j, none⟩ = some u) := zuq (fun j u hj => by rw [zc, if_pos (by simp)]; simpa [fE, Sl.v] using hj)
     have HO8 : Hid (O ≤ ((w6.alloc (.cells #[.int .i64 a.sch, .string ⟨a.name.toArray⟩, .int .i64 a.rs, .slice ua6 a.its.length uc6] 50)).alloc (.cells #[.int .i64 a.sch, .string ⟨a.name.toArray⟩, .int .i64 a.rs, .slice ua6 a.its.length uc6] 50)).heap.size) := zuq (Nat.le_of_lt HA.out.lt)
     clear hb8 hO7
     go_wp2_with (first | (refine zda zka (by decide) zng affGI (by decide) rfl _ _ 39 rfl Tryz.underlying39 O (.slice vao us.length vco) us rfl HA.out.row.row (w6.heap.size + 1) (a, ⟨ua6, a.its.length, uc6⟩) rfl HNW.out (by omega) HO8.out ?_
                           intro v8 w8 hr8 hg8 ho8
                           have hk8 := HA.out.invKept hg8
                           have hc8 : w8.cell? ⟨O, 3, none⟩ = some (.slice vao us.length vco) := (yx hk8).2.2.2
                           have hf8 : w8.frozen? ⟨O, 3, none⟩ = false := zi4 hk8
                           have hfr := HA.out.row.add hr8 hg8 ho8 HP8.out
                           have HM9 := zuq (HA.out.append hfr hg8 HOW6.out)
                           obtain ⟨va8, vc8, hv8⟩ := hfr.slice
                           subst hv8
                           rw [show (us ++ [((a, ⟨ua6, a.its.length, uc6⟩) : Fs)]).length = us.length + 1 by simp] at HM9 ⊢
                           clear hr8 hg8 ho8 hk8 hfr)
                        | (refine wl_set rfl 39 _ _ rfl O 3 rfl (.slice va8 (us.length + 1) vc8) rfl _ hc8 hf8 zeg rfl ?_
                           clear hc8 hf8
                           generalize w8.setCell ⟨O, 3, none⟩ (.slice va8 (us.length + 1) vc8) = w9 at *) | fail)
     go_roundw
     case rel => exact ⟨k + 1, _, us ++ [(a, ⟨ua6, a.its.length, uc6⟩)], by omega, by rw [List.length_append, HOK.out]; rfl, by go_num, by rw [List.map_append]; exact HR8.out, HM9.out⟩
     case measure => simp [intOf]; omega
   ·obtain rfl : k = rest.length := by omega
    have HAL := zuq (HN4.out _ (V.zpo HRT.out))
    have HBW : Hid (Below w.heap.size w wr) := zuq (HB0.out.trans (hdi.old.mono (show w.heap.size ≤ O by omega)))
    have HAF := zuq hdi.row.affs
    have hc4 := yx hdi.inv
    obtain ⟨z0, z1, z2, z3⟩ := hc4
    clear hdi hBO
    go_wp2_with (first | (refine kx rfl qu _ _ rfl w.heap.size #[.string ⟨#[]⟩, .int .i64 0, .int .i64 0, .slice none 0 0] 41 HDI.out.zero rfl (.string ⟨i.toArray⟩) (.int .i64 nr) (.int .i64 ns) (.slice vao us.length vco) ⟨rfl, rfl, rfl, rfl⟩ rfl rfl ?_) | fail)
    refine bodyPost_ret (v := .tuple #[.agg #[.string ⟨i.toArray⟩, .int .i64 nr, .int .i64 ns, .slice vao us.length vco], .bool true]) (kn Tryz.results77 rfl rfl (zdj Tryz.underlying41 qu (setRow_heap _ _ _ _ _ _ HDI.out.zero))) rfl ?_
    have hbase : w.heap.size + 1 ≤ O := HDI.out.base
    refine ⟨.slice vao us.length vco, us, by rw [HAL.out]; rfl, ⟨?_, by rw [HAL.out]; rfl, fun p hp c hc => by have := HDI.out.own p hp c hc; omega⟩, qy HBW.out _ _ (zus _) (Array.getElem?_eq_some_iff.1 HDI.out.zero).1⟩
    exact (HDI.out.row.kept (qe _ _ _) (HDI.out.rowNe HDI.out.zero (by decide)) (fun p hp c hc => by have := HDI.out.own p hp c hc; omega)).weaken (by omega)
def txtB (x : V.Itv) : ByteArray := ⟨(V.qd x).toArray⟩
def FmtPost (r : V.Bs × Int) (w : World) (e : Ending) (w' : World) : Prop := e = .returned (.tuple #[.string ⟨r.1.toArray⟩, .int .i64 r.2]) /\ Below w.heap.size w w'
theorem txt_step {l : List V.Itv} {k : Nat} (h : k < l.length) : (l.take (k + 1)).map txtB = (l.take k).map txtB ++ [txtB l[k]] := by
 rw [List.take_succ_eq_append_getElem h, List.map_append]
 rfl
theorem zqm {l : List V.Itv} (h : l ≠ []) : Lib.join ((l.map txtB).map (·.data.toList)) V.orT = V.vg l := by
 unfold V.vg
 rw [if_neg (by simpa using h), List.map_map]
 rfl
theorem zsg {n : Int} {l : List V.Itv} (h : V.Ok n l) (h0 : l ≠ []) : (V.vg l).length ≤ 10000 := by
 rcases l with _ | ⟨x, r⟩
 ·exact absurd rfl h0
 ·have hle : ∀ y ∈ V.qd x :: r.map V.qd, y.length ≤ 133 := by
   intro y hy
   rw [← List.map_cons (f := V.qd), List.mem_map] at hy
   obtain ⟨z, hz, rfl⟩ := hy
   exact (V.zgl (V.zoj h hz)).len
  have h1 := V.zny hle
  have h2 := h.len
  rw [List.length_map] at h1
  rw [List.length_cons] at h2
  show (Lib.join (V.qd x :: r.map V.qd) V.orT).length ≤ _
  omega
theorem zrm {w W1 W2 : World} {N : Nat} {v : Value} {l : List ByteArray} {o : Obj} (h1 : Below N w W1) (hN : N ≤ w.heap.size) (hr : SRow W1 N v l) (h2 : (W1.alloc o).grownBy W2 v.ownBlock) : Below N w W2 :=
 (h1.alloc (Nat.le_trans hN h1.size) o).trans ⟨h2.os, h2.tape, h2.output, h2.size, fun k hk => h2.block k (by have := h1.size; simp; omega) (fun e => by have := GRow.block hr k e.symm; omega)⟩
theorem zno (n : Int) (v : Value) (l : List V.Itv) (w : World) (hm : zg w) (hv : Itvs w v l) (hs : Lens l) (hl : l.length ≤ maxLen) :
  Calls Tryz.prog 64 #[setV n v] w (FmtPost (V.zcj n l) w) := by
 have HV := zuq hv
 obtain ⟨va, vc, rfl⟩ := hv.slice
 have HL := zuq hl
 unfold maxLen at hl
 have HS := zuq hs
 have HF : Hid (V.zcj n l = if V.okR n l then (V.vg l, 0) else ([], 1)) := zuq rfl
 have hb0 : Below w.heap.size w (w.alloc (.cells #[.int .i64 n, .slice va l.length vc] 48)) := (zut _ w).alloc (zus _) _
 have HB0 := zuq hb0
 have HM := zuq (hm.below hb0)
 have c0 : (w.alloc (.cells #[.int .i64 n, .slice va l.length vc] 48)).cell? ⟨w.heap.size, 0, none⟩ = some (.int .i64 n) := by simp [zc]
 have c1 : (w.alloc (.cells #[.int .i64 n, .slice va l.length vc] 48)).cell? ⟨w.heap.size, 1, none⟩ = some (.slice va l.length vc) := by simp [zc]
 have hz0 : w.heap.size < (w.alloc (.cells #[.int .i64 n, .slice va l.length vc] 48)).heap.size := by simp
 clear hv hs hb0 hm
 unfold setV
 go_enter Tryz.func64, Tryz.ntmps64
 go_wp2_with fail
 generalize w.alloc (.cells #[.int .i64 n, .slice va l.length vc] 48) = w0 at *
 refine (wv n (.slice va l.length vc) l w0 HM.out (HV.out.below HB0.out) HS.out HL.out).mono ?_
 rintro e w1 ⟨rfl, hb1⟩
 have HB1 := zur HB0 hb1
 have d0 := za hb1 c0
 have d1 := za hb1 c1
 have hz1 : w.heap.size < w1.heap.size := Nat.lt_of_lt_of_le hz0 hb1.size
 clear hb1 c0 c1 hz0 HM
 rcases hok : V.okR n l with _ | _
 ·have HR : Hid (V.zcj n l = ([], 1)) := zuq (by rw [HF.out, hok]; rfl)
  clear hok
  go_wp2
  go_ret2
  exact (by rw [HR.out]; exact ⟨rfl, HB1.out⟩)
 ·have HOK := zuq (V.vl hok)
  have HF2 : Hid (V.zcj n l = (V.vg l, 0)) := zuq (by rw [HF.out, hok]; rfl)
  clear hok
  by_cases h0 : l = []
  ·have hq : ((l.length : Int) == 0) = true := by rw [h0]; rfl
   have HR : Hid (V.zcj n l = (V.zc1, 0)) := zuq (by rw [HF2.out, h0]; rfl)
   clear h0
   go_wp2
   go_ret2
   exact (by rw [HR.out]; exact ⟨rfl, HB1.out⟩)
  ·have HNE := zuq h0
   have hq : ((l.length : Int) == 0) = false := by rw [zuu]; have := List.length_pos_iff.2 h0; omega
   clear h0
   have h32 : l.length ≤ 32 := HOK.out.len
   have HD := zuq d1
   go_wp2_with fail
   clear d0 d1
   go_loopw [4, 17] (fun v iv wx => ∃ k : Nat, k ≤ l.length /\ iv = .int .i64 k /\ SRow wx w1.heap.size v ((l.take k).map txtB) /\ Below w1.heap.size w1 wx) (fun _ iv _ => l.length - (intOf iv).toNat)
   case atStart => exact ⟨0, Nat.zero_le _, rfl, GRow.nil _ _, zut _ _⟩
   case round =>
    obtain ⟨k, hk, rfl, hr, hbx⟩ := hrel
    have HR0 := zuq hr
    have HBX := zuq hbx
    have HBF := zur HB1 hbx
    have e1 := za hbx HD.out
    clear hr hbx
    by_cases hlt : k < l.length
    ·obtain ⟨b, off, rfl, hb0, hx⟩ := HV.out.at k hlt
     obtain ⟨h0, h1, h2, h3⟩ := hx.below hb0 HBF.out
     have hi1 : (0 : Int) ≤ (k : Int) := by omega
     have hi2 : (k : Int) < (l.length : Int) := by omega
     have HBK : Hid (V.zk n l[k] = true) := zuq (HOK.out.bnd _ (List.getElem_mem hlt))
     have HST := zuq (txt_step hlt)
     have HLK : Hid (((l.take k).map txtB).length ≤ 32) := zuq (by rw [List.length_map, List.length_take]; omega)
     clear hx
     generalize l[k] = x at *
     generalize (l.take k).map txtB = L at *
     have HXA := zuq ((zut wr.heap.size wr).alloc (zus _) (.cells #[.string ⟨x.lo.toArray⟩, .int .i64 x.lk, .string ⟨x.hi.toArray⟩, .int .i64 x.hk] 120))
     go_wp2_with fail
     refine (zrc n x _ HBK.out).mono ?_
     rintro e w2 ⟨rfl, hb2⟩
     have HB2 := zur HXA hb2
     clear hb2 h0 h1 h2 h3
     go_wp2_with (first | (refine zp yj (by decide) yh yg (by decide) rfl _ _ 61 rfl Tryz.underlying61 w1.heap.size _ L rfl (GRow.below HR0.out (HB2.out.alloc HB2.out.size _)) w2.heap.size (txtB x) rfl (fun j u hu => by rw [World.cell?_alloc_new]; simpa [baE, txtB] using hu) (by have := HLK.out; omega) (by have := HB2.out.size; have := HBX.out.size; simp; omega) ?_; intro v2 W2 hr2 hg2) | fail)
     have HR2 : Hid (SRow W2 w1.heap.size v2 (L ++ [txtB x])) := zuq hr2
     have HB3 := zuq (zrm (HBX.out.trans (HB2.out.mono HBX.out.size)) (zus _) (GRow.below HR0.out HB2.out) hg2)
     clear hr2 hg2
     go_wp2_with fail
     go_roundw
     case rel => exact ⟨k + 1, by omega, by go_num, by rw [HST.out]; exact HR2.out, HB3.out⟩
     case measure => simp [intOf]; omega
    ·obtain rfl : k = l.length := by omega
     have HRA : Hid (SRow wr w1.heap.size _ (l.map txtB)) := zuq (by have := HR0.out; rw [List.take_length] at this; exact this)
     go_wp2_with fail
     refine (yi wr w1.heap.size _ (l.map txtB) ⟨#[32, 124, 124, 32]⟩ HRA.out (by simpa using HNE.out) (by simp; omega) (by rw [show (ByteArray.mk #[32, 124, 124, 32]).data.toList = V.orT from rfl, zqm HNE.out]; have := zsg HOK.out HNE.out; omega)).mono ?_
     rintro e w3 ⟨rfl, hb3⟩
     have HB3 := zur HBF hb3
     have HT : Hid (Lib.join ((l.map txtB).map (·.data.toList)) (ByteArray.mk #[32, 124, 124, 32]).data.toList = V.vg l) := zuq (zqm HNE.out)
     clear hb3
     rw [HT.out]
     go_wp2
     go_ret2
     exact (by rw [HF2.out]; exact ⟨rfl, HB3.out⟩)
open Go.RowKit
theorem zf5 {ops : Array Oper} {o : Oper} {a : Act} {w : World} {K : Act -> World -> Prop} {Q : Exit -> Act -> World -> Prop} {E : Prop} (hgd : o.guard = none) (e1 e2 e3 e4 : Operand) (ho : o.op = .buildSlice 61 4 #[(0, e1), (1, e2), (2, e3), (3, e4)])
  (s1 s2 s3 s4 : V.Bs) (h1 : a.eval e1 = .string ⟨s1.toArray⟩) (h2 : a.eval e2 = .string ⟨s2.toArray⟩) (h3 : a.eval e3 = .string ⟨s3.toArray⟩) (h4 : a.eval e4 = .string ⟨s4.toArray⟩)
  (h : K (a.put o.dst (.slice (some ⟨w.heap.size, 0, none⟩) 4 4)) (w.alloc (.cells (zch [s1, s2, s3, s4]) 9))) : if Region.wanted o (yielded ops a.tmps) = true then Oper.wp Tryz.prog o a w K Q else E := by
 rw [if_pos (by simp [Region.wanted, hgd])]
 obtain ⟨i, hi, hz, hs, hb⟩ := infoS
 refine wp_buildSlice _ 9 4 _ ho (zch [s1, s2, s3, s4]) i _ Tryz.underlying61 hi hz (by rw [hs]; decide) (by rw [hs]; decide) ?_ h
 have := Great.fill_whole (s := 1) (by decide) [Value.string ⟨s1.toArray⟩, Value.string ⟨s2.toArray⟩, Value.string ⟨s3.toArray⟩, Value.string ⟨s4.toArray⟩] ((Array.range (4 * i.size)).map ((Value.string ⟨#[]⟩).cells[· % (Value.string ⟨#[]⟩).cells.size]!)) (fun v hv => by
   simp only [List.mem_cons, List.not_mem_nil, or_false] at hv
   rcases hv with rfl | rfl | rfl | rfl <;> rfl) (by rw [hs]; simp)
 rw [hs] at this ⊢
 simp only [h1, h2, h3, h4, List.map_toArray, List.map_cons, List.map_nil]
 exact this
theorem V.advLines_len (x : V.Adv) (k : Nat) : (V.js x k).length ≤ x.aff.length + 1 := by
 unfold V.js
 rw [List.length_cons, List.length_map, List.length_take]
 omega
theorem V.adv_words {x : V.Adv} (h : V.jk x = true) : ∀ l ∈ V.qk x, l.length = 4 /\ ∀ u ∈ l, u.length ≤ 10000 := by
 have hp := V.xm h
 intro l hl
 unfold V.qk V.js at hl
 rcases List.mem_cons.1 hl with rfl | hl
 ·refine ⟨rfl, fun u hu => ?_⟩
  have h1 := V.name_len hp.id
  have h2 := zm6 (n := x.rev.toNat) (by have := hp.rev1; omega)
  have h3 := zm6 (n := x.sev.toNat) (by have := hp.sev1; omega)
  simp only [V.xf, List.mem_cons, List.not_mem_nil, or_false] at hu
  rcases hu with rfl | rfl | rfl | rfl
  ·decide
  ·omega
  ·omega
  ·omega
 ·rw [List.take_length] at hl
  obtain ⟨a, ha, rfl⟩ := List.mem_map.1 hl
  obtain ⟨s1, s2, s3, s4⟩ := V.xw (hp.sound ha)
  refine ⟨rfl, fun u hu => ?_⟩
  have h1 := V.ze4 s1
  have h2 := V.zdu a.sch
  have h3 := zsg (V.vl s4) (fun e => by rw [e] at s3; simp at s3)
  simp only [V.ya, List.mem_cons, List.not_mem_nil, or_false] at hu
  rcases hu with rfl | rfl | rfl | rfl
  ·decide
  ·omega
  ·omega
  ·exact h3
def EncV (x : V.Adv) (w : World) (e : Ending) (w' : World) : Prop :=
 ((V.encV x).2 = 0 -> ∃ u N W0, e = .returned (.tuple #[u, .int .i64 0]) /\ Buf N u (V.encV x).1 W0 w') /\
 (¬ (V.encV x).2 = 0 -> e = .returned (.tuple #[.slice none 0 0, .int .i64 (V.encV x).2])) /\ Below w.heap.size w w'
end Go.Proofs.YtnhfaincdabdkaaGreatDoor
