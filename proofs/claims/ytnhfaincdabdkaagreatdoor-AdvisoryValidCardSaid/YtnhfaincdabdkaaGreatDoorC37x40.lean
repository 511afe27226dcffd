/-
  Lemmas for the law.
-/
import Derived.Test.YtnhfaincdabdkaaGreatDoorC37x39
import Derived.Test.YtnhfaincdabdkaaGreatDoorC37x38
import Derived.Test.YtnhfaincdabdkaaGreatDoorC37x36
set_option linter.all false
set_option maxRecDepth 100000
set_option maxHeartbeats 6400000
namespace Go.Proofs.YtnhfaincdabdkaaGreatDoor
open Go.RowKit
theorem Lines.at {w : World} {a : Option Addr} {n cap : Nat} {ls : List (List V.Bs)} (h : Lines w (.slice a n cap) ls) (j : Nat) (hj : j < ls.length) : ∃ b off u, a = some ⟨b, off, none⟩ /\ b < w.heap.size /\ w.cell? ⟨b, off + j, none⟩ = some u /\ Strs w u ls[j] := by
 obtain ⟨a', c, e, hc⟩ := h
 cases e
 exact hc j hj
theorem zo8 {w : World} {B off cap m : Nat} {l0 : List V.Bs} {rest : List (List V.Bs)} (h : Lines w (.slice (some ⟨B, off, none⟩) m cap) (l0 :: rest)) (hm : m = rest.length + 1) (hc : m ≤ cap) :
  ∃ o', (if cap = 1 then some (⟨B, off, none⟩ : Addr) else some ⟨B, off + 1, none⟩) = some ⟨B, o', none⟩ /\ ∀ j (hj : j < rest.length), ∃ u, w.cell? ⟨B, o' + j, none⟩ = some u /\ Strs w u rest[j] := by
 by_cases h1 : cap = 1
 ·refine ⟨off, if_pos h1, fun j hj => by omega⟩
 ·refine ⟨off + 1, if_neg h1, fun j hj => ?_⟩
  obtain ⟨b, o, u, e, _, hu, hs⟩ := h.at (j + 1) (by simp; omega)
  cases e
  refine ⟨u, ?_, by simpa using hs⟩
  rw [Nat.add_assoc, Nat.add_comm 1 j]
  exact hu
theorem V.decP_words {bs : V.Bs} : ∀ l ∈ (V.decP bs).1, ∀ x ∈ l, x.length ≤ 32768 := by
 intro l hl x hx
 unfold V.decP at hl
 split at hl
 ·simp at hl
 ·split at hl
  ·rename_i ls hls
   split at hl
   ·simp only at hl
    have hp : ∀ (r : List V.Bs) (ls : List (List V.Bs)), V.jj r = some ls -> ∀ l ∈ ls, V.chk l = 0 := by
     intro r
     induction r with
     | nil => intro ls h; simp [V.jj] at h
     | cons x t ih =>
      intro ls h
      by_cases ht : t = []
      ·subst ht
       unfold V.jj at h
       split at h
       ·cases h; intro l hl; simp at hl
       ·cases h
      ·rw [V.zcg ht] at h
       split at h
       ·cases h
       ·rename_i l0 _
        split at h
        ·rename_i hc
         rw [Option.map_eq_some_iff] at h
         obtain ⟨ls', h1, rfl⟩ := h
         intro l hl
         rcases List.mem_cons.1 hl with rfl | hl
         ·exact hc
         ·exact ih _ h1 l hl
        ·cases h
    exact (V.za9.1 (hp _ _ hls l hl)).2.2 x hx
   ·simp at hl
  ·simp at hl
theorem V.decP_len (bs : V.Bs) : (V.decP bs).1.length ≤ 1000 := by
 unfold V.decP
 split
 ·simp
 ·split
  ·split
   ·assumption
   ·simp
  ·simp
def zkf (ls : List (List V.Bs)) (w : World) (e : Ending) (w' : World) : Prop :=
 ∃ u us, e = .returned (.tuple #[advV ((V.ka ls).getD V.zV) u, .bool (V.ka ls).isSome]) /\ (FRow w.heap.size w' u us /\ us.map (·.1) = ((V.ka ls).getD V.zV).aff /\ ∀ p ∈ us, ∀ c, p.2.v.ownBlock = some c -> w.heap.size ≤ c) /\ Below w.heap.size w w'
theorem zry (s : V.Bs) : 0 ≤ (V.numP s).1 /\ (V.numP s).1 ≤ 1099511627776 := by
 unfold V.numP
 split
 ·rename_i h
  constructor
  ·show (0 : Int) ≤ ((V.valD s : Nat) : Int); omega
  ·show ((V.valD s : Nat) : Int) ≤ _; have := h.2.2.2.2; omega
 ·decide
theorem zsj (n : Int) (s : V.Bs) : Lens (V.parP n s).2.1 /\ (V.parP n s).2.1.length ≤ 32 := by
 unfold V.parP
 split
 ·rename_i l c h
  have hp := (V.zpl (n := n) (s := s) (l := l) (by rw [h])).1
  exact ⟨zgq hp, hp.len⟩
 ·exact ⟨(fun x hx => by simp at hx), Nat.zero_le _⟩
theorem V.readF_wf {l : List V.Bs} (hw : ∀ x ∈ l, x.length ≤ 32768) : AffWf (V.yu l).1 := by
 have hz : AffWf V.zA := ⟨Nat.zero_le _, (fun x hx => by simp [V.zA] at hx), Nat.zero_le _⟩
 unfold V.yu
 split
 ·rename_i a s n r
  split
  ·have h1 := hw n (by simp)
   have h2 := zsj (V.kb s) r
   exact ⟨by show n.length ≤ maxLen; unfold maxLen; omega, h2.1, Nat.le_trans h2.2 (by decide)⟩
  ·exact hz
 ·exact hz
theorem zoc (w : World) : Below w.heap.size w (w.alloc (.cells #[.string ⟨#[]⟩, .int .i64 0, .int .i64 0, .slice none 0 0] 41)) /\ (w.alloc (.cells #[.string ⟨#[]⟩, .int .i64 0, .int .i64 0, .slice none 0 0] 41)).heap[w.heap.size]? = some (.cells #[.string ⟨#[]⟩, .int .i64 0, .int .i64 0, .slice none 0 0] 41 (0, 0)) /\ (w.alloc (.cells #[.string ⟨#[]⟩, .int .i64 0, .int .i64 0, .slice none 0 0] 41)).heap.size = w.heap.size + 1 :=
 ⟨(ztb _ w).alloc (zta _) _, heap_alloc_new w _, by simp⟩
theorem ztq {P : Prop} (h : P := by
 go_wp2_with (first | (refine ks rfl jf _ _ rfl w.heap.size #[.string ⟨#[]⟩, .int .i64 0, .int .i64 0, .slice none 0 0] 41 HK0.out rfl (.string ⟨#[]⟩) (.int .i64 0) (.int .i64 0) (.slice none 0 0) ⟨rfl, rfl, rfl, rfl⟩ rfl rfl ?_) | fail)
 exact HEX.out _ HE.out HK0.out HB0.out _ Tryz.results77 _ rfl rfl rfl) : P := h
theorem znp (v : Value) (ls : List (List V.Bs)) (w : World) (hm : zk w) (hv : Lines w v ls) (hcap : CapOk v) (hw : ∀ l ∈ ls, ∀ x ∈ l, x.length ≤ 32768) (hn : ls.length ≤ 1000) :
  Calls Tryz.prog 77 #[v] w (zkf ls w) := by
 obtain ⟨hb0, hk0, hz0⟩ := zoc w
 have HM := zs8 hm
 have HB0 := zs8 hb0
 have HK0 := zs8 hk0
 have HZ0 := zs8 hz0
 clear hz0
 have HU0 := zs8 (hv.below hb0)
 have HWD := zs8 hw
 obtain ⟨va, vn, vc, rfl, hvc⟩ := hcap
 obtain rfl : vn = ls.length := by obtain ⟨_, _, e, _⟩ := hv; cases e; rfl
 have HEX : Hid (∀ (W : World), V.ka ls = none -> W.heap[w.heap.size]? = some (.cells #[.string ⟨#[]⟩, .int .i64 0, .int .i64 0, .slice none 0 0] 41 (0, 0)) -> Below w.heap.size w W ->
     ∀ fn : Func, fn.results = #[.cell 2 41, .tmp 3] -> ∀ a : Act, a.tmps.getD 2 undef = .pointer (some ⟨w.heap.size, 0, none⟩) -> a.tmps.getD 3 undef = .bool false -> a.defers = [] ->
     bodyPost Tryz.prog fn (zkf ls w) .ret a (W.setRow w.heap.size #[.string ⟨#[]⟩, .int .i64 0, .int .i64 0, .slice none 0 0])) := zs8 (by
   intro W hr hg hb fn hfn a h4 h5 h6
   refine bodyPost_ret (kf hfn h4 h5 (zdb Tryz.underlying41 jf (setRow_heap _ _ _ _ _ _ hg))) h6 ?_
   exact ⟨.slice none 0 0, [], by rw [hr]; rfl, ⟨FRow.nil _ _, by rw [hr]; rfl, fun p hp => by simp at hp⟩, qw hb _ _ (zta _) (Array.getElem?_eq_some_iff.1 hg).1⟩)
 clear hm hv hw hb0 hk0
 match ls, HU0, HWD, hvc, hn, HEX with
 | [], HU0, HWD, hvc, hn, HEX =>
  have HE : Hid (V.ka [] = none) := zs8 rfl
  clear HU0 HWD
  go_enter Tryz.func77, Tryz.ntmps77
  exact ztq
 | l0 :: rest, HU0, HWD, hvc, hn, HEX =>
  obtain ⟨B, off, u0, rfl, hBlt, hu0, hs0⟩ := HU0.out.at 0 (by simp)
  rw [Nat.add_zero] at hu0
  simp only [List.getElem_cons_zero] at hs0
  obtain ⟨m, hmm⟩ : ∃ m, m = rest.length + 1 := ⟨_, rfl⟩
  have hls : (l0 :: rest).length = m := by rw [hmm]; rfl
  rw [hls] at hvc hn HU0 ⊢
  have HMM := zs8 hmm
  have q1 : (m : Int) ≠ 0 := by omega
  have q2 : ((m : Int) == 0) = false := by rw [ztc]; omega
  have q3 : (0 : Int) < (m : Int) := by omega
  clear hls hmm
  by_cases h4 : l0.length = 4
  case neg =>
   have HE := zs8 (V.zsd (rest := rest) h4)
   obtain ⟨a0, c0, rfl, hjunk⟩ := hs0
   have q4 : ((l0.length : Int) != 4) = true := by simp; omega
   have q5 : ¬ (l0.length : Int) = 4 := by omega
   clear hjunk HU0 HWD h4
   generalize l0.length = m0 at *
   go_enter Tryz.func77, Tryz.ntmps77
   exact ztq
  obtain ⟨a, i, r, s, rfl⟩ := zik h4
  obtain ⟨b0, o0, c0, rfl, hb0lt, ca, ci, cr, cs⟩ := zod hs0
  have hrl : (⟨r.toArray⟩ : ByteArray).size ≤ maxLen := by rw [ul]; have := HWD.out _ (List.mem_cons_self ..) r (by simp); unfold maxLen; omega
  have hsl : (⟨s.toArray⟩ : ByteArray).size ≤ maxLen := by rw [ul]; have := HWD.out _ (List.mem_cons_self ..) s (by simp); unfold maxLen; omega
  clear h4 hs0
  by_cases ha : a = V.advW
  case neg =>
   have HE : Hid (V.ka ([a, i, r, s] :: rest) = none) := zs8 (by rw [V.zds, if_neg (fun e => ha e.1)])
   have hne : (a == [97, 100, 118, 105, 115, 111, 114, 121]) = false := by rw [ztc]; exact ha
   clear HU0 HWD ha ci cr cs hrl hsl
   go_enter Tryz.func77, Tryz.ntmps77
   exact ztq
  subst ha
  have hcw : (⟨V.advW.toArray⟩ : ByteArray) = ⟨#[97, 100, 118, 105, 115, 111, 114, 121]⟩ := rfl
  rw [hcw] at ca
  clear hcw
  have HF := zs8 (V.zds V.advW i r s rest)
  have HRL := zs8 hrl
  have HSL := zs8 hsl
  clear hrl hsl
  go_enter Tryz.func77, Tryz.ntmps77
  go_wp2_with fail
  generalize w.alloc (.cells #[.string ⟨#[]⟩, .int .i64 0, .int .i64 0, .slice none 0 0] 41) = w0 at *
  refine (zah ⟨r.toArray⟩ w0 HRL.out).mono ?_
  rintro e w' ⟨rfl, rfl⟩
  rw [ym] at *
  have HF1 : Hid ((V.numP r).2 = false -> V.ka ([V.advW, i, r, s] :: rest) = none) := zs8 (fun h => by rw [HF.out, if_neg (fun e => by rw [h] at e; cases e.2.1)])
  have HF2 : Hid ((V.numP s).2 = false -> V.ka ([V.advW, i, r, s] :: rest) = none) := zs8 (fun h => by rw [HF.out, if_neg (fun e => by rw [h] at e; cases e.2.2)])
  have HF3 : Hid ((V.numP r).2 = true -> (V.numP s).2 = true -> V.ka ([V.advW, i, r, s] :: rest) = (V.kr rest).map fun l => ⟨i, (V.numP r).1, (V.numP s).1, l⟩) := zs8 (fun h g => by rw [HF.out, if_pos (by simp [h, g])])
  clear HF
  generalize (V.numP r).1 = nr at *
  generalize (V.numP r).2 = okr at *
  go_wp2_with fail
  refine (zah ⟨s.toArray⟩ _ HSL.out).mono ?_
  rintro e w' ⟨rfl, rfl⟩
  rw [ym] at *
  have hns := zry s
  generalize (V.numP s).1 = ns at *
  generalize (V.numP s).2 = oks at *
  by_cases hno : okr = true /\ oks = true
  case neg =>
   have HE : Hid (V.ka ([V.advW, i, r, s] :: rest) = none) := zs8 (by
     rcases okr with _ | _
     · exact HF1.out rfl
     · rcases oks with _ | _
       · exact HF2.out rfl
       · exact absurd ⟨rfl, rfl⟩ hno)
   clear HF1 HF2 HF3 HU0 HWD ca ci cr cs hu0
   rcases okr with _ | _
   ·exact ztq
   ·rcases oks with _ | _
    ·exact ztq
    ·exact absurd ⟨rfl, rfl⟩ hno
  obtain ⟨rfl, rfl⟩ := hno
  have HN3 : Hid (V.kr rest = none -> V.ka ([V.advW, i, r, s] :: rest) = none) := zs8 (fun h => by rw [HF3.out rfl rfl, h]; rfl)
  have HN4 : Hid (∀ l, V.kr rest = some l -> V.ka ([V.advW, i, r, s] :: rest) = some ⟨i, nr, ns, l⟩) := zs8 (fun l h => by rw [HF3.out rfl rfl, h]; rfl)
  obtain ⟨o2, hpart, hparts⟩ := zo8 HU0.out HMM.out hvc
  have HPT := zs8 hparts
  have hm1 : m - 1 = rest.length := by have := HMM.out; omega
  have wns : IntKind.i64.wrap ns = ns := IntWalk.i64_in _ (by omega)
  have hb5 : Below w'.heap.size w' (w'.alloc (.cells #[.string ⟨i.toArray⟩, .int .i64 nr, .int .i64 ns, .slice none 0 0] 41)) := (ztb _ w').alloc (zta _) _
  have HD5 : Hid (VInv w' w.heap.size w'.heap.size (.string ⟨i.toArray⟩) (.int .i64 nr) (.int .i64 ns) (.slice none 0 0) [] (w'.alloc (.cells #[.string ⟨i.toArray⟩, .int .i64 nr, .int .i64 ns, .slice none 0 0] 41))) := zs8 ⟨FRow.nil _ _, heap_alloc_new w' _, (hb5.block _ (by have := HZ0.out; omega)).trans HK0.out, (fun p hp => by simp at hp), hb5, by have := HZ0.out; omega⟩
  have HBO : Hid (w.heap.size + 1 ≤ w'.heap.size /\ B < w'.heap.size /\ rest.length ≤ 999) := zs8 ⟨by have := HZ0.out; omega, hBlt, by have := HMM.out; omega⟩
  clear hb5 HF1 HF2 HF3 hparts ca cr cs
  go_wp2_with fail
  generalize w'.alloc (.cells #[.string ⟨i.toArray⟩, .int .i64 nr, .int .i64 ns, .slice none 0 0] 41) = w5 at *
  obtain ⟨O, hO⟩ : ∃ O, O = w'.heap.size := ⟨_, rfl⟩
  try rw [hm1]
  rw [← hO] at HD5 HBO ⊢
  have HOE := zs8 hO
  clear hO hpart hm1 hBlt hb0lt hvc hn q1 q2 q3 hu0 ci
  go_loopw [68] (fun jv W => ∃ (k : Nat) (vo : Value) (us : List Fs), k ≤ rest.length /\ us.length = k /\ jv = .int .i64 k /\ V.uy rest k (us.map (·.1)) /\ VInv w' w.heap.size O (.string ⟨i.toArray⟩) (.int .i64 nr) (.int .i64 ns) vo us W) (fun jv _ => rest.length - (intOf jv).toNat)
  case atStart => exact ⟨0, _, [], Nat.zero_le _, rfl, rfl, V.zmh _, HD5.out⟩
  case round =>
   obtain ⟨k, vo, us, hk, hok, rfl, hrt, hdi⟩ := hrel
   have HRT := zs8 hrt
   have HOK := zs8 hok
   have HDI := zs8 hdi
   obtain ⟨vao, vco, hvo⟩ := hdi.row.slice
   subst hvo
   have hBO := HBO.out
   clear hok hrt HD5
   by_cases hlt : k < rest.length
   ·obtain ⟨u, hu, hs⟩ := HPT.out k hlt
    have hold : Below w'.heap.size w' wr := by rw [← HOE.out]; exact hdi.old
    have huW := zb hold hu
    have HSW := zs8 (yj hs hold)
    have HWL : Hid (∀ x ∈ rest[k], x.length ≤ 32768) := zs8 (fun x hx => HWD.out _ (List.mem_cons_of_mem _ (List.getElem_mem hlt)) x hx)
    have HWM : Hid (∀ x ∈ rest[k], x.length ≤ maxLen) := zs8 (fun x hx => by have := HWL.out x hx; unfold maxLen; omega)
    have HMW := zs8 (HM.out.below (HB0.out.trans (hold.mono HB0.out.size)))
    obtain ⟨au, cu, hue, hj⟩ := HSW.out
    subst hue
    have HNO := zs8 (V.zp1 HRT.out hlt)
    have HYES := zs8 (V.zmc HRT.out hlt)
    have HWF := zs8 (V.readF_wf HWL.out)
    have hi1 : (0 : Int) ≤ (k : Int) := by omega
    have hi2 : (k : Int) < (rest.length : Int) := by omega
    clear hj hold hu hs hdi hBO
    go_wp2_with fail
    refine (zgb _ rest[k] wr HMW.out HSW.out HWM.out).mono ?_
    rintro e w6 ⟨u6, rfl, hu6, how6, hb6⟩
    have HD6 := zs8 (HDI.out.call hb6)
    have HOW6 : Hid (∀ c, u6.ownBlock = some c -> O < c) := zs8 (fun c hc => by have := how6 c hc; have := HDI.out.lt; omega)
    have HRO : Hid (∀ c, u6.ownBlock = some c -> (Value.slice vao us.length vco).ownBlock ≠ some c) := zs8 (fun c hc e => by
      have h1 := how6 c hc
      obtain ⟨_, hq⟩ := HDI.out.row.row
      rcases hq with ⟨e2, _⟩ | ⟨b, cap, cur, e2, _, hgg, _⟩
      · rw [e2] at e; cases e
      · rw [e2] at e
        simp [Value.ownBlock] at e
        subst e
        have := (Array.getElem?_eq_some_iff.1 hgg).1
        omega)
    obtain ⟨ua6, uc6, hue6⟩ := hu6.slice
    subst hue6
    have HI6 := zs8 hu6
    clear hb6 HDI HSW HWL HWM HRT huW how6 hu6
    generalize (V.yu rest[k]).1 = a at *
    generalize (V.yu rest[k]).2 = ok at *
    unfold affV
    obtain ⟨hb7, y0, y1, y2, y3⟩ := zas a (.slice ua6 a.its.length uc6) w6
    have HD7 := zs8 (HD6.out.call hb7)
    have HI7 := zs8 (HI6.out.below hb7)
    have hXO : O < w6.heap.size := HD6.out.lt
    clear hb7 HD6 HI6
    rcases ok with _ | _
    ·have HE := zs8 (HN3.out (HNO.out rfl))
     have HB7 : Hid (Below w.heap.size w (w6.alloc (.cells #[.int .i64 a.sch, .string ⟨a.name.toArray⟩, .int .i64 a.rs, .slice ua6 a.its.length uc6] 50))) := zs8 (HB0.out.trans (HD7.out.old.mono (show w.heap.size ≤ O by have := HD7.out.base; omega)))
     go_wp2_with (first | (refine ks rfl jf _ _ rfl w.heap.size #[.string ⟨#[]⟩, .int .i64 0, .int .i64 0, .slice none 0 0] 41 HD7.out.zero rfl (.string ⟨#[]⟩) (.int .i64 0) (.int .i64 0) (.slice none 0 0) ⟨rfl, rfl, rfl, rfl⟩ rfl rfl ?_) | fail)
     exact HEX.out _ HE.out HD7.out.zero HB7.out _ Tryz.results77 _ rfl rfl rfl
    ·have HR8 := zs8 (HYES.out rfl)
     have hi3 := (zg2 HD7.out.inv).2.2.2
     have hout : us.length ≤ 1000 := by have := HBO.out; have := HOK.out; omega
     have hr9 : rest.length ≤ 999 := HBO.out.2.2
     have wr1 : IntKind.i64.wrap ((k : Int) + 1) = (k : Int) + 1 := IntWalk.i64_in _ (by omega)
     have hO7 : O ≤ (w6.alloc (.cells #[.int .i64 a.sch, .string ⟨a.name.toArray⟩, .int .i64 a.rs, .slice ua6 a.its.length uc6] 50)).heap.size := Nat.le_of_lt HD7.out.lt
     have HP7 : Hid (FOk (w6.alloc (.cells #[.int .i64 a.sch, .string ⟨a.name.toArray⟩, .int .i64 a.rs, .slice ua6 a.its.length uc6] 50)) (.slice vao us.length vco) (a, ⟨ua6, a.its.length, uc6⟩)) := zs8 ⟨HWF.out, rfl, HI7.out, fun _ => HRO.out⟩
     clear HNO HYES hi1 hi2
     have hb8 : Below (w6.alloc (.cells #[.int .i64 a.sch, .string ⟨a.name.toArray⟩, .int .i64 a.rs, .slice ua6 a.its.length uc6] 50)).heap.size (w6.alloc (.cells #[.int .i64 a.sch, .string ⟨a.name.toArray⟩, .int .i64 a.rs, .slice ua6 a.its.length uc6] 50)) ((w6.alloc (.cells #[.int .i64 a.sch, .string ⟨a.name.toArray⟩, .int .i64 a.rs, .slice ua6 a.its.length uc6] 50)).alloc (.cells #[.int .i64 a.sch, .string ⟨a.name.toArray⟩, .int .i64 a.rs, .slice ua6 a.its.length uc6] 50)) := (ztb _ _).alloc (zta _) _
     have HA := zs8 (HD7.out.call hb8)
     have HP8 : Hid (FOk ((w6.alloc (.cells #[.int .i64 a.sch, .string ⟨a.name.toArray⟩, .int .i64 a.rs, .slice ua6 a.its.length uc6] 50)).alloc (.cells #[.int .i64 a.sch, .string ⟨a.name.toArray⟩, .int .i64 a.rs, .slice ua6 a.its.length uc6] 50)) (.slice vao us.length vco) (a, ⟨ua6, a.its.length, uc6⟩)) := zs8 ⟨HP7.out.1, HP7.out.2.1, HP7.out.2.2.1.below hb8, HP7.out.2.2.2⟩
     have HNW : Hid (∀ j u, (fE (a, ⟨ua6, a.its.length, uc6⟩))[j]? = some u -> ((w6.alloc (.cells #[.int .i64 a.sch, .string ⟨a.name.toArray⟩, .int .i64 a.rs, .slice ua6 a.its.length uc6] 50)).alloc (.cells #[.int .i64 a.sch, .string ⟨a.name.toArray⟩, .int .i64 a.rs, .slice ua6 a.its.length uc6] 50)).cell? ⟨w6.heap.size + 1, j, none⟩ = some u) := zs8 (fun j u hj => by rw [zd, if_pos (by simp)]; simpa [fE, Sl.v] using hj)
     have HO8 : Hid (O ≤ ((w6.alloc (.cells #[.int .i64 a.sch, .string ⟨a.name.toArray⟩, .int .i64 a.rs, .slice ua6 a.its.length uc6] 50)).alloc (.cells #[.int .i64 a.sch, .string ⟨a.name.toArray⟩, .int .i64 a.rs, .slice ua6 a.its.length uc6] 50)).heap.size) := zs8 (Nat.le_of_lt HA.out.lt)
     clear hb8 hO7
     go_wp2_with (first | (refine zfu fE_len (by decide) fE_one affGI (by decide) rfl _ _ 39 rfl Tryz.underlying39 O (.slice vao us.length vco) us rfl HA.out.row.row (w6.heap.size + 1) (a, ⟨ua6, a.its.length, uc6⟩) rfl HNW.out (by omega) HO8.out ?_
                           intro v8 w8 hr8 hg8 ho8
                           have hk8 := HA.out.invKept hg8
                           have hc8 : w8.cell? ⟨O, 3, none⟩ = some (.slice vao us.length vco) := (zg2 hk8).2.2.2
                           have hf8 : w8.frozen? ⟨O, 3, none⟩ = false := zpj hk8
                           have hfr := HA.out.row.add hr8 hg8 ho8 HP8.out
                           have HM9 := zs8 (HA.out.append hfr hg8 HOW6.out)
                           obtain ⟨va8, vc8, hv8⟩ := hfr.slice
                           subst hv8
                           rw [show (us ++ [((a, ⟨ua6, a.its.length, uc6⟩) : Fs)]).length = us.length + 1 by simp] at HM9 ⊢
                           clear hr8 hg8 ho8 hk8 hfr)
                        | (refine wl_set rfl 39 _ _ rfl O 3 rfl (.slice va8 (us.length + 1) vc8) rfl _ hc8 hf8 zsl rfl ?_
                           clear hc8 hf8
                           generalize w8.setCell ⟨O, 3, none⟩ (.slice va8 (us.length + 1) vc8) = w9 at *) | fail)
     go_roundw
     case rel => exact ⟨k + 1, _, us ++ [(a, ⟨ua6, a.its.length, uc6⟩)], by omega, by rw [List.length_append, HOK.out]; rfl, by go_num, by rw [List.map_append]; exact HR8.out, HM9.out⟩
     case measure => simp [intOf]; omega
   ·obtain rfl : k = rest.length := by omega
    have HAL := zs8 (HN4.out _ (V.zns HRT.out))
    have HBW : Hid (Below w.heap.size w wr) := zs8 (HB0.out.trans (hdi.old.mono (show w.heap.size ≤ O by omega)))
    have HAF := zs8 hdi.row.affs
    have hc4 := zg2 hdi.inv
    obtain ⟨z0, z1, z2, z3⟩ := hc4
    clear hdi hBO
    go_wp2_with (first | (refine ks rfl jf _ _ rfl w.heap.size #[.string ⟨#[]⟩, .int .i64 0, .int .i64 0, .slice none 0 0] 41 HDI.out.zero rfl (.string ⟨i.toArray⟩) (.int .i64 nr) (.int .i64 ns) (.slice vao us.length vco) ⟨rfl, rfl, rfl, rfl⟩ rfl rfl ?_) | fail)
    refine bodyPost_ret (v := .tuple #[.agg #[.string ⟨i.toArray⟩, .int .i64 nr, .int .i64 ns, .slice vao us.length vco], .bool true]) (kf Tryz.results77 rfl rfl (zdb Tryz.underlying41 jf (setRow_heap _ _ _ _ _ _ HDI.out.zero))) rfl ?_
    have hbase : w.heap.size + 1 ≤ O := HDI.out.base
    refine ⟨.slice vao us.length vco, us, by rw [HAL.out]; rfl, ⟨?_, by rw [HAL.out]; rfl, fun p hp c hc => by have := HDI.out.own p hp c hc; omega⟩, qw HBW.out _ _ (zta _) (Array.getElem?_eq_some_iff.1 HDI.out.zero).1⟩
    exact (HDI.out.row.kept (qh _ _ _) (HDI.out.rowNe HDI.out.zero (by decide)) (fun p hp c hc => by have := HDI.out.own p hp c hc; omega)).weaken (by omega)
end Go.Proofs.YtnhfaincdabdkaaGreatDoor
