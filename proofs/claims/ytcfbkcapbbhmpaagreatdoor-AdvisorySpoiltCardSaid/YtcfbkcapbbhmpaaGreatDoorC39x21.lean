import Derived.Test.YtcfbkcapbbhmpaaGreatDoorC39x20
import Derived.Test.YtcfbkcapbbhmpaaGreatDoorC39x09
import Derived.Test.YtcfbkcapbbhmpaaGreatDoorC39x11
set_option linter.all false
set_option maxRecDepth 100000
set_option maxHeartbeats 12800000
namespace Go.Proofs.YtcfbkcapbbhmpaaGreatDoor
open Go.RowKit
theorem zdu.opened {w : World} {N : Nat} {v : Value} {l : List V.Ec} (h : zdu w N v l) (h0 : 0 < l.length) : ∃ g cap, v = .slice (some ⟨g, 0, none⟩) l.length cap /\ l.length ≤ cap /\ N ≤ g /\ g < w.heap.size := by
 rcases h.2 with ⟨rfl, hn⟩ | ⟨g, cap, cur, rfl, hb, hg, hnc, _⟩
 ·omega
 ·exact ⟨g, cap, rfl, hnc, hb, (Array.getElem?_eq_some_iff.1 hg).1⟩
structure Cuts (N : Nat) (v : Value) (l : List V.Ec) (w : World) : Prop where
 opened : ∃ g cap, v = .slice (some ⟨g, 0, none⟩) l.length cap /\ l.length ≤ cap
 row : zdu w N v l
def rcTo (n : Int) (a b : List V.Itv) (j : Nat) : List V.Ec := (if j = 0 then [] else if j = 1 then a else a ++ b).foldl (V.addI n) [V.ebot, V.etop]
theorem rcTo_ok {n : Int} {a b : List V.Itv} (ha : ∀ x ∈ a, V.zj n x = true) (hb : ∀ x ∈ b, V.zj n x = true) (j : Nat) : ∀ y ∈ rcTo n a b j, V.EcOk n y := by
 unfold rcTo
 refine V.zp4 ?_ (V.ends_ok n)
 split
 ·intro x hx; cases hx
 ·split
  ·exact ha
  ·intro x hx
   rcases List.mem_append.1 hx with h | h
   ·exact ha x h
   ·exact hb x h
theorem rcTo_pos (n : Int) (a b : List V.Itv) (j : Nat) : 0 < (rcTo n a b j).length := V.zlp _ _ _ (by simp)
theorem rcTo_len (n : Int) (a b : List V.Itv) (j : Nat) (ha : a.length ≤ 100) (hb : b.length ≤ 100) : (rcTo n a b j).length ≤ 402 := by
 have h := V.zl5 n (if j = 0 then [] else if j = 1 then a else a ++ b) [V.ebot, V.etop]
 have h2 : (if j = 0 then [] else if j = 1 then a else a ++ b).length ≤ a.length + b.length := by
  split
  ·simp
  ·split
   ·omega
   ·simp
 unfold rcTo
 simp only [List.length_cons, List.length_nil] at h
 omega
structure SetOf (n : Int) (a b : List V.Itv) (B : Nat) (w W : World) (j : Nat) (s : List V.Itv) (va : Option Addr) (vc : Nat) : Prop where
 c0 : W.cell? ⟨B, j * 2, none⟩ = some (.int .i64 n)
 c1 : W.cell? ⟨B, j * 2 + 1, none⟩ = some (.slice va s.length vc)
 itvs : Itvs w (.slice va s.length vc) s
 bnd : ∀ x ∈ s, V.zj n x = true
 len : s.length ≤ 100
 next : rcTo n a b (j + 1) = s.foldl (V.addI n) (rcTo n a b j)
theorem set_of {n : Int} {a b : List V.Itv} {B : Nat} {w W : World} {va vb : Option Addr} {ca cb : Nat} (hva : Itvs w (.slice va a.length ca) a) (hvb : Itvs w (.slice vb b.length cb) b) (ha : ∀ x ∈ a, V.zj n x = true) (hb : ∀ x ∈ b, V.zj n x = true) (hla : a.length ≤ 100) (hlb : b.length ≤ 100)
  (h0 : W.cell? ⟨B, 0, none⟩ = some (.int .i64 n)) (h1 : W.cell? ⟨B, 1, none⟩ = some (.slice va a.length ca)) (h2 : W.cell? ⟨B, 2, none⟩ = some (.int .i64 n)) (h3 : W.cell? ⟨B, 3, none⟩ = some (.slice vb b.length cb)) (j : Nat) (hj : j < 2) : ∃ s va vc, SetOf n a b B w W j s va vc := by
 rcases (by omega : j = 0 ∨ j = 1) with rfl | rfl
 ·exact ⟨a, va, ca, h0, h1, hva, ha, hla, rfl⟩
 ·exact ⟨b, vb, cb, h2, h3, hvb, hb, hlb, by unfold rcTo; rw [if_neg (by omega), if_neg (by omega), if_neg (by omega), if_pos rfl, List.foldl_append]⟩
structure PInv (h : V.Ec -> V.Ec -> Bool) (C : List V.Ec) (N : Nat) (i : Nat) (D : List V.Itv) (u : Value) (W : World) : Prop where
 row : zgf W N u D
 fold : V.rrun h none C = D ++ V.rrun h none (C.drop i)
 len : D.length ≤ i
def zdk (h : V.Ec -> V.Ec -> Bool) (C : List V.Ec) (D : List V.Itv) (c : V.Ec) (first i : Nat) : Prop := i = first ∨ (first < i /\ V.rrun h none C = D ++ V.rrun h (some c) (C.drop i))
theorem zdk.step {h : V.Ec -> V.Ec -> Bool} {C : List V.Ec} {D : List V.Itv} {first i : Nat} (hf : first < C.length) (hp : zdk h C D C[first] first i) (h0 : V.rrun h none C = D ++ V.rrun h none (C.drop first)) (hi : i + 1 < C.length) (hh : h C[i] C[i + 1] = true) : zdk h C D C[first] first (i + 1) := by
 rcases hp with rfl | ⟨hlt, e⟩
 ·exact .inr ⟨by omega, by rw [h0, V.zu7 hi hh]⟩
 ·exact .inr ⟨by omega, by rw [e, V.rrun_on hi hh]⟩
theorem zdk.close {h : V.Ec -> V.Ec -> Bool} {C : List V.Ec} {D : List V.Itv} {c : V.Ec} {first i : Nat} (hp : zdk h C D c first i) (hi : i < C.length) (hf : first + 1 < C.length) (hh : h C[first] C[first + 1] = true) (hn : ∀ hj : i + 1 < C.length, h C[i] C[i + 1] = false) : first < i /\ V.rrun h none C = (D ++ [V.btw c C[i]]) ++ V.rrun h none (C.drop i) := by
 rcases hp with rfl | ⟨hlt, e⟩
 ·have := hn hf
  rw [hh] at this
  cases this
 ·exact ⟨hlt, by rw [e, V.zsr hi hn]; simp⟩
theorem zwq {P : Prop} (h : P := by
 obtain ⟨X, hX⟩ : ∃ X, X = V.btw y p := ⟨_, rfl⟩
 have hbw := fun w' => zfn y p w' HYO.out.side HPO.out.side
 rw [← hX] at hbw HCC
 clear hX
 refine wp_region_held_drew (S := (fun W' => W'.cell? ⟨g, i * 3, none⟩ = some (.int .i64 y.e) /\ W'.cell? ⟨g, i * 3 + 1, none⟩ = some (.string ⟨y.v.toArray⟩) /\ W'.cell? ⟨g, i * 3 + 2, none⟩ = some (.int .i64 y.s) /\ W'.cell? ⟨g, i' * 3, none⟩ = some (.int .i64 p.e) /\ W'.cell? ⟨g, i' * 3 + 1, none⟩ = some (.string ⟨p.v.toArray⟩) /\ W'.cell? ⟨g, i' * 3 + 2, none⟩ = some (.int .i64 p.s))) (by kernel_rfl) (by (try dsimp only); (try simp only [World.cell?_drew]); exact ⟨y0, y1, y2, p0, p1, p2⟩) (fun hHeld => ?_)
 refine tk 0 ?_
 refine tk 1 ?_
 refine tk 2 ?_
 refine tk 3 ?_
 refine tk 4 ?_
 refine tk 5 ?_
 refine tk 6 ?_
 refine tk 7 ?_
 refine tk 8 ?_
 refine rd 9 fun K hK => ?_
 go_simp
 refine (hbw _).mono ?_
 rintro e wcb ⟨rfl, hbcb⟩
 unfold itvV
 have hbW : Below WF.heap.size WF wcb := (zwh WF.heap.size WF).drew.trans (show Below WF.heap.size WF.drew wcb from hbcb)
 try dsimp only
 refine hK.out _ _ ?_ (fun hHeld => ?_)
 ·(try dsimp only); exact ⟨za hbW y0, za hbW y1, za hbW y2, za hbW p0, za hbW p1, za hbW p2⟩
 clear hK K
 try simp only [zv9, zwa, zwb, Act.put, zwc, List.set_cons_succ, List.set_cons_zero]
 refine rd 10 fun K hK => ?_
 go_simp
 have hbN : Below wcb.heap.size wcb (wcb.alloc (.cells #[.string ⟨X.lo.toArray⟩, .int .i64 X.lk, .string ⟨X.hi.toArray⟩, .int .i64 X.hk] 82)) := (zwh _ wcb).alloc (zwg _) _
 have hbV := hbW.trans (hbN.mono hbW.size)
 have HB9 := zwf HBF2 hbV
 have HNW : Hid (∀ j u, (itvE X)[j]? = some u -> (wcb.alloc (.cells #[.string ⟨X.lo.toArray⟩, .int .i64 X.lk, .string ⟨X.hi.toArray⟩, .int .i64 X.hk] 82)).cell? ⟨wcb.heap.size, j, none⟩ = some u) := zwe (fun j u hu => by rw [World.cell?_alloc_new]; simpa [itvE] using hu)
 refine hK.out _ _ ?_ (fun hHeld => ?_)
 ·(try dsimp only); exact ⟨za hbV y0, za hbV y1, za hbV y2, za hbV p0, za hbV p1, za hbV p2⟩
 clear hK K
 try simp only [zv9, zwa, zwb, Act.put, zwc, List.set_cons_succ, List.set_cons_zero]
 refine rd 11 fun K hK => ?_
 refine ue ws (by decide) zcn zey (by decide) rfl _ _ 43 rfl Tryz.underlying43 W1.heap.size ou D rfl (GRow.below HRF.out hbV) wcb.heap.size X rfl HNW.out (by have := HP.out.len; omega) HB9.out.size (fun v3 W3 hr3 hg3 => ?_)
 have hgb3 := GRow.block HRF.out
 refine hK.out _ _ ?_ (fun hHeld => ?_)
 ·(try dsimp only); exact ⟨zm hg3 hgb3 HGL.out (za hbV y0), zm hg3 hgb3 HGL.out (za hbV y1), zm hg3 hgb3 HGL.out (za hbV y2), zm hg3 hgb3 HGL.out (za hbV p0), zm hg3 hgb3 HGL.out (za hbV p1), zm hg3 hgb3 HGL.out (za hbV p2)⟩
 clear hK K
 try simp only [zv9, zwa, zwb, Act.put, zwc, List.set_cons_succ, List.set_cons_zero]
 refine tk 12 ?_
 refine wpAnyH_done (by kernel_rfl) ?_ _
 have HPI : Hid (PInv h C W1.heap.size i' (D ++ [X]) v3 W3) := zwe ⟨hr3, HCC.out.2, by have := HP.out.len; have := HCC.out.1; simp; omega⟩
 have HB10 := zwe (HB9.out.trans (zk hg3 hgb3 (zwg _) HB9.out.size))
 have hlti := HCC.out.1
 clear hr3 hg3 hHeld hbN hbW hbV HNW hbcb y0 y1 y2 p0 p1 p2
 go_wp2
 go_roundw
 case rel => exact ⟨i', D ++ [X], _, by omega, by go_num, rfl, HPI.out, HB10.out⟩
 case measure => simp [intOf]; omega) : P := h
theorem zm5 (o n : Int) (va vb : Value) (a b : List V.Itv) (w : World) (hm : zg w) (hn : V.scheme n = true) (hva : Itvs w va a) (hvb : Itvs w vb b) (hba : ∀ x ∈ a, V.zj n x = true) (hbb : ∀ x ∈ b, V.zj n x = true) (hla : a.length ≤ 100) (hlb : b.length ≤ 100) :
  Calls Tryz.prog 116 #[.int .i64 o, setV n va, setV n vb] w fun e w' => ∃ u, e = .returned u /\ Itvs w' u (V.opR n (ks o) a b) /\ (∀ c, u.ownBlock = some c -> w.heap.size ≤ c) /\ Below w.heap.size w w' := by
 obtain ⟨h, hh⟩ : ∃ h : V.Ec -> V.Ec -> Bool, h = fun x y => ks o (V.kf n a x y) (V.kf n b x y) := ⟨_, rfl⟩
 have HH := zwe hh
 have HF : Hid (V.opR n (ks o) a b = V.rrun h none (rcTo n a b 2)) := zwe (by rw [hh]; rfl)
 have HVA := zwe hva
 have HVB := zwe hvb
 have HSC := zwe hn
 have HBA := zwe hba
 have HBB := zwe hbb
 have HM := zwe hm
 have HOK := zwe (rcTo_ok (n := n) hba hbb)
 have HPS := zwe (rcTo_pos n a b)
 have HLN := zwe (fun j => rcTo_len n a b j hla hlb)
 obtain ⟨va, ca, rfl⟩ := hva.slice
 obtain ⟨vb, cb, rfl⟩ := hvb.slice
 obtain ⟨W0, hW0⟩ : ∃ W0, W0 = (((w.alloc (.cells #[.int .i64 n, .slice va a.length ca] 45)).alloc (.cells #[.int .i64 n, .slice vb b.length cb] 45)).alloc (.cells #[.int .i64 (-1), .string ⟨#[]⟩, .int .i64 0, .int .i64 1, .string ⟨#[]⟩, .int .i64 0] 108)).alloc (.cells #[.int .i64 n, .slice va a.length ca, .int .i64 n, .slice vb b.length cb] 45) := ⟨_, rfl⟩
 have HB0 : Hid (Below w.heap.size w W0) := zwe (by rw [hW0]; exact zcj _ _ _ _ _)
 have HA0 : Hid (W0.cell? ⟨w.heap.size, 0, none⟩ = some (.int .i64 n)) := zwe (by rw [hW0]; simp [ze]; try omega)
 have HA1 : Hid (W0.cell? ⟨w.heap.size, 1, none⟩ = some (.slice va a.length ca)) := zwe (by rw [hW0]; simp [ze]; try omega)
 have HB0c : Hid (W0.cell? ⟨w.heap.size + 1, 0, none⟩ = some (.int .i64 n)) := zwe (by rw [hW0]; simp [ze]; try omega)
 have HB1c : Hid (W0.cell? ⟨w.heap.size + 1, 1, none⟩ = some (.slice vb b.length cb)) := zwe (by rw [hW0]; simp [ze]; try omega)
 have HSETS : Hid (∀ j, j < 2 -> ∃ s va vc, SetOf n a b (w.heap.size + 1 + 1 + 1) w W0 j s va vc) := zwe (fun j hj => set_of hva hvb hba hbb hla hlb (by rw [hW0]; simp [ze]) (by rw [hW0]; simp [ze]) (by rw [hW0]; simp [ze]) (by rw [hW0]; simp [ze]) j hj)
 have HC0 : Hid (Cuts w.heap.size (.slice (some ⟨w.heap.size + 1 + 1, 0, none⟩) 2 2) (rcTo n a b 0) W0) := zwe ⟨⟨_, _, rfl, zwg _⟩, rfl, .inr ⟨w.heap.size + 1 + 1, 2, #[.int .i64 (-1), .string ⟨#[]⟩, .int .i64 0, .int .i64 1, .string ⟨#[]⟩, .int .i64 0], rfl, by omega, by rw [hW0, heap_alloc, if_neg (by simp), heap_alloc, if_pos (by simp)], zwg _, by unfold maxLen; omega, rfl, rfl⟩⟩
 have HSZ : Hid (w.heap.size + 1 + 1 + 1 < W0.heap.size) := zwe (by rw [hW0]; simp)
 clear hva hvb hba hbb hm hn hh
 unfold setV
 go_enter Tryz.func116, Tryz.ntmps116
 go_wp2_with fail
 rw [← hW0]
 clear hW0
 go_loopw [7, 21] (fun cv jv wx => ∃ (j : Nat) (g cap : Nat), j ≤ 2 /\ jv = .int .i64 j /\ cv = .slice (some ⟨g, 0, none⟩) (rcTo n a b j).length cap /\ (rcTo n a b j).length ≤ cap /\ zdu wx w.heap.size cv (rcTo n a b j) /\ Below W0.heap.size W0 wx) (fun _ jv _ => 2 - (intOf jv).toNat)
 case atStart => exact ⟨0, _, _, by omega, rfl, rfl, zwg _, HC0.out.row, zwh _ _⟩
 case round =>
  obtain ⟨j, g, cap, hj, rfl, rfl, hcap, hrow, hbx⟩ := hrel
  have HROW := zwe hrow
  have HBX := zwe hbx
  have HBF := zwf HB0 hbx
  clear hrow hbx
  by_cases hj2 : j < 2
  ·obtain ⟨s, sva, svc, hset⟩ := HSETS.out j hj2
   have HSET := zwe hset
   have l0 := (HBX.out.cell (p := ⟨w.heap.size + 1 + 1 + 1, j * 2, none⟩) HSZ.out).trans hset.c0
   have l1 := (HBX.out.cell (p := ⟨w.heap.size + 1 + 1 + 1, j * 2 + 1, none⟩) HSZ.out).trans hset.c1
   have hi1 : (0 : Int) ≤ (j : Int) := by omega
   have hi2 : (j : Int) < 2 := by omega
   clear hset
   have hbA : Below wr.heap.size wr (wr.alloc (.cells #[.int .i64 n, .slice sva s.length svc] 45)) := (zwh _ wr).alloc (zwg _) _
   have HBA9 := zwf HBX hbA
   have HROW9 := zwe (GRow.below HROW.out hbA)
   have m0 : (wr.alloc (.cells #[.int .i64 n, .slice sva s.length svc] 45)).cell? ⟨wr.heap.size, 1, none⟩ = some (.slice sva s.length svc) := by simp [ze]
   have HM0 := zwe m0
   have hz9 : wr.heap.size < (wr.alloc (.cells #[.int .i64 n, .slice sva s.length svc] 45)).heap.size := by simp
   clear hbA m0
   go_wp2_with fail
   generalize wr.alloc (.cells #[.int .i64 n, .slice sva s.length svc] 45) = W9 at *
   obtain ⟨X9, hX9⟩ : ∃ X, X = wr.heap.size := ⟨_, rfl⟩
   rw [← hX9] at HM0 hz9 ⊢
   have HX9 := zwe hX9
   clear l0 l1 hX9
   obtain ⟨F, hF⟩ : ∃ F : Nat -> List V.Ec, F = fun k => (s.take k).foldl (V.addI n) (rcTo n a b j) := ⟨_, rfl⟩
   have HF0 : Hid (F 0 = rcTo n a b j) := zwe (by rw [hF]; rfl)
   have HFE : Hid (F s.length = rcTo n a b (j + 1)) := zwe (by rw [hF, HSET.out.next]; simp)
   have HFS : Hid (∀ k (hk : k < s.length), F (k + 1) = V.radd n (V.ky s[k]) (V.radd n (V.eLow s[k]) (F k))) := zwe (fun k hk => by rw [hF]; exact V.zvd _ hk)
   have HFO : Hid (∀ k, ∀ y ∈ F k, V.EcOk n y) := zwe (fun k => by rw [hF]; exact V.zp4 (fun x hx => HSET.out.bnd x (List.mem_of_mem_take hx)) (HOK.out j))
   have HFP : Hid (∀ k, 0 < (F k).length) := zwe (fun k => by rw [hF]; exact V.zlp _ _ _ (HPS.out j))
   have HFL : Hid (∀ k, (F k).length ≤ 602) := zwe (fun k => by
     have h1 := V.zl5 n (s.take k) (rcTo n a b j)
     have h2 := HLN.out j
     have h3 := HSET.out.len
     rw [List.length_take] at h1
     rw [hF]
     show ((s.take k).foldl (V.addI n) (rcTo n a b j)).length ≤ 602
     omega)
   have HC9 : Hid (∃ g' cap' : Nat, (.slice (some ⟨g, 0, none⟩) (rcTo n a b j).length cap : Value) = .slice (some ⟨g', 0, none⟩) (F 0).length cap' /\ (F 0).length ≤ cap' /\ zdu W9 w.heap.size (.slice (some ⟨g, 0, none⟩) (rcTo n a b j).length cap) (F 0)) := zwe (by rw [HF0.out]; exact ⟨g, cap, rfl, hcap, HROW9.out⟩)
   have hsl := HSET.out.len
   clear hF hcap HROW9 HROW
   go_loopw [7, 10] (fun cv kv wx => ∃ (k g' cap' : Nat), k ≤ s.length /\ kv = .int .i64 k /\ cv = .slice (some ⟨g', 0, none⟩) (F k).length cap' /\ (F k).length ≤ cap' /\ zdu wx w.heap.size cv (F k) /\ Below W9.heap.size W9 wx) (fun _ kv _ => s.length - (intOf kv).toNat)
   case atStart =>
    obtain ⟨g', cap', e1, e2, e3⟩ := HC9.out
    exact ⟨0, g', cap', Nat.zero_le _, rfl, e1, e2, e3, zwh _ _⟩
   case round =>
    obtain ⟨k, gk, ck, hk, rfl, rfl, hck, hrow, hbk⟩ := hrel
    have HROW := zwe hrow
    have HBK := zwe hbk
    have HBW := zwf HBA9 hbk
    have HBG := zwe (HB0.out.trans (HBW.out.mono HB0.out.size))
    have m1 := (hbk.cell (p := ⟨X9, 1, none⟩) hz9).trans HM0.out
    clear hrow hbk
    by_cases hlt : k < s.length
    ·obtain ⟨b', off, rfl, hb', hx⟩ := HSET.out.itvs.at k hlt
     obtain ⟨h0, h1, h2, h3⟩ := hx.below hb' HBG.out
     have a0 := (HBW.out.cell (p := ⟨w.heap.size, 0, none⟩) (by have := HSZ.out; simp; omega)).trans HA0.out
     have hi3 : (0 : Int) ≤ (k : Int) := by omega
     have hi4 : (k : Int) < (s.length : Int) := by omega
     have HXB : Hid (V.zj n s[k] = true) := zwe (HSET.out.bnd _ (List.getElem_mem hlt))
     have HST := zwe (HFS.out k hlt)
     have HMK := zwe (HM.out.below HBG.out)
     have hp1 := HFP.out k
     have hp2 := HFL.out k
     clear hx
     generalize s[k] = x at *
     have hp3 := V.zct n (V.eLow x) (F k)
     obtain ⟨hp3, hp4⟩ := hp3
     go_wp2_with fail
     refine wp_region_held_drew (S := (fun W' => zg W' /\ W'.cell? ⟨w.heap.size, 0, none⟩ = some (.int .i64 n) /\ W'.cell? ⟨X9, 1, none⟩ = some (.slice (some ⟨b', off, none⟩) s.length svc) /\ W'.cell? ⟨b', off + k * 4, none⟩ = some (.string ⟨x.lo.toArray⟩) /\ W'.cell? ⟨b', off + k * 4 + 1, none⟩ = some (.int .i64 x.lk) /\ W'.cell? ⟨b', off + k * 4 + 2, none⟩ = some (.string ⟨x.hi.toArray⟩) /\ W'.cell? ⟨b', off + k * 4 + 3, none⟩ = some (.int .i64 x.hk))) (by kernel_rfl) (by (try dsimp only); (try simp only [World.cell?_drew]); exact ⟨HMK.out.below (zwh _ _).drew, a0, m1, h0, h1, h2, h3⟩) (fun hHeld => ?_)
     refine tk 0 ?_
     refine tk 1 ?_
     refine tk 2 ?_
     refine tk 3 ?_
     refine tk 4 ?_
     refine tk 5 ?_
     refine tk 6 ?_
     refine tk 7 ?_
     refine tk 8 ?_
     refine tk 9 ?_
     refine tk 12 ?_
     refine tk 13 ?_
     refine tk 14 ?_
     refine tk 15 ?_
     refine tk 16 ?_
     refine rd 10 fun K hK => ?_
     go_simp
     refine (zad x _).mono ?_
     rintro e wc10 ⟨rfl, hbc10⟩
     try dsimp only
     refine hK.out _ _ ?_ (fun hHeld => ?_)
     ·(try dsimp only); go_split_ands; exact ⟨zg.below (by assumption) hbc10, zwk hbc10, zwk hbc10, zwk hbc10, zwk hbc10, zwk hbc10, zwk hbc10⟩
     clear hK K
     try simp only [zv9, zwa, zwb, Act.put, zwc, List.set_cons_succ, List.set_cons_zero]
     refine rd 11 fun K hK => ?_
     go_simp
     refine (znw n (V.eLow x) gk 0 ck (F k) _ (by first | assumption | exact And.left (by assumption)) HSC.out (V.zbc HXB.out) (GRow.gsl yj (GRow.below (GRow.below HROW.out (zwh _ _).drew) hbc10)) (HFO.out k) hp1 hck (by omega)).mono ?_
     rintro e wc11 ⟨u1, rfl, hr1, hbc11⟩
     obtain ⟨g1, cap1, rfl, hcap1, _, _⟩ := zdu.opened hr1 hp4
     try dsimp only
     refine hK.out _ _ ?_ (fun hHeld => ?_)
     ·exact z0y
     clear hK K
     try simp only [zv9, zwa, zwb, Act.put, zwc, List.set_cons_succ, List.set_cons_zero]
     refine rd 17 fun K hK => ?_
     go_simp
     refine (zal x _).mono ?_
     rintro e wc17 ⟨rfl, hbc17⟩
     try dsimp only
     refine hK.out _ _ ?_ (fun hHeld => ?_)
     ·(try dsimp only); go_split_ands; exact ⟨zg.below (by assumption) hbc17, zwk hbc17, zwk hbc17, zwk hbc17, zwk hbc17, zwk hbc17, zwk hbc17⟩
     clear hK K
     try simp only [zv9, zwa, zwb, Act.put, zwc, List.set_cons_succ, List.set_cons_zero]
     refine rd 18 fun K hK => ?_
     go_simp
     refine (znw n (V.ky x) g1 0 cap1 (V.radd n (V.eLow x) (F k)) _ (by first | assumption | exact And.left (by assumption)) HSC.out (V.zbr HXB.out) (GRow.gsl yj (GRow.below hr1 hbc17)) (V.zjr (V.zbc HXB.out) (HFO.out k)) hp4 hcap1 (by omega)).mono ?_
     rintro e wc18 ⟨u2, rfl, hr2, hbc18⟩
     obtain ⟨g2, cap2, rfl, hcap2, _, _⟩ := zdu.opened hr2 (V.zct n _ _).2
     try dsimp only
     refine hK.out _ _ ?_ (fun hHeld => ?_)
     ·(try dsimp only); go_split_ands; exact ⟨zg.below (by assumption) hbc18, zwk hbc18, zwk hbc18, zwk hbc18, zwk hbc18, zwk hbc18, zwk hbc18⟩
     clear hK K
     try simp only [zv9, zwa, zwb, Act.put, zwc, List.set_cons_succ, List.set_cons_zero]
     refine tk 19 ?_
     refine wpAnyH_done (by kernel_rfl) ?_ _
     have hb8a : Below wr.heap.size wr wc11 := ((zwh wr.heap.size wr).drew.trans (show Below wr.heap.size wr.drew wc10 from hbc10)).trans (hbc11.mono (show wr.heap.size ≤ wc10.heap.size from hbc10.size))
     have hb8 : Below wr.heap.size wr wc18 := hb8a.trans ((hbc17.trans (hbc18.mono hbc17.size)).mono hb8a.size)
     have hs18 : wr.heap.size ≤ wc17.heap.size := Nat.le_trans hb8a.size hbc17.size
     have HB8 := zwf HBK hb8
     have HR8 : Hid (zdu wc18 w.heap.size (.slice (some ⟨g2, 0, none⟩) (F (k + 1)).length cap2) (F (k + 1))) := zwe (by rw [HST.out]; exact GRow.weaken hr2 (Nat.le_trans HBG.out.size hs18))
     have HC8 : Hid ((F (k + 1)).length ≤ cap2) := zwe (by rw [HST.out]; exact hcap2)
     rw [← HST.out]
     clear hr1 hr2 hcap2 hcap1 hbc10 hbc11 hbc17 hbc18 hHeld hb8 hs18 m1 h0 h1 h2 h3 a0
     go_wp2
     go_roundw
     case rel => exact ⟨k + 1, _, _, by omega, by go_num, rfl, HC8.out, HR8.out, HB8.out⟩
     case measure => simp [intOf]; omega
    ·obtain rfl : k = s.length := by omega
     have HCE : Hid (∃ (g cap : Nat), (.slice (some ⟨gk, 0, none⟩) (F s.length).length ck : Value) = .slice (some ⟨g, 0, none⟩) (rcTo n a b (j + 1)).length cap /\ (rcTo n a b (j + 1)).length ≤ cap /\ zdu wr w.heap.size (.slice (some ⟨gk, 0, none⟩) (F s.length).length ck) (rcTo n a b (j + 1))) := zwe (by rw [← HFE.out]; exact ⟨gk, ck, rfl, hck, HROW.out⟩)
     go_wp2
     go_roundw
     case rel =>
      obtain ⟨g2, c2, e1, e2, e3⟩ := HCE.out
      exact ⟨j + 1, g2, c2, by omega, by go_num, e1, e2, e3, HBW.out⟩
     case measure => simp [intOf]; omega
  ·have HF : Hid (V.opR n (ks o) a b = V.rrun h none (rcTo n a b j)) := zwe (by rw [HF.out, show j = 2 by omega])
   have hjc : ¬ (j : Int) < 2 := by omega
   obtain ⟨C, hC⟩ : ∃ C, C = rcTo n a b j := ⟨_, rfl⟩
   have HOKC := zwe (HOK.out j)
   have HPSC := HPS.out j
   have HLNC := HLN.out j
   rw [← hC] at HF HROW hcap HOKC HPSC HLNC ⊢
   clear hC HSETS HC0 HOK HPS HLN hj
   have HM1 := zwe (HM.out.below HBF.out)
   have HA2 := zwe ((HBX.out.cell (p := ⟨w.heap.size, 0, none⟩) (by have := HSZ.out; simp; omega)).trans HA0.out)
   have HA3 := zwe ((HBX.out.cell (p := ⟨w.heap.size, 1, none⟩) (by have := HSZ.out; simp; omega)).trans HA1.out)
   have HB2 := zwe ((HBX.out.cell (p := ⟨w.heap.size + 1, 0, none⟩) (by have := HSZ.out; simp; omega)).trans HB0c.out)
   have HB3 := zwe ((HBX.out.cell (p := ⟨w.heap.size + 1, 1, none⟩) (by have := HSZ.out; simp; omega)).trans HB1c.out)
   have HCR : Hid (∀ i (hi : i < C.length), wr.cell? ⟨g, i * 3, none⟩ = some (.int .i64 C[i].e) /\ wr.cell? ⟨g, i * 3 + 1, none⟩ = some (.string ⟨C[i].v.toArray⟩) /\ wr.cell? ⟨g, i * 3 + 2, none⟩ = some (.int .i64 C[i].s)) := zwe (fun i hi => by
     obtain ⟨g', c', e, _, _, hc⟩ := GRow.at yj HROW.out i hi
     cases e
     exact zq9 hc)
   have HGL : Hid (g < wr.heap.size) := zwe (by
     obtain ⟨g', c', e, _, hg, _⟩ := GRow.at yj HROW.out 0 HPSC
     cases e
     exact hg)
   have HXL : Hid (w.heap.size + 1 < wr.heap.size) := zwe (by have := HSZ.out; have := HBX.out.size; omega)
   have HIA := zwe (HVA.out.below HBF.out)
   have HIB := zwe (HVB.out.below HBF.out)
   clear HROW HBX HSZ HA0 HA1 HB0c HB1c HB0 HVA HVB HM
   go_wp2_with fail
   generalize wr = W1 at *
   go_loopw [11, 12] (fun ov iv wx => ∃ (i : Nat) (D : List V.Itv) (u : Value), i ≤ C.length /\ iv = .int .i64 i /\ u = ov /\ PInv h C W1.heap.size i D u wx /\ Below W1.heap.size W1 wx) (fun _ iv _ => C.length - (intOf iv).toNat)
   case atStart => exact ⟨0, [], _, Nat.zero_le _, rfl, rfl, ⟨GRow.nil _ _, rfl, Nat.zero_le _⟩, zwh _ _⟩
   case round =>
    obtain ⟨i, D, ou, hi, rfl, rfl, hp, hbx⟩ := hrel
    have HP := zwe hp
    have HBX := zwe hbx
    clear hp hbx
    obtain ⟨wo, hwo⟩ : ∃ wo : World, wo = wr := ⟨_, rfl⟩
    subst hwo
    by_cases hlt : i + 1 < C.length
    ·have hlt0 : i < C.length := by omega
     obtain ⟨y0, y1, y2⟩ := HCR.out i hlt0
     obtain ⟨z0, z1, z2⟩ := HCR.out (i + 1) hlt
     have y0 := za HBX.out y0
     have y1 := za HBX.out y1
     have y2 := za HBX.out y2
     have z0 := za HBX.out z0
     have z1 := za HBX.out z1
     have z2 := za HBX.out z2
     have a0 := za HBX.out HA2.out
     have a1 := za HBX.out HA3.out
     have b0 := za HBX.out HB2.out
     have b1 := za HBX.out HB3.out
     have HMW := zwe (HM1.out.below HBX.out)
     have hi1 : (0 : Int) ≤ (i : Int) := by omega
     have hi2 : (i : Int) < (C.length : Int) := by omega
     have hi3 : (0 : Int) ≤ (i : Int) + 1 := by omega
     have hi4 : (i : Int) + 1 < (C.length : Int) := by omega
     have hi5 : ((i : Int) + 1).toNat = i + 1 := by omega
     have hi6 : IntKind.i64.wrap ((i : Int) + 1) = (i : Int) + 1 := by rw [IntKind.wrap_i64]; omega
     have HYO := zwe (HOKC.out _ (List.getElem_mem hlt0))
     have HZO := zwe (HOKC.out _ (List.getElem_mem hlt))
     have HSK := zwe (fun hn => V.zva (h := h) hlt hn)
     obtain ⟨q, hq⟩ : ∃ q, q = h C[i] C[i + 1] := ⟨_, rfl⟩
     have HQ : Hid (q = ks o (V.kf n a C[i] C[i + 1]) (V.kf n b C[i] C[i + 1])) := zwe (by rw [hq, HH.out])
     have HQH := zwe hq
     rw [← hq] at HSK
     clear hq
     generalize hye : C[i] = y at *
     generalize hze : C[i + 1] = z at *
     have HZE := zwe hze
     clear hze
     have HYE := zwe hye
     clear hye
     have HQE : Hid (q = h y z) := HQH
     go_wp2_with fail
     refine wp_region_held_drew (S := (fun W' => zg W' /\ W'.cell? ⟨w.heap.size, 0, none⟩ = some (.int .i64 n) /\ W'.cell? ⟨w.heap.size, 1, none⟩ = some (.slice va a.length ca) /\ W'.cell? ⟨w.heap.size + 1, 0, none⟩ = some (.int .i64 n) /\ W'.cell? ⟨w.heap.size + 1, 1, none⟩ = some (.slice vb b.length cb) /\ W'.cell? ⟨g, i * 3, none⟩ = some (.int .i64 y.e) /\ W'.cell? ⟨g, i * 3 + 1, none⟩ = some (.string ⟨y.v.toArray⟩) /\ W'.cell? ⟨g, i * 3 + 2, none⟩ = some (.int .i64 y.s) /\ W'.cell? ⟨g, (i + 1) * 3, none⟩ = some (.int .i64 z.e) /\ W'.cell? ⟨g, (i + 1) * 3 + 1, none⟩ = some (.string ⟨z.v.toArray⟩) /\ W'.cell? ⟨g, (i + 1) * 3 + 2, none⟩ = some (.int .i64 z.s))) (by kernel_rfl) (by (try dsimp only); (try simp only [World.cell?_drew]); exact ⟨HMW.out.below (zwh _ _).drew, a0, a1, b0, b1, y0, y1, y2, z0, z1, z2⟩) (fun hHeld => ?_)
     refine tk 0 ?_
     refine tk 1 ?_
     refine tk 2 ?_
     refine tk 3 ?_
     refine tk 4 ?_
     refine tk 5 ?_
     refine tk 6 ?_
     refine tk 7 ?_
     refine tk 8 ?_
     refine tk 9 ?_
     refine tk 10 ?_
     refine tk 12 ?_
     refine tk 13 ?_
     refine tk 14 ?_
     refine tk 15 ?_
     refine tk 16 ?_
     refine tk 17 ?_
     refine tk 18 ?_
     refine tk 19 ?_
     refine tk 20 ?_
     refine tk 21 ?_
     refine rd 11 fun K hK => ?_
     go_simp
     have hbs0 : Below W1.heap.size W1 wo.drew := HBX.out.drew
     refine (zbe n (.slice va a.length ca) a y z _ (by first | assumption | exact And.left (by assumption)) HSC.out (HIA.out.below hbs0) HBA.out HYO.out HZO.out (by omega)).mono ?_
     rintro e wc11 ⟨rfl, hbc11⟩
     try dsimp only
     refine hK.out _ _ ?_ (fun hHeld => ?_)
     ·(try dsimp only); go_split_ands; exact ⟨zg.below (by assumption) hbc11, zwk hbc11, zwk hbc11, zwk hbc11, zwk hbc11, zwk hbc11, zwk hbc11, zwk hbc11, zwk hbc11, zwk hbc11, zwk hbc11⟩
     clear hK K
     try simp only [zv9, zwa, zwb, Act.put, zwc, List.set_cons_succ, List.set_cons_zero]
     refine rd 22 fun K hK => ?_
     go_simp
     have hbs1 := hbs0.trans (hbc11.mono hbs0.size)
     have hbs1r : Below wo.heap.size wo wc11 := (zwh wo.heap.size wo).drew.trans (show Below wo.heap.size wo.drew wc11 from hbc11)
     refine (zbe n (.slice vb b.length cb) b y z _ (by first | assumption | exact And.left (by assumption)) HSC.out (HIB.out.below hbs1) HBB.out HYO.out HZO.out (by omega)).mono ?_
     rintro e wc22 ⟨rfl, hbc22⟩
     try dsimp only
     refine hK.out _ _ ?_ (fun hHeld => ?_)
     ·exact zz3
     clear hK K
     try simp only [zv9, zwa, zwb, Act.put, zwc, List.set_cons_succ, List.set_cons_zero]
     refine rd 23 fun K hK => ?_
     go_simp
     refine (zit o _ _ _).mono ?_
     rintro e wc23 ⟨rfl, hbc23⟩
     try dsimp only
     rw [← HQ.out]
     refine hK.out _ _ ?_ (fun hHeld => ?_)
     ·exact zz2
     clear hK K
     try simp only [zv9, zwa, zwb, Act.put, zwc, List.set_cons_succ, List.set_cons_zero]
     refine tk 24 ?_
     refine wpAnyH_done (by kernel_rfl) ?_ _
     have hbO : Below wo.heap.size wo wc23 := (hbs1r.trans (hbc22.mono hbs1r.size)).trans (hbc23.mono (Nat.le_trans hbs1r.size hbc22.size))
     have HBO := zwe hbO
     have HBY := zwf HBX hbO
     have HROW := zwe (GRow.below HP.out.row hbO)
     clear hbO hbs0 hbs1 hbs1r hbc11 hbc22 hbc23 hHeld y0 y1 y2 z0 z1 z2 a0 a1 b0 b1
     generalize wc23 = WI at *
     rcases hqv : q with _ | _
     ·have HPI : Hid (PInv h C W1.heap.size (i + 1) D ou WI) := zwe ⟨HROW.out, by rw [HP.out.fold, HSK.out hqv], by have := HP.out.len; omega⟩
      clear hqv
      go_wp2
      go_roundw
      case rel => exact ⟨i + 1, D, ou, by omega, by go_num, rfl, HPI.out, HBY.out⟩
      case measure => simp [intOf]; omega
     ·have HHF : Hid (h C[i] C[i + 1] = true) := zwe (by rw [HYE.out, HZE.out, ← HQE.out]; exact hqv)
      clear hqv HSK HQ HQH HQE
      go_wp2_with fail
      simp only [Bool.not_true]
      go_loopw [12] (fun iv wx => ∃ i' : Nat, i ≤ i' /\ i' < C.length /\ iv = .int .i64 i' /\ zdk h C D y i i' /\ Below WI.heap.size WI wx) (fun iv _ => C.length - (intOf iv).toNat)
      case atStart => exact ⟨i, zwg _, hlt0, rfl, .inl rfl, zwh _ _⟩
      case round =>
       obtain ⟨i', hle, hi', rfl, hpc, hbj⟩ := hrel
       have HPC := zwe hpc
       have HBJ := zwe hbj
       have HBX := zwf HBY hbj
       clear hpc hbj
       have HMW := zwe (HM1.out.below HBX.out)
       obtain ⟨y0, y1, y2⟩ := HCR.out i hlt0
       rw [HYE.out] at y0 y1 y2
       obtain ⟨p0, p1, p2⟩ := HCR.out i' hi'
       have y0 := za HBX.out y0
       have y1 := za HBX.out y1
       have y2 := za HBX.out y2
       have p0 := za HBX.out p0
       have p1 := za HBX.out p1
       have p2 := za HBX.out p2
       have hj1 : (0 : Int) ≤ (i' : Int) := by omega
       have hj2 : (i' : Int) < (C.length : Int) := by omega
       have HPO := zwe (HOKC.out _ (List.getElem_mem hi'))
       have HCL := zwe (fun hn => HPC.out.close hi' hlt HHF.out hn)
       by_cases hlt2 : i' + 1 < C.length
       ·obtain ⟨z0, z1, z2⟩ := HCR.out (i' + 1) hlt2
        have z0 := za HBX.out z0
        have z1 := za HBX.out z1
        have z2 := za HBX.out z2
        have a0 := za HBX.out HA2.out
        have a1 := za HBX.out HA3.out
        have b0 := za HBX.out HB2.out
        have b1 := za HBX.out HB3.out
        have hj3 : (0 : Int) ≤ (i' : Int) + 1 := by omega
        have hj4 : (i' : Int) + 1 < (C.length : Int) := by omega
        have hj5 : ((i' : Int) + 1).toNat = i' + 1 := by omega
        have hj6 : IntKind.i64.wrap ((i' : Int) + 1) = (i' : Int) + 1 := by rw [IntKind.wrap_i64]; omega
        have HZO := zwe (HOKC.out _ (List.getElem_mem hlt2))
        have HYH : Hid (C[i]'hlt0 = y) := HYE
        have HON := zwe (fun hn => zdk.step (h := h) (D := D) hlt0 (by rw [HYH.out]; exact HPC.out) HP.out.fold hlt2 hn)
        rw [HYH.out] at HON
        obtain ⟨q, hq⟩ : ∃ q, q = h C[i'] C[i' + 1] := ⟨_, rfl⟩
        have HQ : Hid (q = ks o (V.kf n a C[i'] C[i' + 1]) (V.kf n b C[i'] C[i' + 1])) := zwe (by rw [hq, HH.out])
        have HCL2 : Hid (q = false -> i < i' /\ V.rrun h none C = (D ++ [V.btw y C[i']]) ++ V.rrun h none (C.drop i')) := zwe (fun hn => HCL.out (fun _ => by rw [← hq]; exact hn))
        rw [← hq] at HON
        clear hq HCL HYH
        generalize C[i'] = p at *
        generalize C[i' + 1] = z at *
        go_wp2_with fail
        refine wp_region_held_drew (S := (fun W' => zg W' /\ W'.cell? ⟨w.heap.size, 0, none⟩ = some (.int .i64 n) /\ W'.cell? ⟨w.heap.size, 1, none⟩ = some (.slice va a.length ca) /\ W'.cell? ⟨w.heap.size + 1, 0, none⟩ = some (.int .i64 n) /\ W'.cell? ⟨w.heap.size + 1, 1, none⟩ = some (.slice vb b.length cb) /\ W'.cell? ⟨g, i' * 3, none⟩ = some (.int .i64 p.e) /\ W'.cell? ⟨g, i' * 3 + 1, none⟩ = some (.string ⟨p.v.toArray⟩) /\ W'.cell? ⟨g, i' * 3 + 2, none⟩ = some (.int .i64 p.s) /\ W'.cell? ⟨g, (i' + 1) * 3, none⟩ = some (.int .i64 z.e) /\ W'.cell? ⟨g, (i' + 1) * 3 + 1, none⟩ = some (.string ⟨z.v.toArray⟩) /\ W'.cell? ⟨g, (i' + 1) * 3 + 2, none⟩ = some (.int .i64 z.s))) (by kernel_rfl) (by (try dsimp only); (try simp only [World.cell?_drew]); exact ⟨HMW.out.below (zwh _ _).drew, a0, a1, b0, b1, p0, p1, p2, z0, z1, z2⟩) (fun hHeld => ?_)
        refine tk 0 ?_
        refine tk 1 ?_
        refine tk 2 ?_
        refine tk 3 ?_
        refine tk 4 ?_
        refine tk 5 ?_
        refine tk 6 ?_
        refine tk 7 ?_
        refine tk 8 ?_
        refine tk 9 ?_
        refine tk 10 ?_
        refine tk 11 ?_
        refine tk 12 ?_
        refine tk 13 ?_
        refine tk 14 ?_
        refine tk 15 ?_
        refine tk 16 ?_
        refine tk 18 ?_
        refine tk 19 ?_
        refine tk 20 ?_
        refine tk 21 ?_
        refine tk 22 ?_
        refine tk 23 ?_
        refine tk 24 ?_
        refine tk 25 ?_
        refine tk 26 ?_
        refine tk 27 ?_
        refine rd 17 fun K hK => ?_
        go_simp
        have hbs0 : Below W1.heap.size W1 wr.drew := HBX.out.drew
        refine (zbe n (.slice va a.length ca) a p z _ (by first | assumption | exact And.left (by assumption)) HSC.out (HIA.out.below hbs0) HBA.out HPO.out HZO.out (by omega)).mono ?_
        rintro e wcj17 ⟨rfl, hbcj17⟩
        try dsimp only
        refine hK.out _ _ ?_ (fun hHeld => ?_)
        ·(try dsimp only); go_split_ands; exact ⟨zg.below (by assumption) hbcj17, zwk hbcj17, zwk hbcj17, zwk hbcj17, zwk hbcj17, zwk hbcj17, zwk hbcj17, zwk hbcj17, zwk hbcj17, zwk hbcj17, zwk hbcj17⟩
        clear hK K
        try simp only [zv9, zwa, zwb, Act.put, zwc, List.set_cons_succ, List.set_cons_zero]
        refine rd 28 fun K hK => ?_
        go_simp
        have hbs1 := hbs0.trans (hbcj17.mono hbs0.size)
        have hbs1r : Below wr.heap.size wr wcj17 := (zwh wr.heap.size wr).drew.trans (show Below wr.heap.size wr.drew wcj17 from hbcj17)
        refine (zbe n (.slice vb b.length cb) b p z _ (by first | assumption | exact And.left (by assumption)) HSC.out (HIB.out.below hbs1) HBB.out HPO.out HZO.out (by omega)).mono ?_
        rintro e wcj28 ⟨rfl, hbcj28⟩
        try dsimp only
        refine hK.out _ _ ?_ (fun hHeld => ?_)
        ·(try dsimp only); go_split_ands; exact ⟨zg.below (by assumption) hbcj28, zwk hbcj28, zwk hbcj28, zwk hbcj28, zwk hbcj28, zwk hbcj28, zwk hbcj28, zwk hbcj28, zwk hbcj28, zwk hbcj28, zwk hbcj28⟩
        clear hK K
        try simp only [zv9, zwa, zwb, Act.put, zwc, List.set_cons_succ, List.set_cons_zero]
        refine rd 29 fun K hK => ?_
        go_simp
        refine (zit o _ _ _).mono ?_
        rintro e wcj29 ⟨rfl, hbcj29⟩
        try dsimp only
        rw [← HQ.out]
        refine hK.out _ _ ?_ (fun hHeld => ?_)
        ·(try dsimp only); go_split_ands; exact ⟨zg.below (by assumption) hbcj29, zwk hbcj29, zwk hbcj29, zwk hbcj29, zwk hbcj29, zwk hbcj29, zwk hbcj29, zwk hbcj29, zwk hbcj29, zwk hbcj29, zwk hbcj29⟩
        clear hK K
        try simp only [zv9, zwa, zwb, Act.put, zwc, List.set_cons_succ, List.set_cons_zero]
        refine tk 30 ?_
        refine wpAnyH_done (by kernel_rfl) ?_ _
        have hbO : Below wr.heap.size wr wcj29 := (hbs1r.trans (hbcj28.mono hbs1r.size)).trans (hbcj29.mono (Nat.le_trans hbs1r.size hbcj28.size))
        have HBJ2 := zwf HBJ hbO
        have HBX2 := zwf HBX hbO
        have y0 := za hbO y0
        have y1 := za hbO y1
        have y2 := za hbO y2
        have p0 := za hbO p0
        have p1 := za hbO p1
        have p2 := za hbO p2
        clear hbO hbs0 hbs1 hbs1r hbcj17 hbcj28 hbcj29 hHeld z0 z1 z2 a0 a1 b0 b1
        rcases hqv : q with _ | _
        ·have HCC := zwe (HCL2.out hqv)
         clear hqv HCL2 HON HQ
         have HRF := zwe (GRow.below HROW.out HBJ2.out)
         have HBF2 := HBX2
         go_wp2_with fail
         generalize wcj29 = WF at *
         exact zwq
        ·have HIP := zwe (HON.out hqv)
         clear hqv HCL2 HON HQ
         go_wp2
         go_roundw
         case rel => exact ⟨i' + 1, by omega, by omega, by go_num, HIP.out, HBJ2.out⟩
         case measure => simp [intOf]; omega
       ·have HCC := zwe (HCL.out (fun hj => absurd hj hlt2))
        have hj4 : ¬ (i' : Int) + 1 < (C.length : Int) := by omega
        have hj7 : decide ((i' : Int) + 1 < (C.length : Int)) = false := decide_eq_false hj4
        have hj6 : IntKind.i64.wrap ((i' : Int) + 1) = (i' : Int) + 1 := by rw [IntKind.wrap_i64]; omega
        clear HCL
        generalize C[i'] = p at *
        go_wp2_with fail
        refine wp_region_held_drew (S := (fun W' => zg W')) (by kernel_rfl) (by (try dsimp only); exact HMW.out.below (zwh _ _).drew) (fun hHeld => ?_)
        refine tk 0 ?_
        refine tk 1 ?_
        refine tk 2 ?_
        refine tk 3 ?_
        refine tk 4 ?_
        refine tk 5 ?_
        refine tu 6 ?_
        refine tu 7 ?_
        refine tu 8 ?_
        refine tu 9 ?_
        refine tu 10 ?_
        refine tu 11 ?_
        refine tu 12 ?_
        refine tu 13 ?_
        refine tu 14 ?_
        refine tu 15 ?_
        refine tu 16 ?_
        refine tu 17 ?_
        refine tu 18 ?_
        refine tu 19 ?_
        refine tu 20 ?_
        refine tu 21 ?_
        refine tu 22 ?_
        refine tu 23 ?_
        refine tu 24 ?_
        refine tu 25 ?_
        refine tu 26 ?_
        refine tu 27 ?_
        refine tu 28 ?_
        refine tu 29 ?_
        refine tk 30 ?_
        refine wpAnyH_done (by kernel_rfl) ?_ _
        have hbO : Below wr.heap.size wr wr.drew := (zwh wr.heap.size wr).drew
        have HBJ2 := zwf HBJ hbO
        have HBF2 := zwf HBX hbO
        have y0 := za hbO y0
        have y1 := za hbO y1
        have y2 := za hbO y2
        have p0 := za hbO p0
        have p1 := za hbO p1
        have p2 := za hbO p2
        have HRF := zwe (GRow.below HROW.out HBJ2.out)
        clear hbO hHeld
        go_wp2_with fail
        generalize wr.drew = WF at *
        exact zwq
    ·have HR := zwe (V.rrun_end (h := h) hlt)
     have HFI : Hid (V.opR n (ks o) a b = D) := zwe (by rw [HF.out, HP.out.fold, HR.out, List.append_nil])
     go_wp2
     go_ret
     exact ⟨_, rfl, by rw [HFI.out]; exact zgf.itvs HP.out.row, (fun c hc => by have := GRow.block HP.out.row c hc; have := HXL.out; omega), HBF.out.trans (HBX.out.mono HBF.out.size)⟩
end Go.Proofs.YtcfbkcapbbhmpaaGreatDoor
