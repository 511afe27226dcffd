/-
  Lemmas for the law.
-/
import Derived.Test.YtiloljoancdcbaaGreatDoorC40x41
import Derived.Test.YtiloljoancdcbaaGreatDoorC40x40
import Derived.Test.YtiloljoancdcbaaGreatDoorC40x27
import Derived.WalkMore
set_option linter.all false
set_option maxRecDepth 100000
set_option maxHeartbeats 12800000
namespace Go.Proofs.YtiloljoancdcbaaGreatDoor
open Go.RowKit Go.Shelf
attribute [local go_sem] Oper.semAt_some
theorem zxs {P : Prop} (h : P := by
 gi_wp2
 exact yx (T := fun W => Below w.heap.size w W) (fun D W hB hD h => zbm hB hD h) (fun W h => ⟨.tuple #[.slice none 0 0, .int .i64 2], by simp [results, Tryz.f40, go_sem], xq.err HN.out h⟩) (D :: Ds) _ HMS.out HBS.out) : P := h
theorem zx1 {P : Prop} (h : P := by
 rw [hW0, hO]; simp only [ze, World.size_alloc]; repeat (first | rw [if_pos (by omega)] | rw [if_neg (by omega)])
 rfl) : P := h
theorem z1a {P : Prop} (h : P := by
 rw [hW0, hO]; simp only [zz, World.size_alloc]; repeat (first | rw [if_pos (by omega)] | rw [if_neg (by omega)])
 rfl) : P := h
theorem zp0 (v : Value) (bs : V.Bs) (w : World) (hm : zg w) (hv : zae w v bs) (hl : bs.length ≤ maxLen) :
  CallsIn Fence.wide 12 Tryz.prog 40 #[v] w (xq bs w) := by
 obtain ⟨va, vc, rfl, hcap, hat⟩ := hv
 unfold maxLen at hl
 have HM := zvq hm
 clear hm
 refine callsIn_of_wp_marks Tryz.func40 rfl trivial ?_ rfl
 simp only [Tryz.ntmps40, List.size_toArray, List.length_cons, List.length_nil, Nat.reduceAdd, Nat.reduceSub, Array.replicate_succ, Array.replicate_zero, List.push_toArray, List.append_toArray, List.nil_append, List.cons_append]
 by_cases hbig : 262144 < bs.length
 ·have HP : Hid (V.decP bs = ([], 3)) := zvq (by unfold V.decP; rw [if_pos hbig])
  have hn : (262144 : Int) < (bs.length : Int) := by omega
  clear hat
  gi_wp2
  refine wpIn_wide.2 (wp_scope_straight ((wpIn_wide (n := 12)).1 ?_))
  gi_wp2
  exact ⟨_, by simp [results, Tryz.f40, go_sem], xq.err HP.out (zvt _ _)⟩
 have hn : ¬ (262144 : Int) < (bs.length : Int) := by omega
 obtain ⟨g, off, hva, HCB⟩ : ∃ g off, (0 < bs.length -> va = some ⟨g, off, none⟩ /\ g < w.heap.size) /\ Hid (∀ j (h : j < bs.length), w.cell? ⟨g, off + j, none⟩ = some (.int .u8 (bs[j]).toNat)) := by
  by_cases h : 0 < bs.length
  ·obtain ⟨b, o, e, hb, _⟩ := hat 0 h
   refine ⟨b, o, fun _ => ⟨e, hb⟩, zvq (fun j hj => ?_)⟩
   obtain ⟨b2, o2, e2, _, hc⟩ := hat j hj
   rw [e] at e2
   cases e2
   exact hc
  ·exact ⟨0, 0, fun e => absurd e h, zvq (fun j hj => absurd hj (by omega))⟩
 have HVA := zvq hva
 have HR0 : Hid (Rest g off bs (.slice va bs.length vc) bs) := zvq ⟨0, va, vc, rfl, rfl, by omega, fun h => ⟨(hva h).1, hcap⟩⟩
 have HDN : Hid (V.jn (V.zd 10 bs) = none -> V.decP bs = ([], 2)) := zvq (fun h => by unfold V.decP; rw [if_neg hbig, h])
 have HDS : Hid (∀ ls, V.jn (V.zd 10 bs) = some ls -> V.decP bs = if ls.length ≤ 1000 then (ls, 0) else ([], 2)) := zvq (fun ls h => by unfold V.decP; rw [if_neg hbig, h])
 have hbl : bs.length ≤ 262144 := by omega
 clear hat hbig hva hcap hl
 gi_wp2
 refine wpIn_wide.2 (wp_scope_straight ((wpIn_wide (n := 12)).1 ?_))
 gi_wp2
 apply wpIn_label
 gi_wp2
 obtain ⟨W1, hW1⟩ : ∃ W1, W1 = w.alloc (.cells #[.bool true] 4) := ⟨_, rfl⟩
 have hz1 : W1.heap.size = w.heap.size + 1 := by rw [hW1]; simp
 have hb1 : Below w.heap.size w W1 := by rw [hW1]; exact (zvt _ w).alloc (zvs _) _
 have hc5 : W1.cell? ⟨w.heap.size, 0, none⟩ = some (.bool true) := by rw [hW1, World.cell?_alloc_new]; rfl
 have hf5 : W1.frozen? ⟨w.heap.size, 0, none⟩ = false := by rw [hW1, zz, if_pos rfl]
 rw [← hW1]
 clear hW1
 have HB1 := zvq hb1
 have HC5 := zvq hc5
 have HF5 := zvq hf5
 have HMK0 : Hid (Marked w.heap.size [] W1) := zvq ⟨List.nodup_nil, fun D h => by cases h⟩
 clear hb1 hc5 hf5
 refine wpIn_loop (fun a' w' => ∃ (bv ov u6 u7 u8 u9 u10 u11 u12 u16 u17 u18 u19 u20 u21 u22 u23 u24 u25 u26 u27 u28 u29 u30 u31 u32 u33 u34 u35 u36 u37 u38 u39 u40 u41 u42 u43 u44 u45 u46 u47 u48 u49 u50 u51 u52 u53 : Value) (Ds : List Nat) (us : List Lsl) (ls : List (List V.Bs)) (r : V.Bs), (Rest g off bs bv r /\ LRow (w.heap.size + 1) w' ov us ls /\ V.jn (V.zd 10 bs) = (V.jn (V.zd 10 r)).map (ls ++ ·) /\ Marked w.heap.size Ds w' /\ Below (w.heap.size + 1) W1 w' /\ ls.length + r.length ≤ bs.length) /\ a' = { tmps := #[bv, undef, .slice none 0 0, .int .i64 0, ov, .pointer (some ⟨w.heap.size, 0, none⟩), u6, u7, u8, u9, u10, u11, u12, .slice va bs.length vc, .int .i64 bs.length, .bool (decide ((262144 : Int) < (bs.length : Int))), u16, u17, u18, u19, u20, u21, u22, u23, u24, u25, u26, u27, u28, u29, u30, u31, u32, u33, u34, u35, u36, u37, u38, u39, u40, u41, u42, u43, u44, u45, u46, u47, u48, u49, u50, u51, u52, u53, undef, undef, undef, undef, undef, undef, undef, undef], defers := ztt Ds }) (fun a' _ => slLen (a'.tmps[0]?)) ⟨.slice va bs.length vc, .slice none 0 0, undef, undef, undef, undef, undef, undef, undef, undef, undef, undef, undef, undef, undef, undef, undef, undef, undef, undef, undef, undef, undef, undef, undef, undef, undef, undef, undef, undef, undef, undef, undef, undef, undef, undef, undef, undef, undef, undef, undef, undef, undef, undef, undef, undef, undef, [], [], [], bs, ⟨HR0.out, LRow.nil _ _, by simp, HMK0.out, zvt _ _, by simp⟩, rfl⟩ ?_
 rintro a wr ⟨bv, ov, u6, u7, u8, u9, u10, u11, u12, u16, u17, u18, u19, u20, u21, u22, u23, u24, u25, u26, u27, u28, u29, u30, u31, u32, u33, u34, u35, u36, u37, u38, u39, u40, u41, u42, u43, u44, u45, u46, u47, u48, u49, u50, u51, u52, u53, Ds, us, ls, r, ⟨hrest, hrow, hlin, hmk, hbel, hlen⟩, rfl⟩
 try dsimp only
 obtain ⟨p, ra, rc, rfl, hr, hp, hra⟩ := hrest
 obtain ⟨oa, oc, rfl⟩ := hrow.slice
 have HLR := zvq hrow
 have HLIN := zvq hlin
 have HMK := zvq hmk
 have HBE := zvq hbel
 have hzr : w.heap.size + 1 ≤ wr.heap.size := by have := hbel.size; omega
 have c5 : wr.cell? ⟨w.heap.size, 0, none⟩ = some (.bool true) := (hbel.cell (p := ⟨w.heap.size, 0, none⟩) (Nat.lt_succ_self _)).trans HC5.out
 have HBW := zvq (HB1.out.trans (hbel.mono (Nat.le_succ _)))
 have HRR := zvq hr
 clear hrow hlin hmk hbel HR0 hr
 by_cases h0 : r.length = 0
 ·have h00 : ¬ (0 : Int) < (r.length : Int) := by omega
  have HS : Hid (V.jn (V.zd 10 bs) = some ls) := zvq (by
    rw [HLIN.out, List.length_eq_zero_iff.1 h0]
    simp [V.zd, V.jn])
  have HLN := zvq HLR.out.lines
  have HCP := zvq HLR.out.cap
  have HD2 := zvq (HDS.out ls HS.out)
  by_cases hk : 1000 < ls.length
  ·have hk2 : (1000 : Int) < (ls.length : Int) := by omega
   have HP : Hid (V.decP bs = ([], 2)) := zvq (by rw [HD2.out, if_neg (by omega)])
   gi_wp2
   exact yx (T := fun W => Below w.heap.size w W) (fun D W hB hD h => zbm hB hD h) (fun W h => ⟨.tuple #[.slice none 0 0, .int .i64 2], by simp [results, Tryz.f40, go_sem], xq.err HP.out h⟩) Ds wr HMK.out HBW.out
  ·have hk2 : ¬ (1000 : Int) < (ls.length : Int) := by omega
   have HP : Hid (V.decP bs = (ls, 0)) := zvq (by rw [HD2.out, if_pos (by omega)])
   gi_wp2
   exact yx (T := fun W => Below w.heap.size w W /\ Lines W (.slice oa ls.length oc) ls) (fun D W hB hD h => ⟨zbm hB hD h.1, h.2.mark hD⟩) (fun W h => ⟨.tuple #[.slice oa ls.length oc, .int .i64 0], by simp [results, Tryz.f40, go_sem], ⟨_, by rw [HP.out], by rw [HP.out]; exact h.2, HCP.out, h.1⟩⟩) Ds wr HMK.out ⟨HBW.out, HLN.out⟩
 ·obtain ⟨hra1, hrc⟩ := hra (by omega)
  subst hra1
  have hgw := (HVA.out (by omega)).2
  have h01 : (0 : Int) < (r.length : Int) := by omega
  obtain ⟨L, c1, ra2, n2, c2, fb, hcut, hLc, hLr, hLb, hft, hff⟩ := cut_rest (g := g) (off := off) HRR.out hp hrc
  have HCUT := zvq hcut
  have HLB := zvq hLb
  have HFT := zvq hft
  have HFF := zvq hff
  clear hcut hLb hft hff hra
  have hbA : Below wr.heap.size wr (wr.alloc (.cells #[.int .u8 10] 5)) := (zvt _ wr).alloc (zvs _) _
  have HCR : Hid (∀ j (h : j < r.length), (wr.alloc (.cells #[.int .u8 10] 5)).cell? ⟨g, off + p + j, none⟩ = some (.int .u8 (r[j]).toNat)) := zvq (fun j h => by
    refine (hbA.cell (p := ⟨g, off + p + j, none⟩) (by show g < wr.heap.size; omega)).trans ?_
    rw [Nat.add_assoc]
    refine (HBW.out.cell (p := ⟨g, off + (p + j), none⟩) hgw).trans ?_
    rw [HCB.out (p + j) (by omega)]
    have e := HRR.out
    subst e
    simp)
  have HSP : Hid ((wr.alloc (.cells #[.int .u8 10] 5)).cell? ⟨wr.heap.size, 0, none⟩ = some (.int .u8 ((10 : UInt8).toNat : Int))) := zvq (by rw [World.cell?_alloc_new]; rfl)
  have HMA := zvq (HM.out.below (HBW.out.trans (hbA.mono HBW.out.size)))
  have HBA := zvq hbA
  clear hbA
  gi_wp2_with fail
  refine ⟨trivial, (callsIn_wide.2 (cutB_any 10 g (off + p) rc wr.heap.size r _ HMA.out (by omega) hrc (by omega) HCR.out HSP.out)).mono ?_⟩
  rintro e wB ⟨rfl, hbB⟩
  rw [HCUT.out]
  have HBB := zvr HBA hbB
  clear hbB HCR HSP HMA HBA HCUT
  gi_wp2_with fail
  refine ⟨trivial, (callsIn_wide.2 (zmb _ _ _ _ _ _ _)).mono ?_⟩
  rintro e w' ⟨rfl, rfl⟩
  gi_wp2
  obtain ⟨W0, hW0⟩ : ∃ W0, W0 = (((((wB.alloc (.cells #[.slice none 0 0] 47)).alloc (.cells #[.int .u8 32] 5)).alloc (.cells #[.slice (some ⟨g, off + p, none⟩) L.length c1] 36)).alloc (.cells #[.slice (some ⟨wB.heap.size + 1, 0, none⟩) 1 1] 36)).alloc (.cells #[.int .i64 0] 3)) := ⟨_, rfl⟩
  rw [← hW0]
  obtain ⟨O, hO⟩ : ∃ O, O = wB.heap.size := ⟨_, rfl⟩
  have hsz : W0.heap.size = O + 5 := by rw [hW0, hO]; simp
  have hB0 : Below wB.heap.size wB W0 := by
   rw [hW0]
   exact (((((zvt _ wB).alloc (zvs _) _).alloc (by simp) _).alloc (by simp; omega) _).alloc (by simp; omega) _).alloc (by simp; omega) _
  have c9 : W0.cell? ⟨O, 0, none⟩ = some (.slice none 0 0) := by
   exact zx1
  have f9 : W0.frozen? ⟨O, 0, none⟩ = false := by
   exact z1a
  have cb2 : W0.cell? ⟨O + 1, 0, none⟩ = some (.int .u8 ((32 : UInt8).toNat : Int)) := by
   exact zx1
  have cS : W0.cell? ⟨O + 1 + 1, 0, none⟩ = some (.slice (some ⟨g, off + p, none⟩) L.length c1) := by
   exact zx1
  have fS : W0.frozen? ⟨O + 1 + 1, 0, none⟩ = false := by
   exact z1a
  have cP : W0.cell? ⟨O + 1 + 1 + 1, 0, none⟩ = some (.slice (some ⟨O + 1, 0, none⟩) 1 1) := by
   exact zx1
  have cV : W0.cell? ⟨O + 1 + 1 + 2, 0, none⟩ = some (.int .i64 0) := by
   exact zx1
  rw [← hO] at hB0 ⊢
  have hOw : w.heap.size < O := by have := HBB.out.size; omega
  have HBO := zvq (HBW.out.trans (HBB.out.mono HBW.out.size))
  have HLC : Hid (∀ j (h : j < L.length), wB.cell? ⟨g, off + p + j, none⟩ = some (.int .u8 (L[j]).toNat)) := zvq (fun j h => by
    refine (HBO.out.cell (p := ⟨g, off + p + j, none⟩) hgw).trans ?_
    have e := HLB.out j h
    have hj := (List.getElem?_eq_some_iff.1 e).1
    rw [Nat.add_assoc, HCB.out (p + j) hj, (List.getElem?_eq_some_iff.1 e).2])
  have HLC0 : Hid (∀ j (h : j < L.length), W0.cell? ⟨g, off + p + j, none⟩ = some (.int .u8 (L[j]).toNat)) := zvq (fun j h => (hB0.cell (p := ⟨g, off + p + j, none⟩) (by show g < O; omega)).trans (HLC.out j h))
  have HB0 := zvq hB0
  have HC9 := zvq (And.intro c9 f9)
  have HCB2 := zvq cb2
  have HCS := zvq (And.intro cS (And.intro fS (And.intro cP cV)))
  have hL9 : L.length ≤ 262144 := by omega
  have hOb : wB.heap.size = O := hO.symm
  clear hW0 hO hB0 c9 f9 cb2 cS fS cP cV c5
  refine zgb (b := O + 1 + 1) rfl (by omega) (gf := 123)
   (lb := #[.pointer (some ⟨O + 1 + 1 + 1, 0, none⟩), .pointer (some ⟨O + 1 + 1, 0, none⟩), .pointer (some ⟨O + 1 + 1 + 2, 0, none⟩)])
   rfl trivial (enters_of Tryz.func123 (by kernel_rfl) rfl) (by omega)
   (zq0 11 (by omega) (O + 1 + 1) g (off + p) c1 (O + 1) O (by omega) (by omega) (by omega) 32 L (by omega) hLc (by omega) (by omega) W0 (by omega) HCS.out.1 HCS.out.2.1 HCS.out.2.2.1 HCS.out.2.2.2 HLC0.out HCB2.out)
   (fun h k => h.trans k) (KpO.put (by omega)) (fun _ => rfl)
   (I := fun pre W => (∃ ov2 l, W.cell? ⟨O, 0, none⟩ = some ov2 /\ W.frozen? ⟨O, 0, none⟩ = false /\ O + 5 ≤ W.heap.size /\ GRow 9 1 wrdE W (O + 5) ov2 l /\ V.qg (pre.map Prod.snd) = some l) /\ Below O wB W)
   (Ix := fun c pre W => ((c = .exit 0 /\ W.cell? ⟨w.heap.size, 0, none⟩ = some (.bool false) /\ (∀ S, pre.map Prod.snd <+: S -> V.qg S = none)) /\ KpO O w.heap.size wB W) /\ Below w.heap.size w W)
   (act := fun x => { tmps := #[.slice (some ⟨g, off + p, none⟩) r.length rc, undef, .slice none 0 0, .int .i64 0, .slice oa ls.length oc, .pointer (some ⟨w.heap.size, 0, none⟩), .slice (some ⟨g, off + p, none⟩) L.length c1, .slice ra2 n2 c2, .bool fb, .pointer (some ⟨O, 0, none⟩), .slice (some ⟨g, x.1, none⟩) x.2.length x.2.length, u11, u12, .slice va bs.length vc, .int .i64 bs.length, .bool (decide ((262144 : Int) < (bs.length : Int))), .slice (some ⟨g, off + p, none⟩) r.length rc, .int .i64 r.length, .bool true, .tuple #[.slice (some ⟨g, off + p, none⟩) L.length c1, .slice ra2 n2 c2, .bool fb], .slice (some ⟨g, off + p, none⟩) r.length rc, .slice (some ⟨wr.heap.size, 0, none⟩) 1 1, .tuple #[.slice (some ⟨g, off + p, none⟩) L.length c1, .slice ra2 n2 c2, .bool fb], .slice (some ⟨g, off + p, none⟩) L.length c1, .slice ra2 n2 c2, .bool fb, .slice (some ⟨g, off + p, none⟩) L.length c1, .slice (some ⟨O + 1, 0, none⟩) 1 1, .func (.func 123) #[] #[.pointer (some ⟨O + 1 + 1 + 1, 0, none⟩), .pointer (some ⟨O + 1 + 1, 0, none⟩), .pointer (some ⟨O + 1 + 1 + 2, 0, none⟩)], .slice (some ⟨g, x.1, none⟩) x.2.length x.2.length, u30, u31, u32, u33, u34, u35, u36, u37, u38, u39, u40, u41, u42, u43, u44, u45, u46, u47, u48, u49, u50, u51, u52, u53, undef, undef, undef, undef, undef, undef, undef, undef], defers := [] })
   ⟨?own, ?ownx, ?state, ?assign, ?body⟩ ⟨⟨_, [], HC9.out.1, HC9.out.2, by omega, GRow.nil _ _, rfl⟩, HB0.out⟩ ?done ?stop
  case own =>
   refine OwnFrom.and (Own.from (fun s A B row hs hg hr => ?_) _) (ownFrom_below (by omega) (by omega))
   obtain ⟨ov2, l, h1, h2, h4, h3, h5⟩ := hs
   exact ⟨ov2, l, cell_kept h1 hg hr, (frozen_kept h1 hg hr).trans h2, Nat.le_trans h4 hg.size, h3.own hg hr, h5⟩
  case ownx =>
   intro c
   exact OwnFrom.and (OwnFrom.and (Own.from (fun s A B row hs hg hr => ⟨hs.1, cell_kept hs.2.1 hg hr, hs.2.2⟩) _) (kpO_own (by omega) (by omega))) (ownFrom_below (zvs _) (by omega))
  case state =>
   rintro s A u ⟨⟨ov2, l, h1, h2, h4, h3, h5⟩, hB⟩
   exact ⟨⟨ov2, l, by rw [World.cell?_setCell_other _ _ _ _ (by simp)]; exact h1, by rw [World.frozen?_setCell]; exact h2, Nat.le_trans h4 (zbz A (O + 1 + 1) 0 u).size, h3.kept (zbz A (O + 1 + 1) 0 u) (fun b hb => by cases hb; omega), h5⟩, hB.setCell (p := ⟨O + 1 + 1, 0, none⟩) (by show O ≤ O + 1 + 1; omega) _⟩
  case assign =>
   intro l x W K hK
   gi_wp2
   exact hK
  case body =>
   rintro lp pre x W ⟨⟨ov2, l, h1, h2, h4, h3, h5⟩, hB⟩ ⟨hx, hpn⟩
   obtain ⟨oa2, oc2, rfl⟩ := GRow.slice h3
   have HBw := zvq hB
   have H3 := zvq h3
   have H5 := zvq h5
   have hxl : x.2.length ≤ 262144 := by
    obtain ⟨_, hh, _⟩ := hx
    omega
   have hcv := zfr W g x.1 x.2.length x.2.length x.2 rfl (hx.cells (fun j h => (HBw.out.cell (p := ⟨g, off + p + j, none⟩) (by show g < O; omega)).trans (HLC.out j h)))
   have hll : l.length ≤ 262145 := by
    have h1 := (V.zlc h5).1
    rw [List.length_map] at h1
    omega
   clear h3 hB h5
   gi_wp2_with fail
   refine ⟨trivial, (CallsIn.inRound lp (callsIn_wide.2 (zos x.2 W (by omega)))).mono ?_⟩
   rintro e W2 ⟨rfl, hb2⟩
   have hkb := zht hb2
   have HKB := zvq hkb
   have HKP := zvq (znr (O := O) h4 hb2)
   have HB2 := zvq (HBw.out.trans (hb2.mono (by rw [← hOb]; exact HBw.out.size)))
   have H32 := zvq (H3.out.below hb2)
   have k1 : W2.cell? ⟨O, 0, none⟩ = some (.slice oa2 l.length oc2) := (hb2.cell (p := ⟨O, 0, none⟩) (by show O < W.heap.size; omega)).trans h1
   have k2 : W2.frozen? ⟨O, 0, none⟩ = false := (hb2.frozen (p := ⟨O, 0, none⟩) (by show O < W.heap.size; omega)).trans h2
   have k4 : O + 5 ≤ W2.heap.size := Nat.le_trans h4 hb2.size
   clear hkb hb2 hcv h1 h2 H3
   rcases V.zfk x.2 with hu | ⟨wd, hu, _⟩
   ·have HU := zvq hu
    rw [hu]
    clear hu
    have q5 : W2.cell? ⟨w.heap.size, 0, none⟩ = some (.bool true) := (HB2.out.cell (p := ⟨w.heap.size, 0, none⟩) (by show w.heap.size < O; omega)).trans ((HBB.out.cell (p := ⟨w.heap.size, 0, none⟩) (by show w.heap.size < wr.heap.size; omega)).trans ((HBE.out.cell (p := ⟨w.heap.size, 0, none⟩) (Nat.lt_succ_self _)).trans HC5.out))
    have qf : W2.frozen? ⟨w.heap.size, 0, none⟩ = false := (HB2.out.frozen (p := ⟨w.heap.size, 0, none⟩) (by show w.heap.size < O; omega)).trans ((HBB.out.frozen (p := ⟨w.heap.size, 0, none⟩) (by show w.heap.size < wr.heap.size; omega)).trans ((HBE.out.frozen (p := ⟨w.heap.size, 0, none⟩) (Nat.lt_succ_self _)).trans HF5.out))
    gi_wp2
    refine ⟨HKB.out.trans (KeepsOthers.setCell _ _ _), ⟨⟨rfl, World.cell?_setCell_same' _ _ _ (by rw [q5]; rfl), fun S hS => zkn HU.out (by simpa using hS)⟩, ?_⟩, ?_⟩
    ·refine ⟨Nat.le_trans HB2.out.size (zbz W2 w.heap.size 0 _).size, fun q hq hqo => ?_⟩
     rw [Below.heap_setCell _ _ _ _ (by show q ≠ w.heap.size; exact hqo)]
     exact HB2.out.block q hq
    ·exact (HBO.out.trans (HB2.out.mono (by omega))).setCell (p := ⟨w.heap.size, 0, none⟩) (zvs _) _
   ·have HU := zvq hu
    rw [hu]
    clear hu
    have hb5 : Below W2.heap.size W2 (W2.alloc (.cells #[.string ⟨wd.toArray⟩] 9)) := (zvt _ W2).alloc (zvs _) _
    have HR5 := zvq (H32.out.below hb5)
    have HNW : Hid (∀ i u, (wrdE wd)[i]? = some u -> (W2.alloc (.cells #[.string ⟨wd.toArray⟩] 9)).cell? ⟨W2.heap.size, i, none⟩ = some u) := zvq (fun i u hu => by
      rw [World.cell?_alloc_new]
      simpa [wrdE] using hu)
    have HK5 := zvq (HKB.out.trans (zht hb5))
    have HP5 := zvq (HKP.out.trans (znr (O := O) k4 hb5))
    have HB5 := zvq (HB2.out.trans (hb5.mono (by rw [← hOb]; exact HB2.out.size)))
    have j1 : (W2.alloc (.cells #[.string ⟨wd.toArray⟩] 9)).cell? ⟨O, 0, none⟩ = some (.slice oa2 l.length oc2) := (hb5.cell (p := ⟨O, 0, none⟩) (by show O < W2.heap.size; omega)).trans k1
    have j2 : (W2.alloc (.cells #[.string ⟨wd.toArray⟩] 9)).frozen? ⟨O, 0, none⟩ = false := (hb5.frozen (p := ⟨O, 0, none⟩) (by show O < W2.heap.size; omega)).trans k2
    have j4 : O + 5 ≤ (W2.alloc (.cells #[.string ⟨wd.toArray⟩] 9)).heap.size := Nat.le_trans k4 hb5.size
    have J1 := zvq (And.intro j1 j2)
    clear hb5 HKB HKP HB2 H32 j1 j2
    gi_wp2_with (first | (refine zsa rfl _ _ rfl (O + 5) (.slice oa2 l.length oc2) l rfl HR5.out W2.heap.size wd rfl HNW.out (by omega) j4 ?_
                          intro v' w3 hi3 hg3
                          have c3 : w3.cell? ⟨O, 0, none⟩ = some (.slice oa2 l.length oc2) := hg3.cell J1.out.1 (fun e => by have := HR5.out.block _ e.symm; simp at this; omega)
                          have f3 : w3.frozen? ⟨O, 0, none⟩ = false := by
                            rw [← J1.out.2]
                            unfold World.frozen?
                            rw [hg3.block O (by omega) (fun e => by have := HR5.out.block _ e.symm; omega)]
                          obtain ⟨va', vc', hv'⟩ := GRow.slice hi3
                          subst hv'
                          have hL3 : (l ++ [wd]).length = l.length + 1 := by simp
                          rw [hL3] at hi3
                          have HI3 := zvq hi3
                          have HG3 := zvq hg3
                          clear hi3 hg3) | fail)
    refine ⟨HK5.out.trans ((HR5.out.keepsO HG3.out).trans (KeepsOthers.setCell _ _ _)), HP5.out.trans ⟨Nat.le_trans HG3.out.size (zbz w3 O 0 _).size, fun q hq hqo => ?_⟩, ⟨_, l ++ [wd], World.cell?_setCell_same _ _ _ c3, by rw [World.frozen?_setCell]; exact f3, ?_, ?_, ?_⟩, ?_⟩
    ·rw [Below.heap_setCell _ _ _ _ (by show q ≠ O; exact hqo)]
     exact HG3.out.block q (by omega) (fun e => by have := HR5.out.block _ e.symm; omega)
    ·have := HG3.out.size
     simp only [World.setCell, Array.size_modify]
     omega
    ·exact HI3.out.kept (zbz w3 O 0 _) (fun b hb => by cases hb; omega)
    ·rw [List.map_append]
     exact zko H5.out HU.out
    ·exact (HB5.out.trans (zp HG3.out HR5.out.block (by omega) j4)).setCell (p := ⟨O, 0, none⟩) (zvs _) _
  case done =>
   rintro D ys W hD hys ⟨⟨ov2, l, h1, h2, h4, h3, h5⟩, hB⟩ hK
   rw [hys] at h5
   obtain ⟨oa2, oc2, rfl⟩ := GRow.slice h3
   have HBw := zvq hB
   have H3 := zvq h3
   have H5 := zvq h5
   have hBO : Below O wB W := hB
   have HMW := zvq (Marked.cons (HMK.out.below HBB.out) (by rw [hOb]; exact hBO) (by omega) (by omega) hK)
   have q5 : W.cell? ⟨w.heap.size, 0, none⟩ = some (.bool true) := (hBO.cell (p := ⟨w.heap.size, 0, none⟩) (by show w.heap.size < O; omega)).trans ((HBB.out.cell (p := ⟨w.heap.size, 0, none⟩) (by show w.heap.size < wr.heap.size; omega)).trans ((HBE.out.cell (p := ⟨w.heap.size, 0, none⟩) (Nat.lt_succ_self _)).trans HC5.out))
   have qf : W.frozen? ⟨w.heap.size, 0, none⟩ = false := (hBO.frozen (p := ⟨w.heap.size, 0, none⟩) (by show w.heap.size < O; omega)).trans ((HBB.out.frozen (p := ⟨w.heap.size, 0, none⟩) (by show w.heap.size < wr.heap.size; omega)).trans ((HBE.out.frozen (p := ⟨w.heap.size, 0, none⟩) (Nat.lt_succ_self _)).trans HF5.out))
   have HBV := zvq (HBO.out.trans (hBO.mono (by omega)))
   have q5s := World.cell?_setCell_same W ⟨w.heap.size, 0, none⟩ (.bool false) q5
   have HMS := zvq (HMW.out.setCell q5 (.bool false))
   have HBS := zvq (HBV.out.setCell (p := ⟨w.heap.size, 0, none⟩) (zvs _) (.bool false))
   clear h3 hB h5 hK hys hBO
   cases fb with
   | false =>
    have HN : Hid (V.decP bs = ([], 2)) := zvq (HDN.out (znl HLIN.out (HFF.out rfl).1 (by
      intro e
      have := (HFF.out rfl).2
      rw [e] at this
      rw [← this] at h01
      simp at h01)))
    gi_wp2
    refine ⟨trivial, ?_⟩
    exact zxs
   | true =>
    obtain ⟨r', hrest', hsp, hlt'⟩ := HFT.out rfl
    have HAT := zvq (zp3 HLIN.out hsp)
    have HRST := zvq hrest'
    have hwl : ∀ x ∈ l, x.length ≤ 262144 := V.zhb H5.out (fun s hs => by have := V.zda 32 hs; omega)
    have HWL := zvq hwl
    have HWS := zvq (zrf H3.out)
    have h1c := h1
    clear hrest' hsp hwl
    gi_wp2_with fail
    refine ⟨trivial, (callsIn_wide.2 (zoa _ l W HWS.out (fun x hx => by have := HWL.out x hx; unfold maxLen; omega))).mono ?_⟩
    rintro e w' ⟨rfl, rfl⟩
    by_cases hck : V.chk l = 0
    ·have HNX := zvq (HAT.out.2.2 l H5.out hck)
     rw [hck]
     clear hck HAT
     have hBO : Below wB.heap.size wB w' := by
      rw [hOb]
      exact HBw.out
     have hb5 : Below w'.heap.size w' (w'.alloc (.cells #[(⟨oa2, l.length, oc2⟩ : Lsl).v] 47)) := (zvt _ w').alloc (zvs _) _
     have HRW5 := zvq (((HLR.out.later HBB.out).later hBO).later hb5)
     have HU5 := zvq (kp HWS.out hb5)
     have HCL := zvq (zs3 w' ⟨oa2, l.length, oc2⟩)
     have hsB := HBB.out.size
     have hsW := hBO.size
     have hs5 := hb5.size
     have hN1 : w.heap.size + 1 ≤ (w'.alloc (.cells #[(⟨oa2, l.length, oc2⟩ : Lsl).v] 47)).heap.size := by omega
     have hul : us.length ≤ 1000000 := by rw [HLR.out.len]; omega
     have HM5 := zvq (HMW.out.below hb5)
     have HB5 := zvq (((HBE.out.trans (HBB.out.mono hzr)).trans (hBO.mono (by omega))).trans (hb5.mono (by omega)))
     have HLT := zvq HLR.out.row.lt
     have HBK := zvq H3.out.block
     clear hBO hb5
     gi_wp2_with (first | (refine zs2 zal (by decide) zbv zat (by decide) rfl _ _ 50 rfl Tryz.underlying50 (w.heap.size + 1) (.slice oa ls.length oc) us rfl HRW5.out.row w'.heap.size ⟨oa2, l.length, oc2⟩ rfl HCL.out hul hN1 ?_; intro v9 w9 hr9 hg9 ho9) | fail)
     have HN9 := zvq (HRW5.out.add hr9 hg9 ho9 HU5.out (fun _ q hq e => by
       have h1 := HBK.out q hq
       have h2 := HLT.out q e
       omega))
     have HM9 := zvq (HM5.out.keeps (HRW5.out.row.keepsO hg9))
     have HB9 := zvq (HB5.out.trans (zp hg9 HRW5.out.row.block (zvs _) hN1))
     have hl9 : (ls ++ [l]).length + r'.length ≤ bs.length := by simp; omega
     refine ⟨⟨_, _, _, _, _, _, _, _, _, _, _, _, _, _, _, _, _, _, _, _, _, _, _, _, _, _, _, _, _, _, _, _, _, _, _, _, _, _, _, _, _, _, _, _, _, _, _, D :: Ds, _, ls ++ [l], r', ⟨HRST.out, HN9.out, HNX.out, HM9.out, HB9.out, hl9⟩, rfl⟩, ?_⟩
     obtain ⟨_, _, _, e, _⟩ := HRST.out
     cases e
     simp [slLen]
     omega
    ·have HN : Hid (V.decP bs = ([], 2)) := zvq (HDN.out (HAT.out.2.1 l H5.out hck))
     have hcb : (V.chk l == 0) = false := by rw [zvu]; exact hck
     clear HAT
     generalize V.chk l = ck at *
     exact zxs
  case stop =>
   rintro D c pre W hD hpre ⟨⟨⟨rfl, q5, hno⟩, hkp⟩, hB⟩ hK
   have hwn : V.qg (V.zd 32 L) = none := hno _ hpre
   have HN : Hid (V.decP bs = ([], 2)) := zvq (HDN.out (by
     cases fb with
     | false =>
       refine znl HLIN.out (HFF.out rfl).1 (fun e => ?_)
       have := (HFF.out rfl).2
       rw [e] at this
       rw [← this] at h01
       simp at h01
     | true =>
       obtain ⟨r', _, hsp, _⟩ := HFT.out rfl
       exact (zp3 HLIN.out hsp).1 hwn))
   have hmB := HMK.out.below HBB.out
   have HMS : Hid (Marked w.heap.size (D :: Ds) W) := zvq ⟨List.nodup_cons.2 ⟨fun hm => by
       have := (Array.getElem?_eq_some_iff.1 (hmB.2 D hm).2).1
       omega, hmB.1⟩, fun D' h' => by
     rcases List.mem_cons.1 h' with rfl | h'
     · exact ⟨by omega, hK⟩
     · have hd := hmB.2 D' h'
       have hlt := (Array.getElem?_eq_some_iff.1 hd.2).1
       refine ⟨hd.1, (hkp.2 D' (by omega) (fun e => ?_)).trans hd.2⟩
       have c5w : wB.cell? ⟨w.heap.size, 0, none⟩ = some (.bool true) := (HBB.out.cell (p := ⟨w.heap.size, 0, none⟩) (by show w.heap.size < wr.heap.size; omega)).trans ((HBE.out.cell (p := ⟨w.heap.size, 0, none⟩) (Nat.lt_succ_self _)).trans HC5.out)
       subst e
       unfold World.cell? at c5w
       rw [hd.2] at c5w
       cases c5w⟩
   have HBS := zvq hB
   clear hK hkp hB hno hpre hwn hmB
   exact zxs
theorem zmc (v : Value) (bs : V.Bs) (w : World) (hm : zg w) (hv : zae w v bs) (hl : bs.length ≤ maxLen) :
  Calls Tryz.prog 40 #[v] w (xq bs w) :=
 callsIn_wide.1 (zp0 v bs w hm hv hl)
open Go.RowKit
def zgo (b : V.Bs) (w : World) (e : Ending) (w' : World) : Prop :=
 ∃ u, e = .returned (.tuple #[advV (V.decV b).1 u, .int .i64 (V.decV b).2]) /\ Affs w' u (V.decV b).1.aff /\ Below w.heap.size w w'
theorem ztn {w : World} {v : Value} {bs : V.Bs} (h : zae w v bs) (h0 : 0 < bs.length) : (convert 36 9 v).run Tryz.prog w = .ok (.string ⟨bs.toArray⟩) w := by
 obtain ⟨a, cap, rfl, _, hat⟩ := h
 obtain ⟨b, off, rfl, _, _⟩ := hat 0 h0
 refine zfr w b off bs.length cap bs rfl (fun j hj => ?_)
 obtain ⟨b', off', e, _, hc⟩ := hat j hj
 cases e
 exact hc
theorem V.readFs_len : ∀ {R : List (List V.Bs)} {l : List V.Aff}, V.ks R = some l -> l.length = R.length
 | [], l, h => by cases h; rfl
 | x :: R, l, h => by
  rw [V.ks] at h
  split at h
  ·obtain ⟨l', h1, rfl⟩ := Option.map_eq_some_iff.1 h
   rw [List.length_cons, List.length_cons, V.readFs_len h1]
  ·cases h
theorem V.readV_facts {ls : List (List V.Bs)} (hw : ∀ l ∈ ls, ∀ x ∈ l, x.length ≤ 32768) (hn : ls.length ≤ 1000) {x : V.Adv} (h : V.jk ls = some x) : x.id.length ≤ maxLen /\ x.aff.length ≤ maxLen := by
 unfold V.jk at h
 split at h
 ·rename_i a i r s rest
  split at h
  ·obtain ⟨l, h1, rfl⟩ := Option.map_eq_some_iff.1 h
   have h2 := hw _ (List.mem_cons_self ..) i (by simp)
   have h3 := V.readFs_len h1
   rw [List.length_cons] at hn
   exact ⟨by show i.length ≤ maxLen; unfold maxLen; omega, by show l.length ≤ maxLen; unfold maxLen; omega⟩
  ·cases h
 ·cases h
theorem V.doc_pos {x : V.Adv} : 0 < (V.doc (V.qi x)).length := by
 have : V.doc (V.qi x) = V.line (V.xo x) ++ V.doc ((x.aff.take x.aff.length).map V.uk) := rfl
 rw [this, List.length_append]
 have : 0 < (V.line (V.xo x)).length := by unfold V.line; simp
 omega
theorem zx5 {P : Prop} (h : P := by
 go_wp2_with (first | (refine qr rfl qa _ _ rfl w.heap.size #[.string ⟨#[]⟩, .int .i64 0, .int .i64 0, .slice none 0 0] 25 HK4.out rfl (.string ⟨#[]⟩) (.int .i64 0) (.int .i64 0) (.slice none 0 0) ⟨rfl, rfl, rfl, rfl⟩ rfl rfl ?_) | fail)
 exact HEX.out 1 _ HE.out HK4.out HB4.out _ Tryz.results14 _ rfl rfl rfl) : P := h
theorem ze3 (v : Value) (bs : V.Bs) (w : World) (hm : zg w) (hp : zcx w) (hv : zae w v bs) (hl : bs.length ≤ maxLen) :
  Calls Tryz.prog 14 #[v] w (zgo bs w) := by
 obtain ⟨hb0, hk0, hz0⟩ := zlg w
 have HM := zvq hm
 have HP := zvq hp
 have HB0 := zvq hb0
 have HK0 := zvq hk0
 have HZ0 := zvq hz0
 have HV := zvq (hv.below hb0)
 have HLB := zvq hl
 have HEX : Hid (∀ (k : Int) (W : World), V.decV bs = (V.zV, k) -> W.heap[w.heap.size]? = some (.cells #[.string ⟨#[]⟩, .int .i64 0, .int .i64 0, .slice none 0 0] 25 (0, 0)) -> Below w.heap.size w W ->
     ∀ fn : Func, fn.results = #[.cell 2 25, .tmp 3] -> ∀ a : Act, a.tmps.getD 2 undef = .pointer (some ⟨w.heap.size, 0, none⟩) -> a.tmps.getD 3 undef = .int .i64 k -> a.defers = [] ->
     bodyPost Tryz.prog fn (zgo bs w) .ret a (W.setRow w.heap.size #[.string ⟨#[]⟩, .int .i64 0, .int .i64 0, .slice none 0 0])) := zvq (by
   intro k W hr hg hb fn hfn a h4 h5 h6
   refine bodyPost_ret (jz hfn h4 h5 (zdg Tryz.underlying25 qa (setRow_heap _ _ _ _ _ _ hg))) h6 ?_
   exact ⟨.slice none 0 0, by rw [hr]; rfl, by rw [hr]; exact Affs.nil _, qu hb _ _ (zvs _) (Array.getElem?_eq_some_iff.1 hg).1⟩)
 obtain ⟨va, vc, rfl⟩ : ∃ va vc, v = .slice va bs.length vc := by obtain ⟨a, c, e, _⟩ := hv; exact ⟨a, c, e⟩
 clear hm hp hv hl hb0 hk0 hz0
 go_enter Tryz.func14, Tryz.ntmps14
 go_wp2_with fail
 generalize w.alloc (.cells #[.string ⟨#[]⟩, .int .i64 0, .int .i64 0, .slice none 0 0] 25) = w0 at *
 refine (zmc (.slice va bs.length vc) bs w0 (HM.out.below HB0.out) HV.out HLB.out).mono ?_
 rintro e w1 ⟨u, rfl, hu, hcap, hb1⟩
 have HB1 := zvr HB0 hb1
 have HK1 := zvq ((hb1.block _ (by have := HZ0.out; omega)).trans HK0.out)
 have HZ1 : Hid (w.heap.size + 1 ≤ w1.heap.size) := zvq (by have := hb1.size; have := HZ0.out; omega)
 have HU := zvq hu
 have HCP := zvq hcap
 have HV1 := zvq (HV.out.below hb1)
 have HWD := zvq (V.decP_words (bs := bs))
 have HLN := zvq (V.decP_len bs)
 clear hb1 hu hcap HB0 HK0 HZ0 HV
 obtain ⟨⟨ls, c⟩, hdp⟩ : ∃ p, V.decP bs = p := ⟨_, rfl⟩
 rw [hdp] at HU HWD HLN ⊢
 simp only at HU HWD HLN ⊢
 have HDP := zvq hdp
 clear hdp
 obtain ⟨ua, uc, rfl⟩ : ∃ ua uc, u = .slice ua ls.length uc := by obtain ⟨a, c, e, _⟩ := HU.out; exact ⟨a, c, e⟩
 by_cases hc : c = 0
 case neg =>
  have HE := zvq (V.zkt HDP.out hc)
  have hcb : (c != 0) = true := by simp [hc]
  go_wp2_with (first | (refine qr rfl qa _ _ rfl w.heap.size #[.string ⟨#[]⟩, .int .i64 0, .int .i64 0, .slice none 0 0] 25 HK1.out rfl (.string ⟨#[]⟩) (.int .i64 0) (.int .i64 0) (.slice none 0 0) ⟨rfl, rfl, rfl, rfl⟩ rfl rfl ?_) | fail)
  exact HEX.out c _ HE.out HK1.out HB1.out _ Tryz.results14 _ rfl rfl rfl
 subst hc
 have HNO : Hid (V.jk ls = none -> V.decV bs = (V.zV, 2)) := zvq (fun h => V.zhp HDP.out h)
 have HYES : Hid (∀ x, V.jk ls = some x -> V.decV bs = if (V.encV x).2 = 0 /\ (V.encV x).1 = bs then (x, 0) else (V.zV, 1)) := zvq (fun x h => V.ze1 HDP.out h)
 have HRF : Hid (∀ x, V.jk ls = some x -> x.id.length ≤ maxLen /\ x.aff.length ≤ maxLen) := zvq (fun x h => V.readV_facts HWD.out HLN.out h)
 have HBS : Hid (∀ x, V.jk ls = some x -> 0 < bs.length) := zvq (fun x h => by
   rcases Nat.eq_zero_or_pos bs.length with e | e
   · have e2 := List.eq_nil_of_length_eq_zero e
     have h1 := HDP.out
     rw [e2, V.zfm] at h1
     cases h1
     cases h
   · exact e)
 go_wp2_with fail
 refine (zqs (.slice ua ls.length uc) ls w1 (HM.out.below HB1.out) HU.out HCP.out HWD.out HLN.out).mono ?_
 rintro e w2 ⟨u2, us, rfl, ⟨hrow, hmap, hown⟩, hb2⟩
 obtain ⟨p2, q2, hu2⟩ := hrow.affs.slice
 rw [hmap] at hu2
 subst hu2
 unfold advV
 have HB2 := zvr HB1 hb2
 have HK2 := zvq ((hb2.block _ (by have := HZ1.out; omega)).trans HK1.out)
 have HZ2 : Hid (w.heap.size + 1 ≤ w2.heap.size) := zvq (by have := hb2.size; have := HZ1.out; omega)
 have HR2 := zvq hrow
 have HMP := zvq hmap
 have HOW := zvq hown
 have HV2 := zvq (HV1.out.below hb2)
 clear hb2 hrow hmap hown HB1 HK1 HV1 HU HCP HDP HWD HLN
 obtain ⟨x, hx⟩ : ∃ x, (V.jk ls).getD V.zV = x := ⟨_, rfl⟩
 obtain ⟨ok, hok⟩ : ∃ ok, (V.jk ls).isSome = ok := ⟨_, rfl⟩
 rw [hx, hok]
 rw [hx] at HMP HR2
 have HX := zvq hx
 have HO := zvq hok
 clear hx hok
 obtain ⟨hb3, d0, d1, d2, d3⟩ := zbb x (.slice p2 x.aff.length q2) w2
 have HB3 := zvr HB2 hb3
 have HK3 := zvq ((hb3.block _ (by have := HZ2.out; omega)).trans HK2.out)
 have HR3 := zvq (HR2.out.later hb3)
 have HV3 := zvq (HV2.out.below hb3)
 have HM3 := zvq (HM.out.below HB3.out)
 have HP3 := zvq (HP.out.below HB3.out)
 have HXW : Hid (w.heap.size + 1 ≤ w2.heap.size) := HZ2
 clear hb3 HB2 HK2 HR2 HV2 HM HP
 rcases ok with _ | _
 ·have HE := zvq (HNO.out (by cases h : V.jk ls with | none => rfl | some y => have := HO.out; rw [h] at this; cases this))
  go_wp2_with (first | (refine qr rfl qa _ _ rfl w.heap.size #[.string ⟨#[]⟩, .int .i64 0, .int .i64 0, .slice none 0 0] 25 HK3.out rfl (.string ⟨#[]⟩) (.int .i64 0) (.int .i64 0) (.slice none 0 0) ⟨rfl, rfl, rfl, rfl⟩ rfl rfl ?_) | fail)
  exact HEX.out 2 _ HE.out HK3.out HB3.out _ Tryz.results14 _ rfl rfl rfl
 ·have hrv : V.jk ls = some x := by
   cases h : V.jk ls with
   | none => have := HO.out; rw [h] at this; cases this
   | some y => have := HX.out; rw [h] at this; exact congrArg some this
  have HY := zvq (HYES.out x hrv)
  have HF := zvq (HRF.out x hrv)
  have HBP := zvq (HBS.out x hrv)
  have HAF : Hid (Affs (w2.alloc (.cells #[.string ⟨x.id.toArray⟩, .int .i64 x.rev, .int .i64 x.sev, .slice p2 x.aff.length q2] 25)) (.slice p2 x.aff.length q2) x.aff) := zvq (by have := HR3.out.affs; rwa [HMP.out] at this)
  clear hrv HYES HRF HBS HNO HO HX
  go_wp2_with fail
  generalize w2.alloc (.cells #[.string ⟨x.id.toArray⟩, .int .i64 x.rev, .int .i64 x.sev, .slice p2 x.aff.length q2] 25) = w3 at *
  generalize w2.heap.size = X at *
  refine (ze4 x (.slice p2 x.aff.length q2) w3 HM3.out HP3.out HAF.out HF.out.1 HF.out.2).mono ?_
  intro e w4 he
  have hb4 := he.2.2
  have HB4 := zvr HB3 hb4
  have HK4 := zvq ((hb4.block _ (by have := HB3.out.size; have := (Array.getElem?_eq_some_iff.1 HK3.out).1; omega)).trans HK3.out)
  have HR4 := zvq (HR3.out.later hb4)
  have HV4 := zvq (HV3.out.below hb4)
  replace d0 := zb hb4 d0
  replace d1 := zb hb4 d1
  replace d2 := zb hb4 d2
  replace d3 := zb hb4 d3
  clear hb4 HB3 HK3 HR3 HV3 HM3 HP3 HAF
  by_cases hz : (V.encV x).2 = 0
  case neg =>
   have hq := he.2.1 hz
   subst hq
   have HE : Hid (V.decV bs = (V.zV, 1)) := zvq (by rw [HY.out, if_neg (fun e => hz e.1)])
   have hzb : ((V.encV x).2 != 0) = true := by simp [hz]
   clear he
   generalize (V.encV x).2 = ee at *
   exact zx5
  obtain ⟨u4, N4, W4, rfl, hbuf⟩ := he.1 hz
  have h1 := zcn hbuf (by rw [(V.zi7 hz).2.2]; exact V.doc_pos)
  have h2 := ztn HV4.out HBP.out
  obtain ⟨a4, c4, rfl⟩ := hbuf.slice
  have H1 := zvq h1
  have H2 := zvq h2
  have HZ := zvq hz
  clear he h1 h2 hbuf hz
  generalize hD : (V.encV x).1 = D at *
  have HD := zvq hD
  clear hD
  go_wp2_with fail
  refine (Tryz.bytes_Equal_strs _ _ ⟨D.toArray⟩ ⟨bs.toArray⟩ w4 H1.out H2.out).mono ?_
  rintro e w' ⟨rfl, hw'⟩
  obtain rfl := hw'.symm
  clear hw'
  by_cases heq : D = bs
  case neg =>
   have hb : ((⟨D.toArray⟩ : ByteArray).toList == (⟨bs.toArray⟩ : ByteArray).toList) = false := by
    rw [Lib.toList_data, Lib.toList_data, kk, kk, zvu]; exact heq
   have HE : Hid (V.decV bs = (V.zV, 1)) := zvq (by rw [HY.out, if_neg (fun e => heq e.2)])
   rw [hb]
   clear hb heq
   exact zx5
  ·have hb : ((⟨D.toArray⟩ : ByteArray).toList == (⟨bs.toArray⟩ : ByteArray).toList) = true := by
    rw [heq]; simp
   have HE : Hid (V.decV bs = (x, 0)) := zvq (by rw [HY.out, if_pos ⟨HZ.out, heq⟩])
   rw [hb]
   clear hb heq
   go_wp2_with (first | (refine qr rfl qa _ _ rfl w.heap.size #[.string ⟨#[]⟩, .int .i64 0, .int .i64 0, .slice none 0 0] 25 HK4.out rfl (.string ⟨x.id.toArray⟩) (.int .i64 x.rev) (.int .i64 x.sev) (.slice p2 x.aff.length q2) ⟨rfl, rfl, rfl, rfl⟩ rfl rfl ?_) | fail)
   refine bodyPost_ret (v := .tuple #[.agg #[.string ⟨x.id.toArray⟩, .int .i64 x.rev, .int .i64 x.sev, .slice p2 x.aff.length q2], .int .i64 0]) (jz Tryz.results14 rfl rfl (zdg Tryz.underlying25 qa (setRow_heap _ _ _ _ _ _ HK4.out))) rfl ?_
   refine ⟨.slice p2 x.aff.length q2, by rw [HE.out]; rfl, ?_, qu HB4.out _ _ (zvs _) (Array.getElem?_eq_some_iff.1 HK4.out).1⟩
   rw [HE.out]
   have hbk := GRow.block HR4.out.row
   have := (HR4.out.kept (qk w4 w.heap.size #[.string ⟨x.id.toArray⟩, .int .i64 x.rev, .int .i64 x.sev, .slice p2 x.aff.length q2]) (fun e => by have h1 := hbk _ e; have h2 := HZ1.out; omega) (fun p hp c hc => by have h1 := HOW.out p hp c hc; have h2 := HZ1.out; omega)).affs
   rwa [HMP.out] at this
end Go.Proofs.YtiloljoancdcbaaGreatDoor
