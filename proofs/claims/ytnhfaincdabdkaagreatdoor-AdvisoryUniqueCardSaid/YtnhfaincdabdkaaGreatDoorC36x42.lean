/-
  Lemmas for the law.
-/
import Derived.Test.YtnhfaincdabdkaaGreatDoorC36x41
import Derived.WalkMore
set_option linter.all false
set_option maxRecDepth 100000
set_option maxHeartbeats 12800000
namespace Go.Proofs.YtnhfaincdabdkaaGreatDoor
open Go.RowKit Go.Shelf
attribute [local go_sem] Oper.semAt_some
theorem zvw {P : Prop} (h : P := by
 gi_wp2
 exact ya (T := fun W => Below w.heap.size w W) (fun D W hB hD h => zax hB hD h) (fun W h => ⟨.tuple #[.slice none 0 0, .int .i64 2], by simp [results, Tryz.f44, go_sem], zam.err HN.out h⟩) (D :: Ds) _ HMS.out HBS.out) : P := h
theorem zv2 {P : Prop} (h : P := by
 rw [hW0, hO]; simp only [zc, World.size_alloc]; repeat (first | rw [if_pos (by omega)] | rw [if_neg (by omega)])
 rfl) : P := h
theorem zy0 {P : Prop} (h : P := by
 rw [hW0, hO]; simp only [zv, World.size_alloc]; repeat (first | rw [if_pos (by omega)] | rw [if_neg (by omega)])
 rfl) : P := h
theorem zot (v : Value) (bs : V.Bs) (w : World) (hm : zg w) (hv : zba w v bs) (hl : bs.length ≤ maxLen) :
  CallsIn Fence.wide 12 Tryz.prog 44 #[v] w (zam bs w) := by
 obtain ⟨va, vc, rfl, hcap, hat⟩ := hv
 unfold maxLen at hl
 have HM := zuy hm
 clear hm
 refine callsIn_of_wp_marks Tryz.func44 rfl trivial ?_ rfl
 simp only [Tryz.ntmps44, List.size_toArray, List.length_cons, List.length_nil, Nat.reduceAdd, Nat.reduceSub, Array.replicate_succ, Array.replicate_zero, List.push_toArray, List.append_toArray, List.nil_append, List.cons_append]
 by_cases hbig : 262144 < bs.length
 ·have HP : Hid (V.decP bs = ([], 3)) := zuy (by unfold V.decP; rw [if_pos hbig])
  have hn : (262144 : Int) < (bs.length : Int) := by omega
  clear hat
  gi_wp2
  refine wpIn_wide.2 (wp_scope_straight ((wpIn_wide (n := 12)).1 ?_))
  gi_wp2
  exact ⟨_, by simp [results, Tryz.f44, go_sem], zam.err HP.out (zu1 _ _)⟩
 have hn : ¬ (262144 : Int) < (bs.length : Int) := by omega
 obtain ⟨g, off, hva, HCB⟩ : ∃ g off, (0 < bs.length -> va = some ⟨g, off, none⟩ /\ g < w.heap.size) /\ Hid (∀ j (h : j < bs.length), w.cell? ⟨g, off + j, none⟩ = some (.int .u8 (bs[j]).toNat)) := by
  by_cases h : 0 < bs.length
  ·obtain ⟨b, o, e, hb, _⟩ := hat 0 h
   refine ⟨b, o, fun _ => ⟨e, hb⟩, zuy (fun j hj => ?_)⟩
   obtain ⟨b2, o2, e2, _, hc⟩ := hat j hj
   rw [e] at e2
   cases e2
   exact hc
  ·exact ⟨0, 0, fun e => absurd e h, zuy (fun j hj => absurd hj (by omega))⟩
 have HVA := zuy hva
 have HR0 : Hid (Rest g off bs (.slice va bs.length vc) bs) := zuy ⟨0, va, vc, rfl, rfl, by omega, fun h => ⟨(hva h).1, hcap⟩⟩
 have HDN : Hid (V.ji (V.ze 10 bs) = none -> V.decP bs = ([], 2)) := zuy (fun h => by unfold V.decP; rw [if_neg hbig, h])
 have HDS : Hid (∀ ls, V.ji (V.ze 10 bs) = some ls -> V.decP bs = if ls.length ≤ 1000 then (ls, 0) else ([], 2)) := zuy (fun ls h => by unfold V.decP; rw [if_neg hbig, h])
 have hbl : bs.length ≤ 262144 := by omega
 clear hat hbig hva hcap hl
 gi_wp2
 refine wpIn_wide.2 (wp_scope_straight ((wpIn_wide (n := 12)).1 ?_))
 gi_wp2
 apply wpIn_label
 gi_wp2
 obtain ⟨W1, hW1⟩ : ∃ W1, W1 = w.alloc (.cells #[.bool true] 4) := ⟨_, rfl⟩
 have hz1 : W1.heap.size = w.heap.size + 1 := by rw [hW1]; simp
 have hb1 : Below w.heap.size w W1 := by rw [hW1]; exact (zu1 _ w).alloc (zu0 _) _
 have hc5 : W1.cell? ⟨w.heap.size, 0, none⟩ = some (.bool true) := by rw [hW1, World.cell?_alloc_new]; rfl
 have hf5 : W1.frozen? ⟨w.heap.size, 0, none⟩ = false := by rw [hW1, zv, if_pos rfl]
 rw [← hW1]
 clear hW1
 have HB1 := zuy hb1
 have HC5 := zuy hc5
 have HF5 := zuy hf5
 have HMK0 : Hid (Marked w.heap.size [] W1) := zuy ⟨List.nodup_nil, fun D h => by cases h⟩
 clear hb1 hc5 hf5
 refine wpIn_loop (fun a' w' => ∃ (bv ov u6 u7 u8 u9 u10 u11 u12 u16 u17 u18 u19 u20 u21 u22 u23 u24 u25 u26 u27 u28 u29 u30 u31 u32 u33 u34 u35 u36 u37 u38 u39 u40 u41 u42 u43 u44 u45 u46 u47 u48 u49 u50 u51 u52 u53 : Value) (Ds : List Nat) (us : List Lsl) (ls : List (List V.Bs)) (r : V.Bs), (Rest g off bs bv r /\ LRow (w.heap.size + 1) w' ov us ls /\ V.ji (V.ze 10 bs) = (V.ji (V.ze 10 r)).map (ls ++ ·) /\ Marked w.heap.size Ds w' /\ Below (w.heap.size + 1) W1 w' /\ ls.length + r.length ≤ bs.length) /\ a' = { tmps := #[bv, undef, .slice none 0 0, .int .i64 0, ov, .pointer (some ⟨w.heap.size, 0, none⟩), u6, u7, u8, u9, u10, u11, u12, .slice va bs.length vc, .int .i64 bs.length, .bool (decide ((262144 : Int) < (bs.length : Int))), u16, u17, u18, u19, u20, u21, u22, u23, u24, u25, u26, u27, u28, u29, u30, u31, u32, u33, u34, u35, u36, u37, u38, u39, u40, u41, u42, u43, u44, u45, u46, u47, u48, u49, u50, u51, u52, u53, undef, undef, undef, undef, undef, undef, undef, undef], defers := zsu Ds }) (fun a' _ => slLen (a'.tmps[0]?)) ⟨.slice va bs.length vc, .slice none 0 0, undef, undef, undef, undef, undef, undef, undef, undef, undef, undef, undef, undef, undef, undef, undef, undef, undef, undef, undef, undef, undef, undef, undef, undef, undef, undef, undef, undef, undef, undef, undef, undef, undef, undef, undef, undef, undef, undef, undef, undef, undef, undef, undef, undef, undef, [], [], [], bs, ⟨HR0.out, LRow.nil _ _, by simp, HMK0.out, zu1 _ _, by simp⟩, rfl⟩ ?_
 rintro a wr ⟨bv, ov, u6, u7, u8, u9, u10, u11, u12, u16, u17, u18, u19, u20, u21, u22, u23, u24, u25, u26, u27, u28, u29, u30, u31, u32, u33, u34, u35, u36, u37, u38, u39, u40, u41, u42, u43, u44, u45, u46, u47, u48, u49, u50, u51, u52, u53, Ds, us, ls, r, ⟨hrest, hrow, hlin, hmk, hbel, hlen⟩, rfl⟩
 try dsimp only
 obtain ⟨p, ra, rc, rfl, hr, hp, hra⟩ := hrest
 obtain ⟨oa, oc, rfl⟩ := hrow.slice
 have HLR := zuy hrow
 have HLIN := zuy hlin
 have HMK := zuy hmk
 have HBE := zuy hbel
 have hzr : w.heap.size + 1 ≤ wr.heap.size := by have := hbel.size; omega
 have c5 : wr.cell? ⟨w.heap.size, 0, none⟩ = some (.bool true) := (hbel.cell (p := ⟨w.heap.size, 0, none⟩) (Nat.lt_succ_self _)).trans HC5.out
 have HBW := zuy (HB1.out.trans (hbel.mono (Nat.le_succ _)))
 have HRR := zuy hr
 clear hrow hlin hmk hbel HR0 hr
 by_cases h0 : r.length = 0
 ·have h00 : ¬ (0 : Int) < (r.length : Int) := by omega
  have HS : Hid (V.ji (V.ze 10 bs) = some ls) := zuy (by
    rw [HLIN.out, List.length_eq_zero_iff.1 h0]
    simp [V.ze, V.ji])
  have HLN := zuy HLR.out.lines
  have HCP := zuy HLR.out.cap
  have HD2 := zuy (HDS.out ls HS.out)
  by_cases hk : 1000 < ls.length
  ·have hk2 : (1000 : Int) < (ls.length : Int) := by omega
   have HP : Hid (V.decP bs = ([], 2)) := zuy (by rw [HD2.out, if_neg (by omega)])
   gi_wp2
   exact ya (T := fun W => Below w.heap.size w W) (fun D W hB hD h => zax hB hD h) (fun W h => ⟨.tuple #[.slice none 0 0, .int .i64 2], by simp [results, Tryz.f44, go_sem], zam.err HP.out h⟩) Ds wr HMK.out HBW.out
  ·have hk2 : ¬ (1000 : Int) < (ls.length : Int) := by omega
   have HP : Hid (V.decP bs = (ls, 0)) := zuy (by rw [HD2.out, if_pos (by omega)])
   gi_wp2
   exact ya (T := fun W => Below w.heap.size w W /\ Lines W (.slice oa ls.length oc) ls) (fun D W hB hD h => ⟨zax hB hD h.1, h.2.mark hD⟩) (fun W h => ⟨.tuple #[.slice oa ls.length oc, .int .i64 0], by simp [results, Tryz.f44, go_sem], ⟨_, by rw [HP.out], by rw [HP.out]; exact h.2, HCP.out, h.1⟩⟩) Ds wr HMK.out ⟨HBW.out, HLN.out⟩
 ·obtain ⟨hra1, hrc⟩ := hra (by omega)
  subst hra1
  have hgw := (HVA.out (by omega)).2
  have h01 : (0 : Int) < (r.length : Int) := by omega
  obtain ⟨L, c1, ra2, n2, c2, fb, hcut, hLc, hLr, hLb, hft, hff⟩ := cut_rest (g := g) (off := off) HRR.out hp hrc
  have HCUT := zuy hcut
  have HLB := zuy hLb
  have HFT := zuy hft
  have HFF := zuy hff
  clear hcut hLb hft hff hra
  have hbA : Below wr.heap.size wr (wr.alloc (.cells #[.int .u8 10] 5)) := (zu1 _ wr).alloc (zu0 _) _
  have HCR : Hid (∀ j (h : j < r.length), (wr.alloc (.cells #[.int .u8 10] 5)).cell? ⟨g, off + p + j, none⟩ = some (.int .u8 (r[j]).toNat)) := zuy (fun j h => by
    refine (hbA.cell (p := ⟨g, off + p + j, none⟩) (by show g < wr.heap.size; omega)).trans ?_
    rw [Nat.add_assoc]
    refine (HBW.out.cell (p := ⟨g, off + (p + j), none⟩) hgw).trans ?_
    rw [HCB.out (p + j) (by omega)]
    have e := HRR.out
    subst e
    simp)
  have HSP : Hid ((wr.alloc (.cells #[.int .u8 10] 5)).cell? ⟨wr.heap.size, 0, none⟩ = some (.int .u8 ((10 : UInt8).toNat : Int))) := zuy (by rw [World.cell?_alloc_new]; rfl)
  have HMA := zuy (HM.out.below (HBW.out.trans (hbA.mono HBW.out.size)))
  have HBA := zuy hbA
  clear hbA
  gi_wp2_with fail
  refine ⟨trivial, (callsIn_wide.2 (cutB_any 10 g (off + p) rc wr.heap.size r _ HMA.out (by omega) hrc (by omega) HCR.out HSP.out)).mono ?_⟩
  rintro e wB ⟨rfl, hbB⟩
  rw [HCUT.out]
  have HBB := zuz HBA hbB
  clear hbB HCR HSP HMA HBA HCUT
  gi_wp2_with fail
  refine ⟨trivial, (callsIn_wide.2 (zla _ _ _ _ _ _ _)).mono ?_⟩
  rintro e w' ⟨rfl, rfl⟩
  gi_wp2
  obtain ⟨W0, hW0⟩ : ∃ W0, W0 = (((((wB.alloc (.cells #[.slice none 0 0] 61)).alloc (.cells #[.int .u8 32] 5)).alloc (.cells #[.slice (some ⟨g, off + p, none⟩) L.length c1] 22)).alloc (.cells #[.slice (some ⟨wB.heap.size + 1, 0, none⟩) 1 1] 22)).alloc (.cells #[.int .i64 0] 3)) := ⟨_, rfl⟩
  rw [← hW0]
  obtain ⟨O, hO⟩ : ∃ O, O = wB.heap.size := ⟨_, rfl⟩
  have hsz : W0.heap.size = O + 5 := by rw [hW0, hO]; simp
  have hB0 : Below wB.heap.size wB W0 := by
   rw [hW0]
   exact (((((zu1 _ wB).alloc (zu0 _) _).alloc (by simp) _).alloc (by simp; omega) _).alloc (by simp; omega) _).alloc (by simp; omega) _
  have c9 : W0.cell? ⟨O, 0, none⟩ = some (.slice none 0 0) := by
   exact zv2
  have f9 : W0.frozen? ⟨O, 0, none⟩ = false := by
   exact zy0
  have cb2 : W0.cell? ⟨O + 1, 0, none⟩ = some (.int .u8 ((32 : UInt8).toNat : Int)) := by
   exact zv2
  have cS : W0.cell? ⟨O + 1 + 1, 0, none⟩ = some (.slice (some ⟨g, off + p, none⟩) L.length c1) := by
   exact zv2
  have fS : W0.frozen? ⟨O + 1 + 1, 0, none⟩ = false := by
   exact zy0
  have cP : W0.cell? ⟨O + 1 + 1 + 1, 0, none⟩ = some (.slice (some ⟨O + 1, 0, none⟩) 1 1) := by
   exact zv2
  have cV : W0.cell? ⟨O + 1 + 1 + 2, 0, none⟩ = some (.int .i64 0) := by
   exact zv2
  rw [← hO] at hB0 ⊢
  have hOw : w.heap.size < O := by have := HBB.out.size; omega
  have HBO := zuy (HBW.out.trans (HBB.out.mono HBW.out.size))
  have HLC : Hid (∀ j (h : j < L.length), wB.cell? ⟨g, off + p + j, none⟩ = some (.int .u8 (L[j]).toNat)) := zuy (fun j h => by
    refine (HBO.out.cell (p := ⟨g, off + p + j, none⟩) hgw).trans ?_
    have e := HLB.out j h
    have hj := (List.getElem?_eq_some_iff.1 e).1
    rw [Nat.add_assoc, HCB.out (p + j) hj, (List.getElem?_eq_some_iff.1 e).2])
  have HLC0 : Hid (∀ j (h : j < L.length), W0.cell? ⟨g, off + p + j, none⟩ = some (.int .u8 (L[j]).toNat)) := zuy (fun j h => (hB0.cell (p := ⟨g, off + p + j, none⟩) (by show g < O; omega)).trans (HLC.out j h))
  have HB0 := zuy hB0
  have HC9 := zuy (And.intro c9 f9)
  have HCB2 := zuy cb2
  have HCS := zuy (And.intro cS (And.intro fS (And.intro cP cV)))
  have hL9 : L.length ≤ 262144 := by omega
  have hOb : wB.heap.size = O := hO.symm
  clear hW0 hO hB0 c9 f9 cb2 cS fS cP cV c5
  refine zfg (b := O + 1 + 1) rfl (by omega) (gf := 166)
   (lb := #[.pointer (some ⟨O + 1 + 1 + 1, 0, none⟩), .pointer (some ⟨O + 1 + 1, 0, none⟩), .pointer (some ⟨O + 1 + 1 + 2, 0, none⟩)])
   rfl trivial (enters_of Tryz.func166 (by kernel_rfl) rfl) (by omega)
   (zpy 11 (by omega) (O + 1 + 1) g (off + p) c1 (O + 1) O (by omega) (by omega) (by omega) 32 L (by omega) hLc (by omega) (by omega) W0 (by omega) HCS.out.1 HCS.out.2.1 HCS.out.2.2.1 HCS.out.2.2.2 HLC0.out HCB2.out)
   (fun h k => h.trans k) (KpO.put (by omega)) (fun _ => rfl)
   (I := fun pre W => (∃ ov2 l, W.cell? ⟨O, 0, none⟩ = some ov2 /\ W.frozen? ⟨O, 0, none⟩ = false /\ O + 5 ≤ W.heap.size /\ GRow 9 1 wrdE W (O + 5) ov2 l /\ V.qz (pre.map Prod.snd) = some l) /\ Below O wB W)
   (Ix := fun c pre W => ((c = .exit 0 /\ W.cell? ⟨w.heap.size, 0, none⟩ = some (.bool false) /\ (∀ S, pre.map Prod.snd <+: S -> V.qz S = none)) /\ KpO O w.heap.size wB W) /\ Below w.heap.size w W)
   (act := fun x => { tmps := #[.slice (some ⟨g, off + p, none⟩) r.length rc, undef, .slice none 0 0, .int .i64 0, .slice oa ls.length oc, .pointer (some ⟨w.heap.size, 0, none⟩), .slice (some ⟨g, off + p, none⟩) L.length c1, .slice ra2 n2 c2, .bool fb, .pointer (some ⟨O, 0, none⟩), .slice (some ⟨g, x.1, none⟩) x.2.length x.2.length, u11, u12, .slice va bs.length vc, .int .i64 bs.length, .bool (decide ((262144 : Int) < (bs.length : Int))), .slice (some ⟨g, off + p, none⟩) r.length rc, .int .i64 r.length, .bool true, .tuple #[.slice (some ⟨g, off + p, none⟩) L.length c1, .slice ra2 n2 c2, .bool fb], .slice (some ⟨g, off + p, none⟩) r.length rc, .slice (some ⟨wr.heap.size, 0, none⟩) 1 1, .tuple #[.slice (some ⟨g, off + p, none⟩) L.length c1, .slice ra2 n2 c2, .bool fb], .slice (some ⟨g, off + p, none⟩) L.length c1, .slice ra2 n2 c2, .bool fb, .slice (some ⟨g, off + p, none⟩) L.length c1, .slice (some ⟨O + 1, 0, none⟩) 1 1, .func (.func 166) #[] #[.pointer (some ⟨O + 1 + 1 + 1, 0, none⟩), .pointer (some ⟨O + 1 + 1, 0, none⟩), .pointer (some ⟨O + 1 + 1 + 2, 0, none⟩)], .slice (some ⟨g, x.1, none⟩) x.2.length x.2.length, u30, u31, u32, u33, u34, u35, u36, u37, u38, u39, u40, u41, u42, u43, u44, u45, u46, u47, u48, u49, u50, u51, u52, u53, undef, undef, undef, undef, undef, undef, undef, undef], defers := [] })
   ⟨?own, ?ownx, ?state, ?assign, ?body⟩ ⟨⟨_, [], HC9.out.1, HC9.out.2, by omega, GRow.nil _ _, rfl⟩, HB0.out⟩ ?done ?stop
  case own =>
   refine OwnFrom.and (Own.from (fun s A B row hs hg hr => ?_) _) (ownFrom_below (by omega) (by omega))
   obtain ⟨ov2, l, h1, h2, h4, h3, h5⟩ := hs
   exact ⟨ov2, l, cell_kept h1 hg hr, (frozen_kept h1 hg hr).trans h2, Nat.le_trans h4 hg.size, h3.own hg hr, h5⟩
  case ownx =>
   intro c
   exact OwnFrom.and (OwnFrom.and (Own.from (fun s A B row hs hg hr => ⟨hs.1, cell_kept hs.2.1 hg hr, hs.2.2⟩) _) (kpO_own (by omega) (by omega))) (ownFrom_below (zu0 _) (by omega))
  case state =>
   rintro s A u ⟨⟨ov2, l, h1, h2, h4, h3, h5⟩, hB⟩
   exact ⟨⟨ov2, l, by rw [World.cell?_setCell_other _ _ _ _ (by simp)]; exact h1, by rw [World.frozen?_setCell]; exact h2, Nat.le_trans h4 (za6 A (O + 1 + 1) 0 u).size, h3.kept (za6 A (O + 1 + 1) 0 u) (fun b hb => by cases hb; omega), h5⟩, hB.setCell (p := ⟨O + 1 + 1, 0, none⟩) (by show O ≤ O + 1 + 1; omega) _⟩
  case assign =>
   intro l x W K hK
   gi_wp2
   exact hK
  case body =>
   rintro lp pre x W ⟨⟨ov2, l, h1, h2, h4, h3, h5⟩, hB⟩ ⟨hx, hpn⟩
   obtain ⟨oa2, oc2, rfl⟩ := GRow.slice h3
   have HBw := zuy hB
   have H3 := zuy h3
   have H5 := zuy h5
   have hxl : x.2.length ≤ 262144 := by
    obtain ⟨_, hh, _⟩ := hx
    omega
   have hcv := zi9 W g x.1 x.2.length x.2.length x.2 rfl (hx.cells (fun j h => (HBw.out.cell (p := ⟨g, off + p + j, none⟩) (by show g < O; omega)).trans (HLC.out j h)))
   have hll : l.length ≤ 262145 := by
    have h1 := (V.zp5 h5).1
    rw [List.length_map] at h1
    omega
   clear h3 hB h5
   gi_wp2_with fail
   refine ⟨trivial, (CallsIn.inRound lp (callsIn_wide.2 (znj x.2 W (by omega)))).mono ?_⟩
   rintro e W2 ⟨rfl, hb2⟩
   have hkb := zgr hb2
   have HKB := zuy hkb
   have HKP := zuy (zmh (O := O) h4 hb2)
   have HB2 := zuy (HBw.out.trans (hb2.mono (by rw [← hOb]; exact HBw.out.size)))
   have H32 := zuy (H3.out.below hb2)
   have k1 : W2.cell? ⟨O, 0, none⟩ = some (.slice oa2 l.length oc2) := (hb2.cell (p := ⟨O, 0, none⟩) (by show O < W.heap.size; omega)).trans h1
   have k2 : W2.frozen? ⟨O, 0, none⟩ = false := (hb2.frozen (p := ⟨O, 0, none⟩) (by show O < W.heap.size; omega)).trans h2
   have k4 : O + 5 ≤ W2.heap.size := Nat.le_trans h4 hb2.size
   clear hkb hb2 hcv h1 h2 H3
   rcases V.ziq x.2 with hu | ⟨wd, hu, _⟩
   ·have HU := zuy hu
    rw [hu]
    clear hu
    have q5 : W2.cell? ⟨w.heap.size, 0, none⟩ = some (.bool true) := (HB2.out.cell (p := ⟨w.heap.size, 0, none⟩) (by show w.heap.size < O; omega)).trans ((HBB.out.cell (p := ⟨w.heap.size, 0, none⟩) (by show w.heap.size < wr.heap.size; omega)).trans ((HBE.out.cell (p := ⟨w.heap.size, 0, none⟩) (Nat.lt_succ_self _)).trans HC5.out))
    have qf : W2.frozen? ⟨w.heap.size, 0, none⟩ = false := (HB2.out.frozen (p := ⟨w.heap.size, 0, none⟩) (by show w.heap.size < O; omega)).trans ((HBB.out.frozen (p := ⟨w.heap.size, 0, none⟩) (by show w.heap.size < wr.heap.size; omega)).trans ((HBE.out.frozen (p := ⟨w.heap.size, 0, none⟩) (Nat.lt_succ_self _)).trans HF5.out))
    gi_wp2
    refine ⟨HKB.out.trans (KeepsOthers.setCell _ _ _), ⟨⟨rfl, World.cell?_setCell_same' _ _ _ (by rw [q5]; rfl), fun S hS => zjk HU.out (by simpa using hS)⟩, ?_⟩, ?_⟩
    ·refine ⟨Nat.le_trans HB2.out.size (za6 W2 w.heap.size 0 _).size, fun q hq hqo => ?_⟩
     rw [Below.heap_setCell _ _ _ _ (by show q ≠ w.heap.size; exact hqo)]
     exact HB2.out.block q hq
    ·exact (HBO.out.trans (HB2.out.mono (by omega))).setCell (p := ⟨w.heap.size, 0, none⟩) (zu0 _) _
   ·have HU := zuy hu
    rw [hu]
    clear hu
    have hb5 : Below W2.heap.size W2 (W2.alloc (.cells #[.string ⟨wd.toArray⟩] 9)) := (zu1 _ W2).alloc (zu0 _) _
    have HR5 := zuy (H32.out.below hb5)
    have HNW : Hid (∀ i u, (wrdE wd)[i]? = some u -> (W2.alloc (.cells #[.string ⟨wd.toArray⟩] 9)).cell? ⟨W2.heap.size, i, none⟩ = some u) := zuy (fun i u hu => by
      rw [World.cell?_alloc_new]
      simpa [wrdE] using hu)
    have HK5 := zuy (HKB.out.trans (zgr hb5))
    have HP5 := zuy (HKP.out.trans (zmh (O := O) k4 hb5))
    have HB5 := zuy (HB2.out.trans (hb5.mono (by rw [← hOb]; exact HB2.out.size)))
    have j1 : (W2.alloc (.cells #[.string ⟨wd.toArray⟩] 9)).cell? ⟨O, 0, none⟩ = some (.slice oa2 l.length oc2) := (hb5.cell (p := ⟨O, 0, none⟩) (by show O < W2.heap.size; omega)).trans k1
    have j2 : (W2.alloc (.cells #[.string ⟨wd.toArray⟩] 9)).frozen? ⟨O, 0, none⟩ = false := (hb5.frozen (p := ⟨O, 0, none⟩) (by show O < W2.heap.size; omega)).trans k2
    have j4 : O + 5 ≤ (W2.alloc (.cells #[.string ⟨wd.toArray⟩] 9)).heap.size := Nat.le_trans k4 hb5.size
    have J1 := zuy (And.intro j1 j2)
    clear hb5 HKB HKP HB2 H32 j1 j2
    gi_wp2_with (first | (refine zrd rfl _ _ rfl (O + 5) (.slice oa2 l.length oc2) l rfl HR5.out W2.heap.size wd rfl HNW.out (by omega) j4 ?_
                          intro v' w3 hi3 hg3
                          have c3 : w3.cell? ⟨O, 0, none⟩ = some (.slice oa2 l.length oc2) := hg3.cell J1.out.1 (fun e => by have := HR5.out.block _ e.symm; simp at this; omega)
                          have f3 : w3.frozen? ⟨O, 0, none⟩ = false := by
                            rw [← J1.out.2]
                            unfold World.frozen?
                            rw [hg3.block O (by omega) (fun e => by have := HR5.out.block _ e.symm; omega)]
                          obtain ⟨va', vc', hv'⟩ := GRow.slice hi3
                          subst hv'
                          have hL3 : (l ++ [wd]).length = l.length + 1 := by simp
                          rw [hL3] at hi3
                          have HI3 := zuy hi3
                          have HG3 := zuy hg3
                          clear hi3 hg3) | fail)
    refine ⟨HK5.out.trans ((HR5.out.keepsO HG3.out).trans (KeepsOthers.setCell _ _ _)), HP5.out.trans ⟨Nat.le_trans HG3.out.size (za6 w3 O 0 _).size, fun q hq hqo => ?_⟩, ⟨_, l ++ [wd], World.cell?_setCell_same _ _ _ c3, by rw [World.frozen?_setCell]; exact f3, ?_, ?_, ?_⟩, ?_⟩
    ·rw [Below.heap_setCell _ _ _ _ (by show q ≠ O; exact hqo)]
     exact HG3.out.block q (by omega) (fun e => by have := HR5.out.block _ e.symm; omega)
    ·have := HG3.out.size
     simp only [World.setCell, Array.size_modify]
     omega
    ·exact HI3.out.kept (za6 w3 O 0 _) (fun b hb => by cases hb; omega)
    ·rw [List.map_append]
     exact zjl H5.out HU.out
    ·exact (HB5.out.trans (zl HG3.out HR5.out.block (by omega) j4)).setCell (p := ⟨O, 0, none⟩) (zu0 _) _
  case done =>
   rintro D ys W hD hys ⟨⟨ov2, l, h1, h2, h4, h3, h5⟩, hB⟩ hK
   rw [hys] at h5
   obtain ⟨oa2, oc2, rfl⟩ := GRow.slice h3
   have HBw := zuy hB
   have H3 := zuy h3
   have H5 := zuy h5
   have hBO : Below O wB W := hB
   have HMW := zuy (Marked.cons (HMK.out.below HBB.out) (by rw [hOb]; exact hBO) (by omega) (by omega) hK)
   have q5 : W.cell? ⟨w.heap.size, 0, none⟩ = some (.bool true) := (hBO.cell (p := ⟨w.heap.size, 0, none⟩) (by show w.heap.size < O; omega)).trans ((HBB.out.cell (p := ⟨w.heap.size, 0, none⟩) (by show w.heap.size < wr.heap.size; omega)).trans ((HBE.out.cell (p := ⟨w.heap.size, 0, none⟩) (Nat.lt_succ_self _)).trans HC5.out))
   have qf : W.frozen? ⟨w.heap.size, 0, none⟩ = false := (hBO.frozen (p := ⟨w.heap.size, 0, none⟩) (by show w.heap.size < O; omega)).trans ((HBB.out.frozen (p := ⟨w.heap.size, 0, none⟩) (by show w.heap.size < wr.heap.size; omega)).trans ((HBE.out.frozen (p := ⟨w.heap.size, 0, none⟩) (Nat.lt_succ_self _)).trans HF5.out))
   have HBV := zuy (HBO.out.trans (hBO.mono (by omega)))
   have q5s := World.cell?_setCell_same W ⟨w.heap.size, 0, none⟩ (.bool false) q5
   have HMS := zuy (HMW.out.setCell q5 (.bool false))
   have HBS := zuy (HBV.out.setCell (p := ⟨w.heap.size, 0, none⟩) (zu0 _) (.bool false))
   clear h3 hB h5 hK hys hBO
   cases fb with
   | false =>
    have HN : Hid (V.decP bs = ([], 2)) := zuy (HDN.out (zmc HLIN.out (HFF.out rfl).1 (by
      intro e
      have := (HFF.out rfl).2
      rw [e] at this
      rw [← this] at h01
      simp at h01)))
    gi_wp2
    refine ⟨trivial, ?_⟩
    exact zvw
   | true =>
    obtain ⟨r', hrest', hsp, hlt'⟩ := HFT.out rfl
    have HAT := zuy (zow HLIN.out hsp)
    have HRST := zuy hrest'
    have hwl : ∀ x ∈ l, x.length ≤ 262144 := V.zl6 H5.out (fun s hs => by have := V.zrx 32 hs; omega)
    have HWL := zuy hwl
    have HWS := zuy (wrd_strs H3.out)
    have h1c := h1
    clear hrest' hsp hwl
    gi_wp2_with fail
    refine ⟨trivial, (callsIn_wide.2 (zm1 _ l W HWS.out (fun x hx => by have := HWL.out x hx; unfold maxLen; omega))).mono ?_⟩
    rintro e w' ⟨rfl, rfl⟩
    by_cases hck : V.chk l = 0
    ·have HNX := zuy (HAT.out.2.2 l H5.out hck)
     rw [hck]
     clear hck HAT
     have hBO : Below wB.heap.size wB w' := by
      rw [hOb]
      exact HBw.out
     have hb5 : Below w'.heap.size w' (w'.alloc (.cells #[(⟨oa2, l.length, oc2⟩ : Lsl).v] 61)) := (zu1 _ w').alloc (zu0 _) _
     have HRW5 := zuy (((HLR.out.later HBB.out).later hBO).later hb5)
     have HU5 := zuy (vk HWS.out hb5)
     have HCL := zuy (zr5 w' ⟨oa2, l.length, oc2⟩)
     have hsB := HBB.out.size
     have hsW := hBO.size
     have hs5 := hb5.size
     have hN1 : w.heap.size + 1 ≤ (w'.alloc (.cells #[(⟨oa2, l.length, oc2⟩ : Lsl).v] 61)).heap.size := by omega
     have hul : us.length ≤ 1000000 := by rw [HLR.out.len]; omega
     have HM5 := zuy (HMW.out.below hb5)
     have HB5 := zuy (((HBE.out.trans (HBB.out.mono hzr)).trans (hBO.mono (by omega))).trans (hb5.mono (by omega)))
     have HLT := zuy HLR.out.row.lt
     have HBK := zuy H3.out.block
     clear hBO hb5
     gi_wp2_with (first | (refine zr4 zjn (by decide) zqa zkn (by decide) rfl _ _ 64 rfl Tryz.underlying64 (w.heap.size + 1) (.slice oa ls.length oc) us rfl HRW5.out.row w'.heap.size ⟨oa2, l.length, oc2⟩ rfl HCL.out hul hN1 ?_; intro v9 w9 hr9 hg9 ho9) | fail)
     have HN9 := zuy (HRW5.out.add hr9 hg9 ho9 HU5.out (fun _ q hq e => by
       have h1 := HBK.out q hq
       have h2 := HLT.out q e
       omega))
     have HM9 := zuy (HM5.out.keeps (HRW5.out.row.keepsO hg9))
     have HB9 := zuy (HB5.out.trans (zl hg9 HRW5.out.row.block (zu0 _) hN1))
     have hl9 : (ls ++ [l]).length + r'.length ≤ bs.length := by simp; omega
     refine ⟨⟨_, _, _, _, _, _, _, _, _, _, _, _, _, _, _, _, _, _, _, _, _, _, _, _, _, _, _, _, _, _, _, _, _, _, _, _, _, _, _, _, _, _, _, _, _, _, _, D :: Ds, _, ls ++ [l], r', ⟨HRST.out, HN9.out, HNX.out, HM9.out, HB9.out, hl9⟩, rfl⟩, ?_⟩
     obtain ⟨_, _, _, e, _⟩ := HRST.out
     cases e
     simp [slLen]
     omega
    ·have HN : Hid (V.decP bs = ([], 2)) := zuy (HDN.out (HAT.out.2.1 l H5.out hck))
     have hcb : (V.chk l == 0) = false := by rw [zu2]; exact hck
     clear HAT
     generalize V.chk l = ck at *
     exact zvw
  case stop =>
   rintro D c pre W hD hpre ⟨⟨⟨rfl, q5, hno⟩, hkp⟩, hB⟩ hK
   have hwn : V.qz (V.ze 32 L) = none := hno _ hpre
   have HN : Hid (V.decP bs = ([], 2)) := zuy (HDN.out (by
     cases fb with
     | false =>
       refine zmc HLIN.out (HFF.out rfl).1 (fun e => ?_)
       have := (HFF.out rfl).2
       rw [e] at this
       rw [← this] at h01
       simp at h01
     | true =>
       obtain ⟨r', _, hsp, _⟩ := HFT.out rfl
       exact (zow HLIN.out hsp).1 hwn))
   have hmB := HMK.out.below HBB.out
   have HMS : Hid (Marked w.heap.size (D :: Ds) W) := zuy ⟨List.nodup_cons.2 ⟨fun hm => by
       have := (Array.getElem?_eq_some_iff.1 (hmB.2 D hm).2).1
       omega, hmB.1⟩, fun D' h' => by
     rcases List.mem_cons.1 h' with rfl | h'
     · exact ⟨by omega, hK⟩
     · have hd := hmB.2 D' h'
       have hlt := (Array.getElem?_eq_some_iff.1 hd.2).1
       refine ⟨hd.1, (hkp.2 D' (by omega) (fun e => ?_)).trans hd.2⟩
       have c5w : wB.cell? ⟨w.heap.size, 0, none⟩ = some (.bool true) := (HBB.out.cell (p := ⟨w.heap.size, 0, none⟩) (by show w.heap.size < wr.heap.size; omega)).trans ((HBE.out.cell (p := ⟨w.heap.size, 0, none⟩) (Nat.lt_succ_self _)).trans HC5.out)
       subst e
       unfold World.cell? at c5w
       rw [hd.2] at c5w
       cases c5w⟩
   have HBS := zuy hB
   clear hK hkp hB hno hpre hwn hmB
   exact zvw
theorem zlb (v : Value) (bs : V.Bs) (w : World) (hm : zg w) (hv : zba w v bs) (hl : bs.length ≤ maxLen) :
  Calls Tryz.prog 44 #[v] w (zam bs w) :=
 callsIn_wide.1 (zot v bs w hm hv hl)
end Go.Proofs.YtnhfaincdabdkaaGreatDoor
