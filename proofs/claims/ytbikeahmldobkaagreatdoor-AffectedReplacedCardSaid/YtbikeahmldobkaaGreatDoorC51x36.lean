/-
  Lemmas for the law.
-/
import Derived.Test.YtbikeahmldobkaaGreatDoorC51x35
import Derived.Test.YtbikeahmldobkaaGreatDoorC51x34
import Derived.Test.YtbikeahmldobkaaGreatDoorC51x21
set_option linter.all false
set_option maxRecDepth 100000
set_option maxHeartbeats 6400000
namespace Go.Proofs.YtbikeahmldobkaaGreatDoor
open Go.RowKit
def ecE (x : V.Ec) : List Value := [.int .i64 x.e, .string ⟨x.v.toArray⟩, .int .i64 x.s]
def ecC (x : V.Ec) : Array Value := #[.int .i64 x.e, .string ⟨x.v.toArray⟩, .int .i64 x.s]
theorem xh (x : V.Ec) : (ecE x).length = 3 := rfl
theorem zae (x : V.Ec) : ∀ u ∈ ecE x, u.oneCell' = true := by
 intro u hu
 simp [ecE] at hu
 rcases hu with rfl | rfl | rfl <;> rfl
theorem ecC_all (x : V.Ec) : (ecC x).all (·.oneCell') = true := by simp [ecC, Value.oneCell']
theorem zch : jh 168 3 32 := by
 have h : (match Tryz.prog.info? 168 with | some i => i.size == 3 && (i.bytes == 32 && (match i.zero with | some z => z.cells.size == 3 | none => false)) | none => false) = true := by kernel_rfl
 unfold jh
 cases hq : Tryz.prog.info? 168 with
 | none => rw [hq] at h; cases h
 | some i =>
  exact zvk
theorem ecSize : (Tryz.prog.info? 168).map (·.size) = some 3 := by kernel_rfl
def zc0 (w : World) (N : Nat) (v : Value) (l : List V.Ec) : Prop := GRow 168 3 ecE w N v l
theorem GRow.weaken {α : Type} {enc : α -> List Value} {k : Nat} {T : TypeId} {w : World} {N N' : Nat} {v : Value} {l : List α} (h : GRow T k enc w N v l) (hN : N' ≤ N) : GRow T k enc w N' v l := by
 refine ⟨h.1, ?_⟩
 rcases h.2 with h | ⟨g, cap, cur, e, hb, rest⟩
 ·exact .inl h
 ·exact .inr ⟨g, cap, cur, e, Nat.le_trans hN hb, rest⟩
theorem zow {w : World} {g o : Nat} {x : V.Ec} (h : ∀ i u, (ecE x)[i]? = some u -> w.cell? ⟨g, o + i, none⟩ = some u) : w.cell? ⟨g, o, none⟩ = some (.int .i64 x.e) /\ w.cell? ⟨g, o + 1, none⟩ = some (.string ⟨x.v.toArray⟩) /\ w.cell? ⟨g, o + 2, none⟩ = some (.int .i64 x.s) :=
 ⟨h 0 _ rfl, h 1 _ rfl, h 2 _ rfl⟩
theorem ec_box {w : World} {g : Nat} {x : V.Ec} {t : TypeId} {fr : Nat × Nat} (h : w.heap[g]? = some (.cells (ecC x) t fr)) : w.cell? ⟨g, 0, none⟩ = some (.int .i64 x.e) /\ w.cell? ⟨g, 1, none⟩ = some (.string ⟨x.v.toArray⟩) /\ w.cell? ⟨g, 2, none⟩ = some (.int .i64 x.s) :=
 ⟨by rw [zdx h]; rfl, by rw [zdx h]; rfl, by rw [zdx h]; rfl⟩
theorem zm6 {w : World} {g off cap : Nat} {l : List V.Ec} (hv : GSl 3 ecE w (.slice (some ⟨g, off, none⟩) l.length cap) l) (hg : g < w.heap.size) (hc : l.length ≤ cap) (i : Nat) :
  ∃ ad : Addr, (if cap = i then some (⟨g, off, none⟩ : Addr) else some ⟨g, off + i * 3, none⟩) = some ad /\ ∀ W : World, Below w.heap.size w W -> ∀ j u, ((l.drop i).flatMap ecE)[j]? = some u -> W.cell? (ad.add j) = some u := by
 by_cases h : cap = i
 ·exact zyy
 ·refine ⟨_, if_neg h, fun W hW j u hu => ?_⟩
  rw [Addr.add_mid]
  exact (hW.cell (p := ⟨g, off + i * 3 + j, none⟩) hg).trans (GSl.cells xh hv i j u hu)
structure AInv (n : Int) (x : V.Ec) (l : List V.Ec) (w : World) (k : Nat) (u : Value) (W : World) : Prop where
 row : zc0 W (w.heap.size + 1) u (l.take k)
 box : W.heap[w.heap.size]? = some (.cells (ecC x) 168 (0, 0))
 below : Below w.heap.size w W
 size : w.heap.size + 1 ≤ W.heap.size
 fold : V.radd n x l = l.take k ++ V.radd n x (l.drop k)
theorem zvl {P : Prop} (h : P := by
 refine hK.out _ _ ?_ (fun hHeld => ?_)
 ·(try dsimp only); exact ⟨zk hg4 (GRow.block hr3) (by omega) (zk hg3 hgb3 (by omega) (zb hbN x0)), zk hg4 (GRow.block hr3) (by omega) (zk hg3 hgb3 (by omega) (zb hbN x1)), zk hg4 (GRow.block hr3) (by omega) (zk hg3 hgb3 (by omega) (zb hbN x2))⟩
 clear hK K
 try simp only [zu3, zu4, zu5, Act.put, zu6, List.set_cons_succ, List.set_cons_zero]
 refine tk 8 ?_
 refine wpAnyH_done (by kernel_rfl) ?_ _
 have HB4 := zu8 (HB3.out.trans (zy hg4 (GRow.block hr3) (by omega) hz4))
 have HR4 := zu8 (GRow.weaken hr4 (Nat.le_succ _))
 rw [← HFO.out] at HR4
 clear hr3 hg3 hr4 hg4 hHeld hbN HNW
 go_wp2
 go_ret
 exact ⟨_, rfl, HR4.out, HB4.out⟩) : P := h
theorem zv9 {P : Prop} (h : P := by
 (try dsimp only); exact ⟨zk hg3 hgb3 (by omega) (zb hbN x0), zk hg3 hgb3 (by omega) (zb hbN x1), zk hg3 hgb3 (by omega) (zb hbN x2)⟩) : P := h
theorem zxz {P : Prop} (h : P := by
 (try dsimp only); go_split_ands; exact ⟨zj.below (by assumption) hbc11, zve hbc11, zve hbc11, zve hbc11, zve hbc11, zve hbc11, zve hbc11⟩) : P := h
theorem zyc {P : Prop} (h : P := by
 (try dsimp only); exact ⟨zb hbN x0, zb hbN x1, zb hbN x2⟩) : P := h
theorem zll (n : Int) (x : V.Ec) (g off cap : Nat) (l : List V.Ec) (w : World) (hm : zj w) (hn : V.scheme n = true) (hx : V.EcOk n x) (hv : GSl 3 ecE w (.slice (some ⟨g, off, none⟩) l.length cap) l) (hok : ∀ y ∈ l, V.EcOk n y) (h0 : 0 < l.length) (hc : l.length ≤ cap) (hl : l.length ≤ 1000) :
  Calls Tryz.prog 203 #[.int .i64 n, .slice (some ⟨g, off, none⟩) l.length cap, ecV x] w fun e w' => ∃ u, e = .returned u /\ zc0 w' w.heap.size u (V.radd n x l) /\ Below w.heap.size w w' := by
 have HV := zu8 hv
 have HSC := zu8 hn
 have h7 := zu8 hx
 have HOK := zu8 hok
 have HM := zu8 hm
 have h9 : g < w.heap.size := by
  obtain ⟨g', off', e, hg, _⟩ := hv.at 0 h0
  cases e
  exact hg
 have HI : Hid (AInv n x l w 0 (.slice none 0 0) (w.alloc (.cells #[.int .i64 x.e, .string ⟨x.v.toArray⟩, .int .i64 x.s] 168))) := zu8 ⟨GRow.nil _ _, by rw [heap_alloc, if_pos rfl]; rfl, (zvb _ w).alloc (zva _) _, by simp, rfl⟩
 clear hv hn hx hok hm
 unfold ecV
 go_enter Tryz.func203, Tryz.ntmps203
 go_wp2
 generalize w.alloc (.cells #[.int .i64 x.e, .string ⟨x.v.toArray⟩, .int .i64 x.s] 168) = w0 at *
 go_loopw [7, 8] (fun ov iv wx => ∃ (k : Nat) (u : Value), k ≤ l.length /\ iv = .int .i64 k /\ u = ov /\ AInv n x l w k u wx) (fun _ iv _ => l.length - (intOf iv).toNat)
 case atStart => exact ⟨0, _, Nat.zero_le _, rfl, rfl, HI.out⟩
 case round =>
  obtain ⟨k, ou, hk, rfl, rfl, g3⟩ := hrel
  have g2 := zu8 g3
  have g6 := zu8 g3.below
  have g9 := zu8 (HM.out.below g3.below)
  obtain ⟨x0, x1, x2⟩ := ec_box g3.box
  have j0 := g3.size
  clear g3
  by_cases hlt : k < l.length
  ·obtain ⟨g', off', e, k0, h3⟩ := HV.out.at k hlt
   cases e
   obtain ⟨y0, y1, y2⟩ := zow h3
   have y0 := zb g6.out y0
   have y1 := zb g6.out y1
   have y2 := zb g6.out y2
   have k1 : (0 : Int) ≤ (k : Int) := by omega
   have k2 : (k : Int) < (l.length : Int) := by omega
   have HYO : Hid (V.EcOk n l[k]) := zu8 (HOK.out _ (List.getElem_mem hlt))
   have HTK : Hid (l.take (k + 1) = l.take k ++ [l[k]]) := zu8 (List.take_succ_eq_append_getElem hlt)
   have h4 : Hid (l.drop k = l[k] :: l.drop (k + 1)) := zu8 (List.drop_eq_getElem_cons hlt)
   have j7 : (l.take k).length = k := by rw [List.length_take]; omega
   clear h3
   generalize l[k] = y at *
   obtain ⟨z, hz⟩ : ∃ z, z = V.ecmp n y x := ⟨_, rfl⟩
   have h5 := zu8 (ye n y x)
   have h6 : Hid (V.radd n x (y :: l.drop (k + 1)) = if z < 0 then y :: V.radd n x (l.drop (k + 1)) else if z = 0 then (if V.cb y.v x.v < 0 then y else x) :: l.drop (k + 1) else x :: y :: l.drop (k + 1)) := zu8 (by rw [hz]; rfl)
   rw [← hz] at h5
   clear hz
   go_wp2_with fail
   refine wp_region_held_drew (S := (fun W' => zj W' /\ W'.cell? ⟨w.heap.size, 0, none⟩ = some (.int .i64 x.e) /\ W'.cell? ⟨w.heap.size, 1, none⟩ = some (.string ⟨x.v.toArray⟩) /\ W'.cell? ⟨w.heap.size, 2, none⟩ = some (.int .i64 x.s) /\ W'.cell? ⟨g, off + k * 3, none⟩ = some (.int .i64 y.e) /\ W'.cell? ⟨g, off + k * 3 + 1, none⟩ = some (.string ⟨y.v.toArray⟩) /\ W'.cell? ⟨g, off + k * 3 + 2, none⟩ = some (.int .i64 y.s))) (by kernel_rfl) (by (try dsimp only); (try simp only [World.cell?_drew]); exact ⟨g9.out.below (zvb _ _).drew, x0, x1, x2, y0, y1, y2⟩) (fun hHeld => ?_)
   refine tk 0 ?_
   refine tk 1 ?_
   refine tk 2 ?_
   refine tk 3 ?_
   refine tk 4 ?_
   refine tk 5 ?_
   refine tk 6 ?_
   refine tk 7 ?_
   refine tk 8 ?_
   refine tk 9 ?_
   refine tk 10 ?_
   refine rd 11 fun K hK => ?_
   go_simp
   refine (h5.out _ (by first | assumption | exact And.left (by assumption)) HSC.out HYO.out h7.out).mono ?_
   rintro e wc11 ⟨rfl, hbc11⟩
   try dsimp only
   refine hK.out _ _ ?_ (fun hHeld => ?_)
   ·exact zxz
   clear hK K
   try simp only [zu3, zu4, zu5, Act.put, zu6, List.set_cons_succ, List.set_cons_zero]
   refine tk 12 ?_
   refine tk 13 ?_
   refine wpAnyH_done (by kernel_rfl) ?_ _
   have g0 : Below wr.heap.size wr wc11 := (zvb wr.heap.size wr).drew.trans (show Below wr.heap.size wr.drew wc11 from hbc11)
   have y0 := zb g0 y0
   have y1 := zb g0 y1
   have y2 := zb g0 y2
   have x0 := zb g0 x0
   have x1 := zb g0 x1
   have x2 := zb g0 x2
   have j1 := zu8 (GRow.below g2.out.row g0)
   have HBX : Hid (wc11.heap[w.heap.size]? = some (.cells (ecC x) 168 (0, 0))) := zu8 ((g0.block _ (by omega)).trans g2.out.box)
   have HB1 := zu9 g6 g0
   have j4 := zu8 (g9.out.below g0)
   have j8 : w.heap.size + 1 ≤ wc11.heap.size := Nat.le_trans j0 g0.size
   clear g0 hbc11 hHeld j0
   by_cases hz0 : z < 0
   ·have HFO : Hid (V.radd n x l = l.take (k + 1) ++ V.radd n x (l.drop (k + 1))) := zu8 (by rw [g2.out.fold, h4.out, h6.out, if_pos hz0, HTK.out]; simp)
    have hbC : Below wc11.heap.size wc11 (wc11.alloc (.cells #[.int .i64 y.e, .string ⟨y.v.toArray⟩, .int .i64 y.s] 168)) := (zvb _ wc11).alloc (zva _) _
    have g4 := zu8 (GRow.below j1.out hbC)
    have HB2 := zu9 HB1 hbC
    have h2 := zu8 ((hbC.block _ (show w.heap.size < wc11.heap.size by omega)).trans HBX.out)
    have HNW : Hid (∀ j u, (ecE y)[j]? = some u -> (wc11.alloc (.cells #[.int .i64 y.e, .string ⟨y.v.toArray⟩, .int .i64 y.s] 168)).cell? ⟨wc11.heap.size, j, none⟩ = some u) := zu8 (fun j u hu => by rw [World.cell?_alloc_new]; simpa [ecE] using hu)
    clear hbC x0 x1 x2
    go_wp2_with (first | (refine yr xh (by decide) zae zch (by decide) rfl _ _ 231 rfl Tryz.underlying231 (w.heap.size + 1) ou (l.take k) rfl g4.out wc11.heap.size y rfl HNW.out (by omega) (by simp; omega) ?_; intro v3 W3 hr3 hg3) | fail)
    have HA : Hid (AInv n x l w (k + 1) v3 W3) := zu8 ⟨by rw [HTK.out]; exact hr3, zo4 hg3 (GRow.block g4.out) (by omega) h2.out, HB2.out.trans (zy hg3 (GRow.block g4.out) (by omega) (by simp; omega)), Nat.le_trans (by simp; omega) hg3.size, HFO.out⟩
    clear hr3 hg3
    go_wp2
    go_roundw
    case rel => exact ⟨k + 1, _, by omega, by go_num, rfl, HA.out⟩
    case measure => simp [intOf]; omega
   ·go_wp2_with fail
    refine wp_region_held_drew (S := (fun W' => zj W' /\ W'.cell? ⟨w.heap.size, 0, none⟩ = some (.int .i64 x.e) /\ W'.cell? ⟨w.heap.size, 1, none⟩ = some (.string ⟨x.v.toArray⟩) /\ W'.cell? ⟨w.heap.size, 2, none⟩ = some (.int .i64 x.s) /\ W'.cell? ⟨g, off + k * 3, none⟩ = some (.int .i64 y.e) /\ W'.cell? ⟨g, off + k * 3 + 1, none⟩ = some (.string ⟨y.v.toArray⟩) /\ W'.cell? ⟨g, off + k * 3 + 2, none⟩ = some (.int .i64 y.s))) (by kernel_rfl) (by (try dsimp only); (try simp only [World.cell?_drew]); exact ⟨j4.out.below (zvb _ _).drew, x0, x1, x2, y0, y1, y2⟩) (fun hHeld => ?_)
    refine tk 0 ?_
    refine tk 1 ?_
    refine tk 2 ?_
    refine tk 3 ?_
    refine tk 4 ?_
    refine tk 5 ?_
    refine tk 6 ?_
    refine tk 7 ?_
    refine tk 8 ?_
    refine tk 9 ?_
    refine tk 10 ?_
    refine rd 11 fun K hK => ?_
    go_simp
    refine (h5.out _ (by first | assumption | exact And.left (by assumption)) HSC.out HYO.out h7.out).mono ?_
    rintro e wc12 ⟨rfl, g1⟩
    try dsimp only
    refine hK.out _ _ ?_ (fun hHeld => ?_)
    ·(try dsimp only); go_split_ands; exact ⟨zj.below (by assumption) g1, zve g1, zve g1, zve g1, zve g1, zve g1, zve g1⟩
    clear hK K
    try simp only [zu3, zu4, zu5, Act.put, zu6, List.set_cons_succ, List.set_cons_zero]
    refine tk 12 ?_
    refine tk 13 ?_
    refine wpAnyH_done (by kernel_rfl) ?_ _
    have g0 : Below wc11.heap.size wc11 wc12 := (zvb wc11.heap.size wc11).drew.trans (show Below wc11.heap.size wc11.drew wc12 from g1)
    have y0 := zb g0 y0
    have y1 := zb g0 y1
    have y2 := zb g0 y2
    have x0 := zb g0 x0
    have x1 := zb g0 x1
    have x2 := zb g0 x2
    have g4 := zu8 (GRow.below j1.out g0)
    have h2 : Hid (wc12.heap[w.heap.size]? = some (.cells (ecC x) 168 (0, 0))) := zu8 ((g0.block _ (by omega)).trans HBX.out)
    have HB2 := zu9 HB1 g0
    have h8 : w.heap.size + 1 ≤ wc12.heap.size := Nat.le_trans j8 g0.size
    clear g0 g1 hHeld HBX j1 j4
    by_cases hze : z = 0
    ·have b0 : (z == 0) = true := by simpa using hze
     have HFO : Hid (V.radd n x l = (l.take k ++ [if V.cb y.v x.v < 0 then y else x]) ++ l.drop (k + 1)) := zu8 (by rw [g2.out.fold, h4.out, h6.out, if_neg (show ¬ z < 0 by omega), if_pos hze]; simp)
     obtain ⟨ad, j2, g5⟩ := zm6 HV.out h9 hc (k + 1)
     have h1 := zu8 g5
     clear g5
     clear h4 h6 h5 HTK g2 g6 g9 HM HSC h7 HOK HYO hze hz0
     have k3 : (0 : Int) ≤ (k : Int) + 1 := by omega
     have k4 : (k : Int) + 1 ≤ (l.length : Int) := by omega
     have k5 : ((k : Int) + 1).toNat = k + 1 := by omega
     have k6 : (l.length : Int) - ((k : Int) + 1) = ((l.length - (k + 1) : Nat) : Int) := by omega
     by_cases hls : V.cb y.v x.v < 0
     ·have j9 : Op.bytesLess y.v x.v = true := by rw [zb7]; exact decide_eq_true hls
      rw [if_pos hls] at HFO
      clear hls
      go_wp2_with fail
      go_quiet (fail)
      have y0 := zb (below_drewN (zvb wc12.heap.size wc12) nq) y0
      have y1 := zb (below_drewN (zvb wc12.heap.size wc12) nq) y1
      have y2 := zb (below_drewN (zvb wc12.heap.size wc12) nq) y2
      have j5 := zu8 (GRow.below g4.out (below_drewN (zvb wc12.heap.size wc12) nq))
      have HB3 := zu8 (below_drewN HB2.out nq)
      have j3 := zu8 (((below_drewN (zvb wc12.heap.size wc12) nq).block _ (by omega)).trans h2.out)
      have j6 : w.heap.size + 1 ≤ (wc12.drewN nq).heap.size := Nat.le_trans h8 (below_drewN (zvb wc12.heap.size wc12) nq).size
      clear x0 x1 x2 g4 HB2 h2 h8
      generalize wc12.drewN nq = WD at *
      go_wp2_with (first | (refine zv rfl _ _ _ rfl w.heap.size (ecC x) _ j3.out rfl (ecC y) rfl rfl ecSize (ecC_all _) ?_; intro WF hp2) | fail)
      obtain ⟨x0, x1, x2⟩ := ec_box hp2.here
      have HRF := zu8 (hp2.row j5.out (by omega))
      have HBF := zu8 (hp2.below HB3.out (zva _))
      have g7 : w.heap.size + 1 ≤ WF.heap.size := by rw [hp2.size]; exact j6
      clear hp2 y0 y1 y2 j5 HB3 j3 j6
      have hbN : Below WF.heap.size WF (WF.drew.alloc (.cells #[.int .i64 y.e, .string ⟨y.v.toArray⟩, .int .i64 y.s] 168)) := ((zvb WF.heap.size WF).drew).alloc (zva _) _
      have g8 := zu9 HBF hbN
      have HNW : Hid (∀ j u, (ecE y)[j]? = some u -> (WF.drew.alloc (.cells #[.int .i64 y.e, .string ⟨y.v.toArray⟩, .int .i64 y.s] 168)).cell? ⟨WF.heap.size, j, none⟩ = some u) := zu8 (fun j u hu => by show (WF.drew.alloc _).cell? ⟨WF.drew.heap.size, j, none⟩ = _; rw [World.cell?_alloc_new]; simpa [ecE] using hu)
      refine wp_region_held_drew (S := (fun W' => W'.cell? ⟨w.heap.size, 0, none⟩ = some (.int .i64 y.e) /\ W'.cell? ⟨w.heap.size, 1, none⟩ = some (.string ⟨y.v.toArray⟩) /\ W'.cell? ⟨w.heap.size, 2, none⟩ = some (.int .i64 y.s))) (by kernel_rfl) (by (try dsimp only); (try simp only [World.cell?_drew]); exact ⟨x0, x1, x2⟩) (fun hHeld => ?_)
      refine tk 0 ?_
      refine tk 1 ?_
      refine tk 4 ?_
      refine tk 5 ?_
      refine tk 6 ?_
      refine rd 2 fun K hK => ?_
      go_simp
      refine hK.out _ _ ?_ (fun hHeld => ?_)
      ·exact zyc
      clear hK K
      try simp only [zu3, zu4, zu5, Act.put, zu6, List.set_cons_succ, List.set_cons_zero]
      refine rd 3 fun K hK => ?_
      refine jr xh (by decide) zae zch (by decide) rfl _ _ 231 rfl Tryz.underlying231 (w.heap.size + 1) ou (l.take k) rfl (GRow.below HRF.out hbN) WF.heap.size y rfl HNW.out (by omega) (by simp; omega) (fun v3 W3 hr3 hg3 => ?_)
      have hgb3 := GRow.block HRF.out
      have HB3 := zu8 (g8.out.trans (zy hg3 hgb3 (by omega) (by simp; omega)))
      have hz4 : w.heap.size + 1 ≤ W3.heap.size := Nat.le_trans (Nat.le_trans g7 hbN.size) hg3.size
      refine hK.out _ _ ?_ (fun hHeld => ?_)
      ·exact zv9
      clear hK K
      try simp only [zu3, zu4, zu5, Act.put, zu6, List.set_cons_succ, List.set_cons_zero]
      refine rd 7 fun K hK => ?_
      refine ky xh (by decide) zae zch (by decide) rfl _ _ 231 rfl Tryz.underlying231 (w.heap.size + 1) v3 (l.take k ++ [y]) rfl hr3 ad (cap - (k + 1)) (l.drop (k + 1)) (l.length - (k + 1)) (by simp) (by rfl) (h1.out _ HB3.out) (by simp; omega) hz4 (fun v4 W4 hr4 hg4 => ?_)
      exact zvl
     ·have j9 : Op.bytesLess y.v x.v = false := by rw [zb7]; exact decide_eq_false hls
      rw [if_neg hls] at HFO
      clear hls
      go_wp2_with fail
      go_quiet (fail)
      go_wp2_with fail
      have x0 := zb (below_drewN (zvb wc12.heap.size wc12) nq) x0
      have x1 := zb (below_drewN (zvb wc12.heap.size wc12) nq) x1
      have x2 := zb (below_drewN (zvb wc12.heap.size wc12) nq) x2
      have HRF := zu8 (GRow.below g4.out (below_drewN (zvb wc12.heap.size wc12) nq))
      have HBF := zu8 (below_drewN HB2.out nq)
      have g7 : w.heap.size + 1 ≤ (wc12.drewN nq).heap.size := Nat.le_trans h8 (below_drewN (zvb wc12.heap.size wc12) nq).size
      generalize wc12.drewN nq = WF at *
      have hbN : Below WF.heap.size WF (WF.drew.alloc (.cells #[.int .i64 x.e, .string ⟨x.v.toArray⟩, .int .i64 x.s] 168)) := ((zvb WF.heap.size WF).drew).alloc (zva _) _
      have g8 := zu9 HBF hbN
      have HNW : Hid (∀ j u, (ecE x)[j]? = some u -> (WF.drew.alloc (.cells #[.int .i64 x.e, .string ⟨x.v.toArray⟩, .int .i64 x.s] 168)).cell? ⟨WF.heap.size, j, none⟩ = some u) := zu8 (fun j u hu => by show (WF.drew.alloc _).cell? ⟨WF.drew.heap.size, j, none⟩ = _; rw [World.cell?_alloc_new]; simpa [ecE] using hu)
      refine wp_region_held_drew (S := (fun W' => W'.cell? ⟨w.heap.size, 0, none⟩ = some (.int .i64 x.e) /\ W'.cell? ⟨w.heap.size, 1, none⟩ = some (.string ⟨x.v.toArray⟩) /\ W'.cell? ⟨w.heap.size, 2, none⟩ = some (.int .i64 x.s))) (by kernel_rfl) (by (try dsimp only); (try simp only [World.cell?_drew]); exact ⟨x0, x1, x2⟩) (fun hHeld => ?_)
      refine tk 0 ?_
      refine tk 1 ?_
      refine tk 4 ?_
      refine tk 5 ?_
      refine tk 6 ?_
      refine rd 2 fun K hK => ?_
      go_simp
      refine hK.out _ _ ?_ (fun hHeld => ?_)
      ·exact zyc
      clear hK K
      try simp only [zu3, zu4, zu5, Act.put, zu6, List.set_cons_succ, List.set_cons_zero]
      refine rd 3 fun K hK => ?_
      refine jr xh (by decide) zae zch (by decide) rfl _ _ 231 rfl Tryz.underlying231 (w.heap.size + 1) ou (l.take k) rfl (GRow.below HRF.out hbN) WF.heap.size x rfl HNW.out (by omega) (by simp; omega) (fun v3 W3 hr3 hg3 => ?_)
      have hgb3 := GRow.block HRF.out
      have HB3 := zu8 (g8.out.trans (zy hg3 hgb3 (by omega) (by simp; omega)))
      have hz4 : w.heap.size + 1 ≤ W3.heap.size := Nat.le_trans (Nat.le_trans g7 hbN.size) hg3.size
      refine hK.out _ _ ?_ (fun hHeld => ?_)
      ·exact zv9
      clear hK K
      try simp only [zu3, zu4, zu5, Act.put, zu6, List.set_cons_succ, List.set_cons_zero]
      refine rd 7 fun K hK => ?_
      refine ky xh (by decide) zae zch (by decide) rfl _ _ 231 rfl Tryz.underlying231 (w.heap.size + 1) v3 (l.take k ++ [x]) rfl hr3 ad (cap - (k + 1)) (l.drop (k + 1)) (l.length - (k + 1)) (by simp) (by rfl) (h1.out _ HB3.out) (by simp; omega) hz4 (fun v4 W4 hr4 hg4 => ?_)
      exact zvl
    ·have b0 : (z == 0) = false := by simpa using hze
     have HFO : Hid (V.radd n x l = (l.take k ++ [x]) ++ l.drop k) := zu8 (by rw [g2.out.fold, h4.out, h6.out, if_neg (show ¬ z < 0 by omega), if_neg hze]; simp)
     obtain ⟨ad, j2, g5⟩ := zm6 HV.out h9 hc k
     have h1 := zu8 g5
     clear g5
     clear h4 h6 h5 HTK g2 g6 g9 HM HSC h7 HOK HYO hze hz0
     go_wp2_with fail
     have HRF := g4
     have HBF := HB2
     have g7 := h8
     generalize wc12 = WF at *
     have hbN : Below WF.heap.size WF (WF.drew.alloc (.cells #[.int .i64 x.e, .string ⟨x.v.toArray⟩, .int .i64 x.s] 168)) := ((zvb WF.heap.size WF).drew).alloc (zva _) _
     have g8 := zu9 HBF hbN
     have HNW : Hid (∀ j u, (ecE x)[j]? = some u -> (WF.drew.alloc (.cells #[.int .i64 x.e, .string ⟨x.v.toArray⟩, .int .i64 x.s] 168)).cell? ⟨WF.heap.size, j, none⟩ = some u) := zu8 (fun j u hu => by show (WF.drew.alloc _).cell? ⟨WF.drew.heap.size, j, none⟩ = _; rw [World.cell?_alloc_new]; simpa [ecE] using hu)
     refine wp_region_held_drew (S := (fun W' => W'.cell? ⟨w.heap.size, 0, none⟩ = some (.int .i64 x.e) /\ W'.cell? ⟨w.heap.size, 1, none⟩ = some (.string ⟨x.v.toArray⟩) /\ W'.cell? ⟨w.heap.size, 2, none⟩ = some (.int .i64 x.s))) (by kernel_rfl) (by (try dsimp only); (try simp only [World.cell?_drew]); exact ⟨x0, x1, x2⟩) (fun hHeld => ?_)
     refine tk 0 ?_
     refine tk 1 ?_
     refine tk 4 ?_
     refine tk 5 ?_
     refine tk 6 ?_
     refine rd 2 fun K hK => ?_
     go_simp
     refine hK.out _ _ ?_ (fun hHeld => ?_)
     ·exact zyc
     clear hK K
     try simp only [zu3, zu4, zu5, Act.put, zu6, List.set_cons_succ, List.set_cons_zero]
     refine rd 3 fun K hK => ?_
     refine jr xh (by decide) zae zch (by decide) rfl _ _ 231 rfl Tryz.underlying231 (w.heap.size + 1) ou (l.take k) rfl (GRow.below HRF.out hbN) WF.heap.size x rfl HNW.out (by omega) (by simp; omega) (fun v3 W3 hr3 hg3 => ?_)
     have hgb3 := GRow.block HRF.out
     have HB3 := zu8 (g8.out.trans (zy hg3 hgb3 (by omega) (by simp; omega)))
     have hz4 : w.heap.size + 1 ≤ W3.heap.size := Nat.le_trans (Nat.le_trans g7 hbN.size) hg3.size
     refine hK.out _ _ ?_ (fun hHeld => ?_)
     ·exact zv9
     clear hK K
     try simp only [zu3, zu4, zu5, Act.put, zu6, List.set_cons_succ, List.set_cons_zero]
     refine rd 7 fun K hK => ?_
     refine ky xh (by decide) zae zch (by decide) rfl _ _ 231 rfl Tryz.underlying231 (w.heap.size + 1) v3 (l.take k ++ [x]) rfl hr3 ad (cap - k) (l.drop k) (l.length - k) (by simp) (by rfl) (h1.out _ HB3.out) (by simp; omega) hz4 (fun v4 W4 hr4 hg4 => ?_)
     exact zvl
  ·obtain rfl : k = l.length := by omega
   go_wp2_with fail
   refine wp_region_held_drew (S := (fun W' => zj W' /\ W'.cell? ⟨w.heap.size, 0, none⟩ = some (.int .i64 x.e) /\ W'.cell? ⟨w.heap.size, 1, none⟩ = some (.string ⟨x.v.toArray⟩) /\ W'.cell? ⟨w.heap.size, 2, none⟩ = some (.int .i64 x.s))) (by kernel_rfl) (by (try dsimp only); (try simp only [World.cell?_drew]); exact ⟨g9.out.below (zvb _ _).drew, x0, x1, x2⟩) (fun hHeld => ?_)
   refine tk 0 ?_
   refine tk 1 ?_
   refine tk 2 ?_
   refine tk 3 ?_
   refine tk 4 ?_
   refine tu 5 ?_
   refine tu 6 ?_
   refine tu 7 ?_
   refine tu 8 ?_
   refine tu 9 ?_
   refine tu 10 ?_
   refine tu 11 ?_
   refine tu 12 ?_
   refine tk 13 ?_
   refine wpAnyH_done (by kernel_rfl) ?_ _
   go_wp2_with fail
   refine wp_region_held_drew (S := (fun W' => zj W' /\ W'.cell? ⟨w.heap.size, 0, none⟩ = some (.int .i64 x.e) /\ W'.cell? ⟨w.heap.size, 1, none⟩ = some (.string ⟨x.v.toArray⟩) /\ W'.cell? ⟨w.heap.size, 2, none⟩ = some (.int .i64 x.s))) (by kernel_rfl) (by (try dsimp only); (try simp only [World.cell?_drew]); exact ⟨g9.out.below (zvb _ _).drew.drew, x0, x1, x2⟩) (fun hHeld => ?_)
   refine tk 0 ?_
   refine tk 1 ?_
   refine tk 2 ?_
   refine tk 3 ?_
   refine tk 4 ?_
   refine tu 5 ?_
   refine tu 6 ?_
   refine tu 7 ?_
   refine tu 8 ?_
   refine tu 9 ?_
   refine tu 10 ?_
   refine tu 11 ?_
   refine tu 12 ?_
   refine tk 13 ?_
   refine wpAnyH_done (by kernel_rfl) ?_ _
   have j7 : (l.take l.length).length = l.length := by simp
   have HFO : Hid (V.radd n x l = (l.take l.length ++ [x]) ++ l.drop l.length) := zu8 (by have := g2.out.fold; rw [List.drop_length] at this; rw [this, List.drop_length]; simp [V.radd])
   obtain ⟨ad, j2, g5⟩ := zm6 HV.out h9 hc l.length
   have h1 := zu8 g5
   clear g5
   have g0 : Below wr.heap.size wr wr.drew.drew := (zvb wr.heap.size wr).drew.drew
   have x0 := zb g0 x0
   have x1 := zb g0 x1
   have x2 := zb g0 x2
   have HRF := zu8 (GRow.below g2.out.row g0)
   have HBF := zu9 g6 g0
   have g7 : w.heap.size + 1 ≤ wr.drew.drew.heap.size := j0
   go_wp2_with fail
   generalize wr.drew.drew = WF at *
   have hbN : Below WF.heap.size WF (WF.drew.alloc (.cells #[.int .i64 x.e, .string ⟨x.v.toArray⟩, .int .i64 x.s] 168)) := ((zvb WF.heap.size WF).drew).alloc (zva _) _
   have g8 := zu9 HBF hbN
   have HNW : Hid (∀ j u, (ecE x)[j]? = some u -> (WF.drew.alloc (.cells #[.int .i64 x.e, .string ⟨x.v.toArray⟩, .int .i64 x.s] 168)).cell? ⟨WF.heap.size, j, none⟩ = some u) := zu8 (fun j u hu => by show (WF.drew.alloc _).cell? ⟨WF.drew.heap.size, j, none⟩ = _; rw [World.cell?_alloc_new]; simpa [ecE] using hu)
   refine wp_region_held_drew (S := (fun W' => W'.cell? ⟨w.heap.size, 0, none⟩ = some (.int .i64 x.e) /\ W'.cell? ⟨w.heap.size, 1, none⟩ = some (.string ⟨x.v.toArray⟩) /\ W'.cell? ⟨w.heap.size, 2, none⟩ = some (.int .i64 x.s))) (by kernel_rfl) (by (try dsimp only); (try simp only [World.cell?_drew]); exact ⟨x0, x1, x2⟩) (fun hHeld => ?_)
   refine tk 0 ?_
   refine tk 1 ?_
   refine tk 4 ?_
   refine tk 5 ?_
   refine tk 6 ?_
   refine rd 2 fun K hK => ?_
   go_simp
   refine hK.out _ _ ?_ (fun hHeld => ?_)
   ·exact zyc
   clear hK K
   try simp only [zu3, zu4, zu5, Act.put, zu6, List.set_cons_succ, List.set_cons_zero]
   refine rd 3 fun K hK => ?_
   refine jr xh (by decide) zae zch (by decide) rfl _ _ 231 rfl Tryz.underlying231 (w.heap.size + 1) ou (l.take l.length) rfl (GRow.below HRF.out hbN) WF.heap.size x rfl HNW.out (by omega) (by simp; omega) (fun v3 W3 hr3 hg3 => ?_)
   have hgb3 := GRow.block HRF.out
   have HB3 := zu8 (g8.out.trans (zy hg3 hgb3 (by omega) (by simp; omega)))
   have hz4 : w.heap.size + 1 ≤ W3.heap.size := Nat.le_trans (Nat.le_trans g7 hbN.size) hg3.size
   refine hK.out _ _ ?_ (fun hHeld => ?_)
   ·exact zv9
   clear hK K
   try simp only [zu3, zu4, zu5, Act.put, zu6, List.set_cons_succ, List.set_cons_zero]
   refine rd 7 fun K hK => ?_
   refine ky xh (by decide) zae zch (by decide) rfl _ _ 231 rfl Tryz.underlying231 (w.heap.size + 1) v3 (l.take l.length ++ [x]) rfl hr3 ad (cap - l.length) (l.drop l.length) 0 (by simp) (by rfl) (h1.out _ HB3.out) (by simp; omega) hz4 (fun v4 W4 hr4 hg4 => ?_)
   exact zvl
end Go.Proofs.YtbikeahmldobkaaGreatDoor
