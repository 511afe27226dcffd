/-
  Lemmas for the law.
-/
import Derived.Test.YtbikeahmldobkaaGreatDoorC51x42
import Derived.Test.YtbikeahmldobkaaGreatDoorC51x10
import Derived.Test.YtbikeahmldobkaaGreatDoorC51x28
import Derived.Test.YtbikeahmldobkaaGreatDoorC51x08
import Derived.Deep.DeepCutAuto
set_option linter.all false
set_option maxRecDepth 100000
set_option maxHeartbeats 3200000
namespace Go.Proofs.YtbikeahmldobkaaGreatDoor
open Go.RowKit
theorem ckeep {W W' : World} {b o : Nat} {v : Value} (hb : Below W.heap.size W W') (h : W.cell? ⟨b, o, none⟩ = some v) : W'.cell? ⟨b, o, none⟩ = some v :=
 (hb.cell (p := ⟨b, o, none⟩) (World.block_lt_of_cell? _ _ h)).trans h
def P8 (N : Nat) (v : Value) (n : Nat) (W0 w : World) : Prop := ∃ xs, Lib.OwnBuf N 5 v n xs W0 w /\ ∀ u ∈ xs, ∃ x : Int, u = .int .u8 x
theorem Buf.p8 {N : Nat} {v : Value} {l : V.Bs} {W0 w : World} (h : Buf N v l W0 w) : P8 N v l.length W0 w :=
 ⟨bvals l, h, fun u hu => by obtain ⟨b, _, rfl⟩ := List.mem_map.1 hu; exact ⟨_, rfl⟩⟩
theorem P8.slice {N : Nat} {v : Value} {n : Nat} {W0 w : World} (h : P8 N v n W0 w) : ∃ a cap, v = .slice a n cap := by
 obtain ⟨xs, h, _⟩ := h
 rcases h.1.2 with ⟨rfl, hn⟩ | ⟨g, cap, cur, fz, rfl, _⟩
 ·exact ⟨none, 0, by rw [hn]⟩
 ·exact ⟨_, cap, rfl⟩
theorem zpg {ops : Array Oper} {rest : List Oper} {o : Oper} {a : Act} {Q : Exit -> Act -> World -> Prop} (g0 : o.guard = none) (s x : Operand)
  (ho : o.op = .call { callee := .builtin .append, args := #[s, x], argTypes := #[113, 113] }) (N : Nat) (v : Value) (n : Nat) (W0 w0 : World) (c : Int) (hs : a.eval s = v) (hb : P8 N v n W0 w0)
  (hx : a.eval x = .slice (some ⟨w0.heap.size, 0, none⟩) 1 1) (hn : n ≤ 1000000) (h : ∀ v' w', P8 N v' (n + 1) W0 w' -> wpList Tryz.prog ops Q rest (a.put o.dst v') w') : wpList Tryz.prog ops Q (o :: rest) a (w0.alloc (.cells #[.int .u8 c] 5)) := by
 obtain ⟨i, hi, hz, h1, h2⟩ := zlo
 obtain ⟨xs, g1, g2⟩ := hb
 refine Lib.wpList_append_byte g0 s x 113 ho N 5 i Tryz.underlying113 hi hz h1 h2 v n xs hs W0 w0 c g1 hx (by omega) ?_
 intro v' w' g3
 exact h v' w' ⟨_, g3, fun u hu => by
   rcases List.mem_append.1 hu with hu | hu
   · exact g2 u hu
   · exact ⟨c, by simpa using hu⟩⟩
theorem Buf.fresh {N : Nat} {W0 w : World} (h : Below N W0 w) (hN : N ≤ w.heap.size) : Buf N (.slice (some ⟨w.heap.size, 0, none⟩) 0 0) [] W0 (w.alloc (.cells #[] 5)) :=
 ⟨World.ownsRowF_of (World.ownsRow_made w #[] 0 hN (by unfold maxLen; omega) rfl), h.alloc hN _, Nat.le_trans hN (by simp)⟩
theorem ztm {ops : Array Oper} {o : Oper} {a : Act} {w : World} {K : Act -> World -> Prop} {Q : Exit -> Act -> World -> Prop} {E : Prop} (g0 : o.guard = none) (v : Value) (he : (execOp a.eval o).run Tryz.prog w = .ok (.value v) w)
  (h : K (a.put o.dst v) w) : if Region.wanted o (yielded ops a.tmps) = true then Oper.wp Tryz.prog o a w K Q else E := by
 rw [if_pos (by simp [Region.wanted, g0])]
 unfold Oper.wp
 rw [he]
 exact h
theorem zuj {ops : Array Oper} {o : Oper} {a : Act} {w : World} {K : Act -> World -> Prop} {Q : Exit -> Act -> World -> Prop} {E : Prop} (g0 : o.guard = none) (ty : TypeId) (x y : Operand) (ho : o.op = .store ty x y)
  (g : Nat) (old : Array Value) (t : TypeId) (hg : w.heap[g]? = some (.cells old t (0, 0))) (hx : a.eval x = .pointer (some ⟨g, 0, none⟩)) (new : Array Value) (hy : a.eval y = .agg new) (hs : old.size = new.size) (hi : (Tryz.prog.info? ty).map (·.size) = some new.size) (h1 : new.all (·.oneCell') = true)
  (h : ∀ W, PutAt w W g new t -> K (a.put o.dst undef) W) : if Region.wanted o (yielded ops a.tmps) = true then Oper.wp Tryz.prog o a w K Q else E := by
 rw [if_pos (by simp [Region.wanted, g0])]
 exact wp_store_row ty x y ho g new hx hy t old hg hi hs h1 (h _ (zlu hg))
theorem wl_get {ops : Array Oper} {rest : List Oper} {o : Oper} {a : Act} {w : World} {Q : Exit -> Act -> World -> Prop} (g0 : o.guard = none) (v : Value) (he : (execOp a.eval o).run Tryz.prog w = .ok (.value v) w)
  (h : wpList Tryz.prog ops Q rest (a.put o.dst v) w) : wpList Tryz.prog ops Q (o :: rest) a w := by
 unfold wpList
 rw [if_pos (by simp [Region.wanted, g0])]
 refine Or.inl ?_
 unfold Oper.wp
 rw [he]
 exact h
theorem zr6 {d : List Int} (h : d.length = 32) {i : Nat} (hi : i < 32) : (dcells d)[i]? = some (.int .u8 (d.getD i 0)) := by
 exact zxf
theorem zqs (d : List Int) (i : Nat) (x : Int) : (dcells d).setIfInBounds i (.int .u8 x) = dcells (d.set i x) := by
 unfold dcells zn
 rw [List.setIfInBounds_toArray, List.map_set]
theorem P8.at {N : Nat} {v : Value} {n : Nat} {W0 w : World} (h : P8 N v n W0 w) (h0 : 0 < n) : ∃ g cap, v = .slice (some ⟨g, 0, none⟩) n cap /\ g < w.heap.size /\ n ≤ cap /\ ∀ j, j < n -> ∃ x : Int, w.cell? ⟨g, j, none⟩ = some (.int .u8 x) := by
 obtain ⟨xs, h, hx⟩ := h
 have g2 : xs.length = n := by have := h.1.1; simpa using this
 rcases h.1.2 with ⟨_, hn⟩ | ⟨g, cap, cur, fz, hv, hb, hg, g3, hm, g4, hq, g1⟩
 ·omega
 ·refine ⟨g, cap, hv, (Array.getElem?_eq_some_iff.1 hg).1, by omega, fun j hj => ?_⟩
  have hc : w.cell? ⟨g, j, none⟩ = cur[j]? := by
   unfold World.cell?
   rw [hg]
   rfl
  have g0 : j < xs.length := by omega
  obtain ⟨x, e⟩ := hx xs[j] (List.getElem_mem g0)
  refine ⟨x, ?_⟩
  have h1 : xs[j]? = some (.int .u8 x) := by rw [List.getElem?_eq_getElem g0, e]
  rw [← g1, List.getElem?_take] at h1
  split at h1
  ·rw [hc]; simpa using h1
  ·cases h1
theorem sha_any (g0 cap0 : Nat) (bs : V.Bs) (w : World) (hg : g0 < w.heap.size) (hc : ∀ j u, (bvals bs)[j]? = some u -> w.cell? ⟨g0, j, none⟩ = some u) (hl : bs.length ≤ 1000) :
  Calls Tryz.prog 134 #[.slice (some ⟨g0, 0, none⟩) bs.length cap0] w fun e w' => (∃ d, qh d /\ e = .returned (.agg (dcells d))) /\ Below w.heap.size w w' := by
 have HG := zu8 hg
 have HC := zu8 hc
 have HL := zu8 hl
 obtain ⟨W0, hW0⟩ : ∃ W0, W0 = w.alloc (.cells (dcells zq) 26) := ⟨_, rfl⟩
 have g9 : Below w.heap.size w W0 := by rw [hW0]; exact (zvb _ w).alloc (zva _) _
 have K0 : W0.heap[w.heap.size]? = some (.cells (dcells zq) 26 (0, 0)) := by rw [hW0]; exact heap_alloc_new w _
 have h0 : W0.heap.size = w.heap.size + 1 := by rw [hW0]; simp
 have HW := zu8 hW0
 have HB0 := zu8 g9
 have HK := zu8 K0
 have HZ := zu8 h0
 clear hg hc hl hW0 g9 K0 h0
 go_enter Tryz.func134, Tryz.ntmps134
 go_upto_region 1 with fail
 rw [show (w.alloc (.cells #[.int .u8 0, .int .u8 0, .int .u8 0, .int .u8 0, .int .u8 0, .int .u8 0, .int .u8 0, .int .u8 0, .int .u8 0, .int .u8 0, .int .u8 0, .int .u8 0, .int .u8 0, .int .u8 0, .int .u8 0, .int .u8 0, .int .u8 0, .int .u8 0, .int .u8 0, .int .u8 0, .int .u8 0, .int .u8 0, .int .u8 0, .int .u8 0, .int .u8 0, .int .u8 0, .int .u8 0, .int .u8 0, .int .u8 0, .int .u8 0, .int .u8 0, .int .u8 0] 26)) = W0 from HW.out.symm]
 have hc0 : ∀ j u, (bvals bs)[j]? = some u -> (W0.alloc (.cells #[] 5)).cell? ⟨g0, j, none⟩ = some u := fun j u hu => ckeep ((zvb _ W0).alloc (zva _) _) (ckeep HB0.out (HC.out j u hu))
 go_wp2_with (first
   | (refine zo2 rfl _ _ rfl W0.heap.size (.slice (some ⟨W0.heap.size, 0, none⟩) 0 0) [] W0 rfl (Buf.fresh (zvb _ _) (zva _)) g0 cap0 bs rfl hc0 (by have := HL.out; simp; omega) ?_; intro v1 W1 hb1)
   | (refine zo2 rfl _ _ rfl W0.heap.size v1 ([] ++ bs) W0 rfl (Buf.below hb1 ((zvb _ W1).alloc (zva _) _)) W1.heap.size 1 [128] rfl (fun j u hj => by rw [World.cell?_alloc_new]; simpa [bvals] using hj) (by have := HL.out; simp; omega) ?_; intro v2 W2 hb2)
   | fail)
 have HP := zu8 hb2.p8
 have h1 : Hid (([] ++ bs ++ [128] : V.Bs).length ≤ 1001) := zu8 (by have := HL.out; simp; omega)
 generalize ([] ++ bs ++ [128] : V.Bs).length = n0 at *
 clear hb1 hb2 hc0
 go_loopw [3] (fun pv wx => ∃ n : Nat, P8 W0.heap.size pv n W0 wx /\ n + (120 - n % 64) % 64 ≤ 1064) (fun pv _ => (fun n => (120 - n % 64) % 64) (match pv with | .slice _ n _ => n | _ => 0))
 case atStart => exact ⟨n0, HP.out, by have := h1.out; omega⟩
 case round =>
  clear HP h1
  obtain ⟨n, hp, hn⟩ := hrel
  obtain ⟨pa, pc, rfl⟩ := hp.slice
  have HP := zu8 hp
  have HN := zu8 hn
  clear hp hn
  obtain ⟨r, hr⟩ : ∃ r, r = n % 64 := ⟨_, rfl⟩
  have t1 : (n : Int).tmod 64 = (r : Int) := by rw [Int.tmod_eq_emod_of_nonneg (by omega)]; omega
  have t2 : (n : Int) % 64 = (r : Int) := by omega
  have j4 : r < 64 := by omega
  have HR := zu8 hr
  clear hr
  by_cases h56 : r = 56
  case neg =>
   have k8 : ((r : Int) != 56) = true := by simp; omega
   have g4 : n ≤ 2000 := by have := HN.out; omega
   go_wp2_with (first
     | (refine zpg rfl _ _ rfl W0.heap.size (.slice pa n pc) n W0 wr 0 rfl HP.out rfl (by omega) ?_; intro v3 W3 hb3)
     | fail)
   obtain ⟨pa3, pc3, rfl⟩ := hb3.slice
   go_roundw
   case rel => exact ⟨n + 1, hb3, by have := HN.out; have := HR.out; omega⟩
   case measure => have := HR.out; simp; omega
  subst h56
  have j5 : ((56 : Nat) : Int) = 56 := rfl
  have g4 : n ≤ 2000 := by have := HN.out; omega
  have HN1 := zu8 g4
  go_wp2_with fail
  clear t1 t2 j4 j5 g4
  go_loopw [3, 5] (fun pv iv wx => ∃ (z : Int) (m : Nat), -1 ≤ z /\ z ≤ 7 /\ iv = .int .i64 z /\ P8 W0.heap.size pv m W0 wx /\ (m : Int) + z = n + 7) (fun _ iv _ => (intOf iv + 1).toNat)
  case atStart => exact ⟨7, n, by omega, by omega, rfl, HP.out, by omega⟩
  case round =>
   obtain ⟨z, m, k9, q0, rfl, hp, hm⟩ := hrel
   obtain ⟨pa2, pc2, rfl⟩ := hp.slice
   have g5 := zu8 hp
   have HM := zu8 hm
   clear hp hm
   by_cases hz : 0 ≤ z
   ·obtain ⟨j, rfl⟩ : ∃ j : Nat, z = (j : Int) := ⟨z.toNat, by omega⟩
    have hj : j ≤ 7 := by omega
    have q1 : m ≤ 3000 := by have := HM.out; have := HN1.out; omega
    go_wp2_with (first
      | (refine zpg rfl _ _ rfl W0.heap.size (.slice pa2 m pc2) m W0 wr _ rfl g5.out rfl (by omega) ?_; intro v3 W3 hb3)
      | fail)
    obtain ⟨pa3, pc3, rfl⟩ := hb3.slice
    go_roundw
    case rel => exact ⟨(j : Int) - 1, m + 1, by omega, by omega, rfl, hb3, by have := HM.out; omega⟩
    case measure => simp [intOf]
   ·obtain rfl : z = -1 := by omega
    obtain ⟨WB, j6⟩ : ∃ W, W = wr := ⟨_, rfl⟩
    subst j6
    have h2 : m % 64 = 0 := by have := HM.out; have := HR.out; omega
    have h3 : 0 < m := by have := HM.out; omega
    have j7 : m ≤ 3000 := by have := HM.out; have := HN1.out; omega
    have h4 := zu8 (And.intro h2 (And.intro h3 j7))
    obtain ⟨gp, cp, j8, h5, g6, h6⟩ := g5.out.at h3
    injection j8 with e1 e2 e3
    subst e1
    subst e3
    have HPC := zu8 h6
    have g7 := zu8 (And.intro h5 g6)
    clear e2 h6 h5 g6 h2
    go_wp2_with fail
    go_loopw [7] (fun iv wx => ∃ (t : Nat) (c0 c1 c2 c3 c4 c5 c6 c7 : Int), t ≤ m /\ t % 64 = 0 /\ iv = .int .i64 t /\ wx.heap[WB.heap.size]? = some (.cells #[.int .u32 c0, .int .u32 c1, .int .u32 c2, .int .u32 c3, .int .u32 c4, .int .u32 c5, .int .u32 c6, .int .u32 c7] 200 (0, 0)) /\ Below WB.heap.size WB wx) (fun iv _ => m - (intOf iv).toNat)
    case atStart => exact ⟨0, _, _, _, _, _, _, _, _, by omega, rfl, rfl, heap_alloc_new _ _, (zvb _ _).alloc (zva _) _⟩
    case round =>
     obtain ⟨t, c0, c1, c2, c3, c4, c5, c6, c7, ht, q2, rfl, hh, h7⟩ := hrel
     have HH := zu8 hh
     have h8 := zu8 h7
     clear hh h7
     by_cases hlt : t < m
     ·have j9 : t + 64 ≤ m := by have := h4.out; omega
      have g6 : m ≤ pc2 := g7.out.2
      have k0 : Hid (IntKind.i64.wrap ((t : Int) + 64) = (t : Int) + 64) := zu8 (IntWalk.i64_in _ (by have := h4.out; omega))
      have h9 : Hid ((t : Int) + 64 ≤ pc2 /\ ¬ pc2 = t) := zu8 (by omega)
      have j0 : Below wr.heap.size wr wr.drew := (zvb _ _).drew
      have HBD := zu9 h8 j0
      have g1 : Hid (wr.drew.heap[WB.heap.size]? = some (.cells #[.int .u32 c0, .int .u32 c1, .int .u32 c2, .int .u32 c3, .int .u32 c4, .int .u32 c5, .int .u32 c6, .int .u32 c7] 200 (0, 0))) := zu8 HH.out
      have k1 : Hid (∀ j, j < 64 -> ∃ x : Int, wr.drew.cell? ⟨gp, t + j, none⟩ = some (.int .u8 x)) := zu8 (fun j hj => by
        obtain ⟨x, hx⟩ := HPC.out (t + j) (by omega)
        exact ⟨x, (HBD.out.cell (p := ⟨gp, t + j, none⟩) g7.out.1).trans hx⟩)
      have HGD : Hid (gp < wr.drew.heap.size) := zu8 (Nat.lt_of_lt_of_le g7.out.1 HBD.out.size)
      have k2 : Hid (64 ≤ pc2 - t) := zu8 (by omega)
      have x0 := zu7 g1.out 0
      have x1 := zu7 g1.out 1
      have x2 := zu7 g1.out 2
      have x3 := zu7 g1.out 3
      have x4 := zu7 g1.out 4
      have x5 := zu7 g1.out 5
      have x6 := zu7 g1.out 6
      have x7 := zu7 g1.out 7
      simp only [List.getElem?_toArray, List.getElem?_cons_zero, List.getElem?_cons_succ] at x0 x1 x2 x3 x4 x5 x6 x7
      clear j0
      go_wp2_with fail
      refine wp_region_held_drew (S := (fun _ => True)) (by kernel_rfl) (trivial) (fun hHeld => ?_)
      generalize wr.drew = wd at *
      refine tk 1 ?_
      refine tk 2 ?_
      refine tk 3 ?_
      refine tk 4 ?_
      refine tv 5 (.slice (some ⟨gp, t, none⟩) 64 (pc2 - t)) ?_ ?_
      ·exact fun w' hSw => by go_simp; rw [k0.out]; simp [h9.out.1, h9.out.2]; rw [if_pos (by omega), if_pos (by omega)]; congr 3; omega
      refine rd 0 fun K hK => ?_
      refine ztm rfl (.agg #[.int .u32 c0, .int .u32 c1, .int .u32 c2, .int .u32 c3, .int .u32 c4, .int .u32 c5, .int .u32 c6, .int .u32 c7]) (by go_simp) ?_
      try dsimp only
      refine hK.out _ _ ?_ (fun hHeld => nx ?_)
      ·trivial
      clear hK K
      refine rd 6 fun K hK => ?_
      go_simp
      refine (ztn c0 c1 c2 c3 c4 c5 c6 c7 gp t (pc2 - t) wd k1.out HGD.out k2.out).mono ?_
      rintro e wq ⟨⟨b0, b1, b2, b3, b4, b5, b6, b7, rfl⟩, j1⟩
      try dsimp only
      refine hK.out _ _ ?_ (fun hHeld => nx ?_)
      ·trivial
      clear hK K
      refine rd 7 fun K hK => ?_
      refine zuj rfl 200 _ _ rfl WB.heap.size #[.int .u32 c0, .int .u32 c1, .int .u32 c2, .int .u32 c3, .int .u32 c4, .int .u32 c5, .int .u32 c6, .int .u32 c7] 200 ((j1.block _ (Array.getElem?_eq_some_iff.1 g1.out).1).trans g1.out) rfl #[.int .u32 b0, .int .u32 b1, .int .u32 b2, .int .u32 b3, .int .u32 b4, .int .u32 b5, .int .u32 b6, .int .u32 b7] rfl rfl (by kernel_rfl) (by simp [Value.oneCell']) fun W9 g2 => ?_
      try dsimp only
      refine hK.out _ _ ?_ (fun hHeld => nx ?_)
      ·trivial
      clear hK K
      refine wpAnyH_done (by kernel_rfl) ?_ _
      clear hHeld x0 x1 x2 x3 x4 x5 x6 x7
      go_wp2
      go_roundw
      case rel => exact ⟨t + 64, _, _, _, _, _, _, _, _, j9, by omega, by go_num, g2.here, g2.below (HBD.out.trans (j1.mono HBD.out.size)) (zva _)⟩
      case measure => simp [intOf]; omega
     ·obtain rfl : t = m := by omega
      obtain ⟨_, ⟨_, hbw, _⟩, _⟩ := g5.out
      have j2 := zu8 (h8.out)
      have g3 := zu8 hbw
      obtain ⟨WC, k3⟩ : ∃ W, W = wr := ⟨_, rfl⟩
      subst k3
      have g8 : Hid (WB.heap.size < WC.heap.size) := zu8 (Array.getElem?_eq_some_iff.1 HH.out).1
      clear hbw
      go_wp2_with fail
      have K9 := heap_alloc_new WC (.cells (dcells zq) 26)
      go_loopw [9] (fun iv wx => ∃ (i : Nat) (d : List Int), i ≤ 32 /\ iv = .int .i64 i /\ qh d /\ wx.heap[WC.heap.size]? = some (.cells (dcells d) 26 (0, 0)) /\ Below WC.heap.size WC wx) (fun iv _ => 32 - (intOf iv).toNat)
      case atStart => exact ⟨0, zq, by omega, rfl, by unfold qh zq; decide, K9, (zvb _ _).alloc (zva _) _⟩
      case round =>
       clear K9
       obtain ⟨i, d, hi, rfl, hd, hx, j3⟩ := hrel
       have HX := zu8 hx
       have HBX := zu8 j3
       have HD := zu8 hd
       clear hx j3 hd
       by_cases hlt : i < 32
       ·have cx := kz (l := [c0, c1, c2, c3, c4, c5, c6, c7]) (k := i / 4) ((HBX.out.block WB.heap.size g8.out).trans HH.out) (by show _ < 8; omega)
        have cd := zu7 HX.out i
        rw [zr6 HD.out.1 hlt] at cd
        have hf := qw (o := i) HX.out
        have k4 : IntKind.i64.wrap (24 - IntKind.i64.wrap (8 * ((i : Int).tmod 4))) = 24 - 8 * ((i % 4 : Nat) : Int) := by
         rw [Int.tmod_eq_emod_of_nonneg (by omega), IntWalk.i64_in (8 * _) (by omega), IntWalk.i64_in _ (by omega)]
         omega
        go_wp2_with fail
        clear cx cd k4
        generalize k5 : (_ % 256 : Int) = xx
        go_roundw
        case rel => exact ⟨i + 1, d.set i xx, by omega, by go_num, ⟨by rw [List.length_set]; exact HD.out.1, fun n hn => by
          rcases List.mem_or_eq_of_mem_set hn with h | rfl
          · exact HD.out.2 n h
          · subst k5; simp [Lit.wf, IntKind.min, IntKind.max, IntKind.signed, IntKind.bits]; omega⟩, (kj i _ HX.out).trans (by rw [zqs]), Below.grown (row := some WC.heap.size) HBX.out (qv _ _ _ _) (Nat.le_of_lt (Array.getElem?_eq_some_iff.1 HX.out).1) (fun c e => by cases e; omega)⟩
        case measure => simp [intOf]; omega
       ·obtain rfl : i = 32 := by omega
        have k6 : Hid (Below w.heap.size w wr) := zu8 (HB0.out.trans ((g3.out.trans (j2.out.trans (HBX.out.mono (by have := g8.out; omega))
          |>.mono (by have := g3.out.size; omega))).mono (by have := HZ.out; omega)))
        have k7 : Hid (wr.heap[w.heap.size]? = some (.cells (dcells zq) 26 (0, 0))) := zu8 ((HBX.out.block w.heap.size (by have := HZ.out; have := g3.out.size; have := g8.out; omega)).trans ((j2.out.block w.heap.size (by have := HZ.out; have := g3.out.size; omega)).trans ((g3.out.block w.heap.size (by have := HZ.out; omega)).trans HK.out)))
        go_wp2_with (first
          | refine wpList_load_row rfl 26 _ rfl WC.heap.size rfl 26 (dcells d) (0, 0) _ HX.out Tryz.underlying26 rfl (by rw [yj, ji HD.out.1]) ?_
          | (refine zv rfl 26 _ _ rfl w.heap.size (dcells zq) 26 k7.out rfl (dcells d) rfl ((ji (by decide)).trans (ji HD.out.1).symm) (by rw [yj, ji HD.out.1]) zfs ?_; intro W9 g2)
          | fail)
        exact bodyPost_ret (v := .agg (dcells d)) (qp Tryz.results134 rfl (za8 HD.out.1 g2.here)) rfl ⟨⟨d, HD.out, rfl⟩, g2.below k6.out (zva _)⟩
def halfB (x : Int) : List Int := x :: 77 :: List.replicate 14 0
def pkL (s x : Int) : List Value := .int .i64 s :: zn (halfB x)
def pkcells (s x : Int) : Array Value := (pkL s x).toArray
theorem pkInfo : (Tryz.prog.info? 143).map (·.size) = some 17 := by kernel_rfl
def znr : Array Value := (.int .i64 0 :: zn (List.replicate 16 0)).toArray
theorem zdq : (#[.int .i64 0, .int .u8 0, .int .u8 0, .int .u8 0, .int .u8 0, .int .u8 0, .int .u8 0, .int .u8 0, .int .u8 0, .int .u8 0, .int .u8 0, .int .u8 0, .int .u8 0, .int .u8 0, .int .u8 0, .int .u8 0, .int .u8 0] : Array Value) = znr := rfl
theorem vj {cs : Array Value} (h : cs.size = 17) {w : World} {g : Nat} {t : TypeId} (hg : w.heap[g]? = some (.cells cs t (0, 0))) : (loadVar 143 ⟨g, 0, none⟩).run Tryz.prog w = .ok (.agg cs) w :=
 run_loadVar_row _ _ _ _ _ (0, 0) _ hg Tryz.underlying143 rfl (by rw [pkInfo, h])
theorem pk_one (a b : Int) : (pkcells a b).all (·.oneCell') = true := by
 unfold pkcells pkL zn
 simp [Value.oneCell']
theorem zwd {P : Prop} (h : P := by
 exact ⟨rfl, ((zvb _ w).alloc (zva _) _).trans (qj (zz _ _ _) (zva _) (by simp))⟩) : P := h
theorem zr8 (r : Nat) (w : World) (hr : r < 6) :
  Calls Tryz.prog 100 #[.int .i64 r] w fun e w' => e = .returned (.agg (pkcells ((r % 3 : Nat) : Int) ((r : Int) + 1))) /\ Below w.heap.size w w' := by
 have HR : ∀ a b : Int, Hid ((w.alloc (.cells znr 143)).heap[w.heap.size]? = some (.cells znr 143 (0, 0)) /\ (Tryz.prog.info? 143).map (·.size) = some (pkcells a b).size /\ znr.size = (pkcells a b).size /\ (pkcells a b).all (·.oneCell') = true) := fun a b => zu8 ⟨heap_alloc_new w _, by rw [pkInfo]; rfl, rfl, pk_one a b⟩
 have h6 : r = 0 ∨ r = 1 ∨ r = 2 ∨ r = 3 ∨ r = 4 ∨ r = 5 := by omega
 clear hr
 go_enter Tryz.func100, Tryz.ntmps100
 rcases h6 with rfl | rfl | rfl | rfl | rfl | rfl
 ·go_wp2_with (first
    | (refine wpList_buildTo rfl 143 #[(0, .tmp 4), (1, .tmp 8)] rfl _ rfl (pkcells 0 1) (by kernel_rfl) ?_)
    | (rw [zdq]; refine wpList_store_row rfl _ _ _ rfl w.heap.size (pkcells 0 1) rfl rfl 143 _ (HR 0 1).out.1 (HR 0 1).out.2.1 (HR 0 1).out.2.2.1 (HR 0 1).out.2.2.2 ?_)
    | fail)
  refine bodyPost_ret (v := .agg (pkcells 0 1)) (qp Tryz.results100 rfl (vj rfl (setRow_heap _ _ _ _ _ _ (HR 0 1).out.1))) rfl ?_
  exact zwd
 ·go_wp2_with (first
    | (refine wpList_buildTo rfl 143 #[(0, .tmp 4), (1, .tmp 8)] rfl _ rfl (pkcells 1 2) (by kernel_rfl) ?_)
    | (rw [zdq]; refine wpList_store_row rfl _ _ _ rfl w.heap.size (pkcells 1 2) rfl rfl 143 _ (HR 1 2).out.1 (HR 1 2).out.2.1 (HR 1 2).out.2.2.1 (HR 1 2).out.2.2.2 ?_)
    | fail)
  refine bodyPost_ret (v := .agg (pkcells 1 2)) (qp Tryz.results100 rfl (vj rfl (setRow_heap _ _ _ _ _ _ (HR 1 2).out.1))) rfl ?_
  exact zwd
 ·go_wp2_with (first
    | (refine wpList_buildTo rfl 143 #[(0, .tmp 4), (1, .tmp 8)] rfl _ rfl (pkcells 2 3) (by kernel_rfl) ?_)
    | (rw [zdq]; refine wpList_store_row rfl _ _ _ rfl w.heap.size (pkcells 2 3) rfl rfl 143 _ (HR 2 3).out.1 (HR 2 3).out.2.1 (HR 2 3).out.2.2.1 (HR 2 3).out.2.2.2 ?_)
    | fail)
  refine bodyPost_ret (v := .agg (pkcells 2 3)) (qp Tryz.results100 rfl (vj rfl (setRow_heap _ _ _ _ _ _ (HR 2 3).out.1))) rfl ?_
  exact zwd
 ·go_wp2_with (first
    | (refine wpList_buildTo rfl 143 #[(0, .tmp 4), (1, .tmp 8)] rfl _ rfl (pkcells 0 4) (by kernel_rfl) ?_)
    | (rw [zdq]; refine wpList_store_row rfl _ _ _ rfl w.heap.size (pkcells 0 4) rfl rfl 143 _ (HR 0 4).out.1 (HR 0 4).out.2.1 (HR 0 4).out.2.2.1 (HR 0 4).out.2.2.2 ?_)
    | fail)
  refine bodyPost_ret (v := .agg (pkcells 0 4)) (qp Tryz.results100 rfl (vj rfl (setRow_heap _ _ _ _ _ _ (HR 0 4).out.1))) rfl ?_
  exact zwd
 ·go_wp2_with (first
    | (refine wpList_buildTo rfl 143 #[(0, .tmp 4), (1, .tmp 8)] rfl _ rfl (pkcells 1 5) (by kernel_rfl) ?_)
    | (rw [zdq]; refine wpList_store_row rfl _ _ _ rfl w.heap.size (pkcells 1 5) rfl rfl 143 _ (HR 1 5).out.1 (HR 1 5).out.2.1 (HR 1 5).out.2.2.1 (HR 1 5).out.2.2.2 ?_)
    | fail)
  refine bodyPost_ret (v := .agg (pkcells 1 5)) (qp Tryz.results100 rfl (vj rfl (setRow_heap _ _ _ _ _ _ (HR 1 5).out.1))) rfl ?_
  exact zwd
 ·go_wp2_with (first
    | (refine wpList_buildTo rfl 143 #[(0, .tmp 4), (1, .tmp 8)] rfl _ rfl (pkcells 2 6) (by kernel_rfl) ?_)
    | (rw [zdq]; refine wpList_store_row rfl _ _ _ rfl w.heap.size (pkcells 2 6) rfl rfl 143 _ (HR 2 6).out.1 (HR 2 6).out.2.1 (HR 2 6).out.2.2.1 (HR 2 6).out.2.2.2 ?_)
    | fail)
  refine bodyPost_ret (v := .agg (pkcells 2 6)) (qp Tryz.results100 rfl (vj rfl (setRow_heap _ _ _ _ _ _ (HR 2 6).out.1))) rfl ?_
  exact zwd
def oE (b : UInt8) : List Value := [.int .u8 b.toNat]
theorem zr9 (b : UInt8) : (oE b).length = 1 := rfl
theorem oE_one (b : UInt8) : ∀ u ∈ oE b, u.oneCell' = true := fun u hu => by rw [List.mem_singleton.1 hu]; rfl
theorem byteGI : jh 5 1 1 := by
 have h : (match Tryz.prog.info? 5 with | some i => i.size == 1 && (i.bytes == 1 && (match i.zero with | some z => z.cells.size == 1 | none => false)) | none => false) = true := by kernel_rfl
 unfold jh
 cases hq : Tryz.prog.info? 5 with
 | none => rw [hq] at h; cases h
 | some i =>
  exact zvk
theorem oE_flat (l : V.Bs) : l.flatMap oE = bvals l := by
 unfold bvals oE
 induction l with
 | nil => rfl
 | cons a l ih => rw [List.flatMap_cons, ih]; rfl
theorem zt8 (s x : Nat) (w : World) (hs : s < 3) (hx : x < 256) :
  Calls Tryz.prog 99 #[.agg (pkcells s x)] w fun e w' => (∃ d, qh d /\ e = .returned (.agg (dcells d))) /\ Below w.heap.size w w' := by
 have j4 : IntKind.u8.wrap (s : Int) = (s : Int) := by rw [IntKind.wrap_u8]; omega
 have g3 : (UInt8.ofNat s).toNat = s := by rw [UInt8.toNat_ofNat']; omega
 have g4 : (UInt8.ofNat x).toNat = x := by rw [UInt8.toNat_ofNat']; omega
 obtain ⟨B, hB⟩ : ∃ B : V.Bs, B = UInt8.ofNat x :: 77 :: List.replicate 14 0 := ⟨_, rfl⟩
 have g5 : B.map (fun b => Value.int .u8 b.toNat) = zn (halfB x) := by
  rw [hB, List.map_cons, g4]; rfl
 have g1 : B.length = 16 := by rw [hB]; rfl
 have g6 : (w.alloc (.cells (pkcells s x) 143)).heap[w.heap.size]? = some (.cells (pkcells s x) 143 (0, 0)) := heap_alloc_new w _
 have hg1 : ((w.alloc (.cells (pkcells s x) 143)).alloc (.cells (dcells zq) 26)).heap[w.heap.size]? = some (.cells (pkcells s x) 143 (0, 0)) := by rw [heap_alloc, if_neg (by simp)]; exact g6
 have g7 : (((w.alloc (.cells (pkcells s x) 143)).alloc (.cells (dcells zq) 26)).alloc (.cells #[.int .u8 7, .int .u8 s] 5)).heap[w.heap.size]? = some (.cells (pkcells s x) 143 (0, 0)) := by rw [heap_alloc, if_neg (by simp; omega)]; exact hg1
 have g8 : (((w.alloc (.cells (pkcells s x) 143)).alloc (.cells (dcells zq) 26)).alloc (.cells #[.int .u8 7, .int .u8 s] 5)).heap[w.heap.size + 1]? = some (.cells (dcells zq) 26 (0, 0)) := by rw [heap_alloc, if_neg (by simp), heap_alloc, if_pos (by simp)]
 have c0 : ((w.alloc (.cells (pkcells s x) 143)).alloc (.cells (dcells zq) 26)).cell? ⟨w.heap.size, 0, none⟩ = some (.int .i64 s) := by rw [cell_of_row _ _ _ _ _ _ hg1]; rfl
 have hb2 : Below w.heap.size w (((w.alloc (.cells (pkcells s x) 143)).alloc (.cells (dcells zq) 26)).alloc (.cells #[.int .u8 7, .int .u8 s] 5)) := (((zvb _ w).alloc (zva _) _).alloc (by simp) _).alloc (by simp; omega) _
 have g0 : GRow 5 1 oE (((w.alloc (.cells (pkcells s x) 143)).alloc (.cells (dcells zq) 26)).alloc (.cells #[.int .u8 7, .int .u8 s] 5)) (w.heap.size + 2) (.slice (some ⟨w.heap.size + 2, 0, none⟩) 2 2) [7, UInt8.ofNat s] := by
  have h1 := World.ownsRow_lit ((w.alloc (.cells (pkcells s x) 143)).alloc (.cells (dcells zq) 26)) #[Value.int .u8 7, .int .u8 s] 2 (base := w.heap.size + 2) (size := 1) (e := 5) (by simp) (by decide) rfl
  unfold GRow
  have e : [7, UInt8.ofNat s].flatMap oE = [Value.int .u8 7, .int .u8 s] := by
   simp only [List.flatMap_cons, List.flatMap_nil, oE, g3]; rfl
  rw [e]
  simpa using h1
 have hgs : GSl 1 oE (((w.alloc (.cells (pkcells s x) 143)).alloc (.cells (dcells zq) 26)).alloc (.cells #[.int .u8 7, .int .u8 s] 5)) (.slice (some ⟨w.heap.size, 1, none⟩) 16 16) B := by
  refine ⟨_, 16, by rw [g1], fun j hj => ⟨_, _, rfl, by simp; omega, fun i u hu => ?_⟩⟩
  have hi : i = 0 := by
   have := (List.getElem?_eq_some_iff.1 hu).1
   rw [zr9] at this; omega
  subst hi
  rw [Nat.mul_one, Nat.add_zero, cell_of_row _ _ _ _ _ _ g7]
  have h2 : (pkcells s x)[1 + j]? = (zn (halfB x))[j]? := by
   unfold pkcells pkL
   rw [List.getElem?_toArray, Nat.add_comm, List.getElem?_cons_succ]
  rw [h2, ← g5, List.getElem?_map, List.getElem?_eq_getElem hj]
  exact hu
 have h9 := zu8 g0
 have j1 := zu8 hgs
 have j2 := zu8 g8
 have HB2 := zu8 hb2
 have j5 := zu8 g1
 have g9 : Hid (([7, UInt8.ofNat s] ++ B).length ≤ 1000) := zu8 (by simp [g1])
 clear g0 hgs g8 hb2 g6 hg1 g7 g5 hB g1 g4 g3 hs hx
 generalize pkcells s x = pc at *
 go_enter Tryz.func99, Tryz.ntmps99
 go_wp2_with (first
   | (rw [zir]; refine wl_get rfl (.int .i64 s) (zcx rfl rfl (by go_simp)) ?_)
   | (refine yo zr9 (by decide) oE_one byteGI (by decide) rfl _ _ 113 rfl Tryz.underlying113 (w.heap.size + 2) (.slice (some ⟨w.heap.size + 2, 0, none⟩) 2 2) [7, UInt8.ofNat s] rfl h9.out (.slice (some ⟨w.heap.size, 1, none⟩) 16 16) B rfl j1.out (by have := g9.out; rw [List.length_append] at this; omega) (by simp) ?_
      intro v' w' hr hg _)
   | fail)
 have HB3 : Hid (Below w.heap.size w w') := zu8 (HB2.out.grown hg (by simp; omega) (fun b e => by cases e; show w.heap.size ≤ w.heap.size + 2; omega))
 have h0 : Hid (w'.heap[w.heap.size + 1]? = some (.cells (dcells zq) 26 (0, 0))) := zu8 ((hg.block _ (by simp) (by simp [Value.ownBlock])).trans j2.out)
 generalize (((w.alloc (.cells pc 143)).alloc (.cells (dcells zq) 26)).alloc (.cells #[.int .u8 7, .int .u8 s] 5)) = w2 at *
 generalize h3 : [7, UInt8.ofNat s] ++ B = bs at *
 rcases GRow.row zr9 hr with ⟨_, e⟩ | ⟨g, cap, rfl, hN, j0, g0⟩
 ·rw [← h3] at e; cases e
 ·have hlt := g0.lt
  obtain ⟨cs, h4, j3, h5⟩ := g0
  have hc : ∀ j u, (bvals bs)[j]? = some u -> w'.cell? ⟨g, j, none⟩ = some u := fun j u hu => by
   have hj : j < bs.length := by have := (List.getElem?_eq_some_iff.1 hu).1; unfold bvals at this; simpa using this
   rw [cell_of_row _ _ _ _ _ _ h4, h5 j (by omega), oE_flat]; exact hu
  have HC := zu8 hc
  clear hr hg h4 j3 h5 hc h3 hN j0
  go_wp2_with fail
  refine (sha_any g cap bs w' hlt HC.out g9.out).mono ?_
  rintro e w4 ⟨⟨d, hd, rfl⟩, g2⟩
  have HB4 := zu9 HB3 g2
  have h6 : Hid (w4.heap[w.heap.size + 1]? = some (.cells (dcells zq) 26 (0, 0))) := zu8 ((g2.block _ (Array.getElem?_eq_some_iff.1 h0.out).1).trans h0.out)
  have h7 := zu8 hd
  have h8 : Hid ((dcells d).size = 32) := zu8 (ji hd.1)
  have HZ : Hid ((dcells zq).size = (dcells d).size) := zu8 (by rw [h8.out]; rfl)
  clear hd g2
  go_wp2_with (first | (refine wpList_store_row rfl _ _ _ rfl (w.heap.size + 1) (dcells d) rfl rfl 26 _ h6.out (by rw [yj, h8.out]) HZ.out zfs ?_) | fail)
  refine bodyPost_ret (v := .agg (dcells d)) (qp Tryz.results99 rfl (za8 h7.out.1 (setRow_heap _ _ _ _ _ _ h6.out))) rfl ?_
  exact ⟨⟨d, h7.out, rfl⟩, HB4.out.trans (qj (zz _ _ _) (by omega) HB4.out.size)⟩
theorem zrh (r : Nat) (w : World) (hr : r < 6) :
  Calls Tryz.prog 64 #[.int .i64 r] w fun e w' => (∃ d, qh d /\ e = .returned (.agg (dcells d))) /\ Below w.heap.size w w' := by
 obtain ⟨W0, hW0⟩ : ∃ W0, W0 = w.alloc (.cells (dcells zq) 26) := ⟨_, rfl⟩
 have g1 : Below w.heap.size w W0 := by rw [hW0]; exact (zvb _ w).alloc (zva _) _
 have g2 : W0.heap[w.heap.size]? = some (.cells (dcells zq) 26 (0, 0)) := by rw [hW0]; exact heap_alloc_new w _
 have HW := zu8 hW0
 have HB0 := zu8 g1
 have g3 := zu8 g2
 clear hW0 g1 g2
 go_enter Tryz.func64, Tryz.ntmps64
 go_wp2_with fail
 rw [zir, ← HW.out]
 refine (zr8 r W0 hr).mono ?_
 rintro e w1 ⟨rfl, hb1⟩
 have HB1 := zu9 HB0 hb1
 have HG1 := zu8 ((hb1.block _ (Array.getElem?_eq_some_iff.1 g3.out).1).trans g3.out)
 clear hb1
 have hc := zt8 (r % 3) (r + 1) w1 (by omega) (by omega)
 rw [show (((r + 1 : Nat) : Int)) = (r : Int) + 1 by omega] at hc
 generalize pkcells ((r % 3 : Nat) : Int) ((r : Int) + 1) = pc at *
 go_wp2_with fail
 refine hc.mono ?_
 rintro e w4 ⟨⟨d, hd, rfl⟩, g0⟩
 have HB4 := zu9 HB1 g0
 have g4 : Hid (w4.heap[w.heap.size]? = some (.cells (dcells zq) 26 (0, 0))) := zu8 ((g0.block _ (Array.getElem?_eq_some_iff.1 HG1.out).1).trans HG1.out)
 have g5 := zu8 hd
 have g6 : Hid ((dcells d).size = 32) := zu8 (ji hd.1)
 have HZ : Hid ((dcells zq).size = (dcells d).size) := zu8 (by rw [g6.out]; rfl)
 clear hd g0 hc
 go_wp2_with (first | (refine wpList_store_row rfl _ _ _ rfl w.heap.size (dcells d) rfl rfl 26 _ g4.out (by rw [yj, g6.out]) HZ.out zfs ?_) | fail)
 refine bodyPost_ret (v := .agg (dcells d)) (qp Tryz.results64 rfl (za8 g5.out.1 (setRow_heap _ _ _ _ _ _ g4.out))) rfl ?_
 exact ⟨⟨d, g5.out, rfl⟩, HB4.out.trans (qj (zz _ _ _) (zva _) HB4.out.size)⟩
theorem Digs.high {w w' : World} {v : Value} {l : List (List Int)} {b : Nat} (h : Digs w v l) (hg : w.grownBy w' (some b)) (hu : Fresh (b + 1) v) : Digs w' v l := by
 obtain ⟨a, cap, e, hc⟩ := h
 refine ⟨a, cap, e, fun j hj => ?_⟩
 obtain ⟨hw, b', off, ea, ⟨cs, fr, hb⟩, g0⟩ := hc j hj
 have hk : w'.heap[b']? = w.heap[b']? := hg.block b' (Array.getElem?_eq_some_iff.1 hb).1 (fun e' => by
   have := hu b' off _ _ (by rw [e, ea])
   cases e'
   omega)
 refine ⟨hw, b', off, ea, ⟨cs, fr, hk.trans hb⟩, fun i u hu => ?_⟩
 rw [← g0 i u hu]
 unfold World.cell?
 rw [hk]
def KeysPost (b k : Nat) (w : World) (e : Ending) (w' : World) : Prop := ∃ a n c, e = .returned (.slice a n c) /\ Tape w' b (k + 10) /\ w.grownBy w' (some b)
theorem keys_any (b k : Nat) (w : World) (h : Tape w b k) (hk : k ≤ 800000) : Calls Tryz.prog 36 #[.pointer (some ⟨b, 0, none⟩)] w (KeysPost b k w) := by
 have HT := zu8 h
 clear h
 go_enter Tryz.func36, Tryz.ntmps36
 go_wp2_with fail
 refine (jq b k 3 _ HT.out (by omega) (by omega) (by omega)).mono ?_
 rintro e w1 ⟨r, hr, rfl, ht1, hg1⟩
 have HT1 := zu8 ht1
 have HG1 := zu8 hg1
 clear ht1 hg1
 go_wp2_with fail
 go_loopw [3, 4] (fun ov iv wx => ∃ (q : Nat) (l : List (List Int)), q + l.length ≤ 3 /\ iv = .int .i64 q /\ Digs wx ov l /\ SlOk wx ov l.length /\ Fresh (b + 1) ov /\ Tape wx b (k + 4 - q) /\ w.grownBy wx (some b)) (fun _ iv _ => (intOf iv).toNat)
 case atStart => exact ⟨r + 1, [], by simp; omega, by go_num, Digs.nil _, SlOk.nil _, Fresh.nil _, HT1.out.le (by omega), HG1.out⟩
 case round =>
  obtain ⟨q, l, hq, rfl, hd, hs, hf, ht, hg⟩ := hrel
  have HD := zu8 hd
  have HS := zu8 hs
  have HF := zu8 hf
  have g4 := zu8 ht
  have HG := zu8 hg
  obtain ⟨va, vc, g9, _⟩ := id hd
  subst g9
  clear hd hs hf ht hg
  rcases q with _ | m
  ·go_wp2
   go_ret
   exact ⟨_, _, _, rfl, g4.out.le (by omega), HG.out⟩
  ·have h0 : (0 : Int) < ((m + 1 : Nat) : Int) := by omega
   go_wp2_with fail
   refine (jq b (k + 4 - (m + 1)) 6 _ g4.out (by omega) (by omega) (by omega)).mono ?_
   rintro e w2 ⟨r2, j7, rfl, g5, g0⟩
   have h1 := zu8 (HD.out.high g0 HF.out)
   have h2 := zu8 (HS.out.below g0.size)
   have h3 := zu8 (HG.out.trans g0)
   have h4 : Hid (Tape w2 b (k + 4 - m)) := zu8 (g5.le (by omega))
   clear g5 g0
   go_wp2_with fail
   refine (zrh r2 w2 (by omega)).mono ?_
   rintro e w3 ⟨⟨d, hd, rfl⟩, hb3⟩
   have h5 := zu8 hd
   have h6 := zu8 (h1.out.below hb3)
   have h7 := zu8 (h2.out.below hb3.size)
   have h8 := zu8 (h3.out.trans (zm hb3 (some b)))
   have g6 := zu8 (h4.out.below hb3)
   clear hd hb3
   generalize g7 : dcells d = dc at *
   have h9 := zu8 g7
   clear g7
   go_wp2_with fail
   rw [← h9.out]
   refine (zrc (.slice va l.length vc) l d w3 h6.out h7.out h5.out (by omega)).mono ?_
   rintro e w4 ⟨u, rfl, g2, g8, g1, g3⟩
   have j0 : Hid (m + (V.addC V.cmpI l d).length ≤ 3) := zu8 (by
     have := V.zo5 (c := V.cmpI) (l := l) (x := d)
     omega)
   have j1 := zu8 g2
   have j2 := zu8 g8
   have j3 : Hid (Fresh (b + 1) u) := zu8 (by
     rcases g1 with rfl | g1
     · exact HF.out
     · exact g1.le (by have := g6.out.lt; omega))
   have j4 := zu8 (h8.out.trans (zm g3 (some b)))
   have j5 := zu8 (g6.out.below g3)
   obtain ⟨ua, uc, j6, _⟩ := id g2
   subst j6
   clear g2 g8 g1 g3
   have j8 : ((m + 1 : Nat) : Int) - 1 = (m : Int) := by omega
   go_wp2
   go_roundw
   case rel => exact ⟨m, _, j0.out, by go_num, j1.out, j2.out, j3.out, j5.out, j4.out⟩
   case measure => simp [intOf]
end Go.Proofs.YtbikeahmldobkaaGreatDoor
