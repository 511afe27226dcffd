/-
  Lemmas for the law.
-/
import Derived.Test.YtbikeahmldobkaaGreatDoorC51x26
import Derived.Test.YtbikeahmldobkaaGreatDoorShelf2
import Derived.Lib.BytesEntry
import Derived.Shelf.SlSortCmp.WholeK
set_option linter.all false
set_option maxRecDepth 100000
set_option maxHeartbeats 6400000
namespace Go.Proofs.YtbikeahmldobkaaGreatDoor
open Go.RowKit
def dE (d : List Int) : List Value := (List.range 32).map fun i => .int .u8 (d.getD i 0)
theorem kw (d : List Int) : (dE d).length = 32 := by simp [dE]
theorem zbd (d : List Int) : ∀ u ∈ dE d, u.oneCell' = true := fun u hu => by
 unfold dE at hu
 obtain ⟨_, _, rfl⟩ := List.mem_map.1 hu
 rfl
theorem zf6 {d : List Int} (h : qh d) : dE d = zn d := by
 apply List.ext_getElem?
 intro i
 unfold dE zn
 rw [List.getElem?_map, List.getElem?_map]
 by_cases hi : i < 32
 ·rw [List.getElem?_range hi, List.getElem?_eq_getElem (show i < d.length by rw [h.1]; exact hi)]
  simp only [Option.map_some]
  rw [List.getD_eq_getElem?_getD, List.getElem?_eq_getElem (show i < d.length by rw [h.1]; exact hi)]
  rfl
 ·rw [List.getElem?_eq_none (by simpa using hi), List.getElem?_eq_none (by rw [h.1]; omega)]
  rfl
theorem zbx {d : List Int} (h : qh d) : (dE d).toArray = dcells d := by rw [zf6 h]; rfl
theorem zn0 : ∀ {l : List (List Int)}, (∀ d ∈ l, qh d) -> l.flatMap dE = l.flatMap zn
 | [], _ => rfl
 | d :: l, h => by rw [List.flatMap_cons, List.flatMap_cons, zf6 (h d (by simp)), zn0 (fun c hc => h c (List.mem_cons_of_mem _ hc))]
theorem zdf : jh 26 32 32 := digIE3
theorem GRow.digs {w : World} {N : Nat} {v : Value} {l : List (List Int)} (h : GRow 26 32 dE w N v l) (hw : ∀ d ∈ l, qh d) : Digs w v l :=
 row_digs (by rw [← zn0 hw]; exact h) hw
theorem ERow.digs {w : World} {g cap : Nat} {l : List (List Int)} (h : ERow 26 32 dE w g l) (hw : ∀ d ∈ l, qh d) : Digs w (.slice (some ⟨g, 0, none⟩) l.length cap) l := by
 have h0 := h
 obtain ⟨cs, hg, _⟩ := h0
 refine ⟨_, cap, rfl, fun j hj => ⟨hw _ (List.getElem_mem hj), g, 0, rfl, ⟨_, _, hg⟩, fun i u hu => ?_⟩⟩
 rw [← zf6 (hw _ (List.getElem_mem hj))] at hu
 have := h.at kw hj i u hu
 rw [Nat.zero_add]; exact this
theorem zfv (w : World) (d : List Int) (h : qh d) : ∀ j u, (dE d)[j]? = some u -> (w.alloc (.cells (dcells d) 26)).cell? ⟨w.heap.size, j, none⟩ = some u := fun j u hu => by
 rw [World.cell?_alloc_new, ← zbx h]
 simpa using hu
theorem ze5 {ops : Array Oper} {rest : List Oper} {o : Oper} {a : Act} {w : World} {Q : Exit -> Act -> World -> Prop} (g0 : o.guard = none) (y : Operand) (ho : o.op = .load 26 y)
  (g off : Nat) (hy : a.eval y = .pointer (some ⟨g, off, none⟩)) (d : List Int) (hd : qh d) (hr : w.rangeAt g off (zn d))
  (h : wpList Tryz.prog ops Q rest (a.put o.dst (.agg (dcells d))) w) : wpList Tryz.prog ops Q (o :: rest) a w :=
 wpList_load_mid g0 _ y ho g off hy (zn d) _ hr Tryz.underlying26 rfl (by rw [yj, zcq hd]) h
theorem zot {ops : Array Oper} {rest : List Oper} {o : Oper} {a : Act} {w : World} {Q : Exit -> Act -> World -> Prop} (g0 : o.guard = none) (e1 : Operand) (ho : o.op = .buildSlice 55 1 #[(0, e1)]) (d : List Int) (hd : qh d) (h1 : a.eval e1 = .agg (dcells d))
  (h : wpList Tryz.prog ops Q rest (a.put o.dst (.slice (some ⟨w.heap.size, 0, none⟩) 1 1)) (w.alloc (.cells (dcells d) 26))) : wpList Tryz.prog ops Q (o :: rest) a w :=
 zex kw (by decide) (by decide) zdf Tryz.underlying55 g0 e1 ho d (by rw [zbx hd]; exact h1) (by rw [zbx hd]; exact h)
theorem zev {ops : Array Oper} {o : Oper} {a : Act} {w : World} {K : Act -> World -> Prop} {Q : Exit -> Act -> World -> Prop} {E : Prop} (g0 : o.guard = none) (e1 : Operand) (ho : o.op = .buildSlice 55 1 #[(0, e1)]) (d : List Int) (hd : qh d) (h1 : a.eval e1 = .agg (dcells d))
  (h : K (a.put o.dst (.slice (some ⟨w.heap.size, 0, none⟩) 1 1)) (w.alloc (.cells (dcells d) 26))) : if Region.wanted o (yielded ops a.tmps) = true then Oper.wp Tryz.prog o a w K Q else E :=
 zcf kw (by decide) (by decide) zdf Tryz.underlying55 g0 e1 ho d (by rw [zbx hd]; exact h1) (by rw [zbx hd]; exact h)
theorem zni {ops : Array Oper} {o : Oper} {a : Act} {w : World} {K : Act -> World -> Prop} {Q : Exit -> Act -> World -> Prop} {E : Prop} {T : TypeId} {k bytes : Nat} (g1 : o.guard = none) (s x : Operand) {S : TypeId} (ho : o.op = .call { callee := .builtin .append, args := #[s, x], argTypes := #[S, S] }) (hu : Tryz.prog.underlying S = some (.slice T)) (hi : jh T k bytes)
  (N : Nat) (v : Value) {n : Nat} {xs : List Value} (g0 : w.ownsRow N T k v n xs) (hs : a.eval s = v) {c : Nat} (hx : a.eval x = .slice none 0 c)
  (h : K (a.put o.dst v) w) : if Region.wanted o (yielded ops a.tmps) = true then Oper.wp Tryz.prog o a w K Q else E := by
 rw [if_pos (by simp [Region.wanted, g1])]
 have hr := zei N S o.type hi hu v _ _ g0 c
 unfold Oper.wp execOp
 simp only [ho, resolve, invoke, builtin, Sem.run_bind, Sem.run_pure, Result.andThen_ok, List.map_toArray, List.map_cons, List.map_nil, hs, hx, hr]
 exact h
theorem zyy {P : Prop} (h : P := by
 refine ⟨_, if_pos h, fun W hW j u hu => ?_⟩
 rw [List.drop_eq_nil_of_le (by omega)] at hu
 simp at hu) : P := h
theorem zp2 {w : World} {g off cap : Nat} {l : List (List Int)} (hv : GSl 32 dE w (.slice (some ⟨g, off, none⟩) l.length cap) l) (hg : g < w.heap.size) (hc : l.length ≤ cap) (i : Nat) :
  ∃ ad : Addr, (if cap = i then some (⟨g, off, none⟩ : Addr) else some ⟨g, off + i * 32, none⟩) = some ad /\ ∀ W : World, Below w.heap.size w W -> ∀ j u, ((l.drop i).flatMap dE)[j]? = some u -> W.cell? (ad.add j) = some u := by
 by_cases h : cap = i
 ·exact zyy
 ·refine ⟨_, if_neg h, fun W hW j u hu => ?_⟩
  rw [Addr.add_mid]
  exact (hW.cell (p := ⟨g, off + i * 32 + j, none⟩) hg).trans (GSl.cells kw hv i j u hu)
theorem Digs.gsl {w : World} {v : Value} {l : List (List Int)} (h : Digs w v l) : GSl 32 dE w v l := by
 obtain ⟨a, cap, e, hc⟩ := h
 refine ⟨a, cap, e, fun j hj => ?_⟩
 obtain ⟨hd, b, off, ea, ⟨cs, fr, hb⟩, hr⟩ := hc j hj
 exact ⟨b, off, ea, (Array.getElem?_eq_some_iff.1 hb).1, fun i u hu => hr i u (by rw [← zf6 hd]; exact hu)⟩
def SlOk (w : World) (v : Value) (n : Nat) : Prop := v = .slice none 0 0 /\ n = 0 ∨ ∃ g off cap, v = .slice (some ⟨g, off, none⟩) n cap /\ g < w.heap.size /\ n ≤ cap
theorem SlOk.nil (w : World) : SlOk w (.slice none 0 0) 0 := .inl ⟨rfl, rfl⟩
theorem SlOk.below {w w' : World} {v : Value} {n : Nat} (h : SlOk w v n) (hb : w.heap.size ≤ w'.heap.size) : SlOk w' v n := by
 rcases h with h | ⟨g, off, cap, e, hg, hc⟩
 ·exact .inl h
 ·exact .inr ⟨g, off, cap, e, Nat.lt_of_lt_of_le hg hb, hc⟩
theorem GRow.slok {α : Type} {enc : α -> List Value} {k : Nat} {T : TypeId} {w : World} {N : Nat} {v : Value} {l : List α} (h : GRow T k enc w N v l) : SlOk w v l.length := by
 rcases h.2 with ⟨rfl, hn⟩ | ⟨g, cap, cur, rfl, _, hg, h1, _⟩
 ·exact .inl ⟨rfl, hn⟩
 ·exact .inr ⟨g, 0, cap, rfl, (Array.getElem?_eq_some_iff.1 hg).1, h1⟩
def Fresh (N : Nat) (v : Value) : Prop := ∀ g o n c, v = .slice (some ⟨g, o, none⟩) n c -> N ≤ g
theorem Fresh.nil (N : Nat) : Fresh N (.slice none 0 0) := fun g o n c h => by cases h
theorem Fresh.le {N M : Nat} {v : Value} (h : Fresh N v) (hM : M ≤ N) : Fresh M v := fun g o n c e => Nat.le_trans hM (h g o n c e)
theorem GRow.fresh {α : Type} {enc : α -> List Value} {k : Nat} {T : TypeId} {w : World} {N : Nat} {v : Value} {l : List α} (h : GRow T k enc w N v l) : Fresh N v := by
 rcases h.2 with ⟨rfl, hn⟩ | ⟨g, cap, cur, rfl, hN, hg, h1, _⟩
 ·exact Fresh.nil N
 ·intro g' o n c e
  cases e
  exact hN
theorem zyb {P : Prop} (h : P := by
 go_wp2
 go_ret
 exact ⟨_, rfl, HRE.out.digs HFE.out, HRE.out.slok, .inr (HRE.out.fresh.le (Nat.le_of_lt HZ.out)), HBE.out⟩) : P := h
theorem zrc (v : Value) (l : List (List Int)) (d : List Int) (w : World) (hv : Digs w v l) (h3 : SlOk w v l.length) (hd : qh d) (hl : l.length ≤ 1000) :
  Calls Tryz.prog 40 #[v, .agg (dcells d)] w fun e w' => ∃ u, e = .returned u /\ Digs w' u (V.addC V.cmpI l d) /\ SlOk w' u (V.addC V.cmpI l d).length /\ (u = v ∨ Fresh w.heap.size u) /\ Below w.heap.size w w' := by
 have HV := zu8 hv
 have h9 := zu8 hv.wf
 obtain ⟨va, vc, rfl, j0⟩ := hv
 have j1 := zu8 h3
 have j2 : l.length ≤ vc := by
  rcases h3 with ⟨e, h0⟩ | ⟨g, off, cap, e, _, hc⟩
  ·omega
  ·rw [(Value.slice.inj e).2.2]; exact hc
 obtain ⟨W0, hW0⟩ : ∃ W0, W0 = w.alloc (.cells (dcells d) 26) := ⟨_, rfl⟩
 have HB0 : Hid (Below w.heap.size w W0) := zu8 (by rw [hW0]; exact (zvb _ w).alloc (zva _) _)
 have K0 : Hid (W0.heap[w.heap.size]? = some (.cells (dcells d) 26 (0, 0))) := zu8 (by rw [hW0]; exact heap_alloc_new w _)
 have HZ : Hid (w.heap.size < W0.heap.size) := zu8 (by rw [hW0]; simp)
 have k1 := zu8 j0
 have g1 := zu8 hd
 have HW := zu8 hW0
 have g6 := zu8 (zhy K0.out)
 clear j0 hd hW0 h3
 go_enter Tryz.func40, Tryz.ntmps40
 go_wp2_with (first | (rw [← HW.out]; refine ze5 rfl _ rfl w.heap.size 0 rfl d g1.out g6.out ?_) | fail)
 refine (zt6 (.slice va l.length vc) l d W0 (HV.out.below HB0.out) g1.out (by omega)).mono ?_
 rintro e w1 ⟨rfl, hb1⟩
 have HB1 := zu9 HB0 hb1
 have j9 := zu8 hb1
 clear hb1
 by_cases hm : d ∈ l
 ·rw [decide_eq_true hm]
  have HE : Hid (V.addC V.cmpI l d = l) := zu8 (by unfold V.addC; rw [if_pos hm])
  clear hm
  go_wp2
  go_ret
  exact ⟨_, rfl, by rw [HE.out]; exact HV.out.below HB1.out, by rw [HE.out]; exact j1.out.below HB1.out.size, .inl rfl, HB1.out⟩
 ·rw [decide_eq_false hm]
  have HE : Hid (V.addC V.cmpI l d = V.insC V.cmpI d l) := zu8 (by unfold V.addC; rw [if_neg hm])
  clear hm
  go_wp2
  go_loopw [5, 6] (fun ov iv wx => ∃ (i : Nat) (S : List (List Int)), S = l.take i /\ i ≤ l.length /\ iv = .int .i64 i /\ GRow 26 32 dE wx W0.heap.size ov S /\ Below W0.heap.size W0 wx /\ (∀ j (h : j < l.length), j < i -> V.cmpI l[j] d < 0)) (fun _ iv _ => l.length - (intOf iv).toNat)
  case atStart => exact ⟨0, [], rfl, Nat.zero_le _, rfl, GRow.nil _ _, j9.out, fun j _ hj => absurd hj (by omega)⟩
  case round =>
   obtain ⟨i, S, hS, hi, rfl, g9, h4, h5⟩ := hrel
   have HS := zu8 hS
   have g4 : Hid (S.length ≤ 1000) := zu8 (by rw [hS, List.length_take]; omega)
   have h1 := zu8 g9
   have HBX := zu8 h4
   have h6 := zu8 h5
   obtain ⟨oa, oc, k2⟩ := g9.slice
   subst k2
   have k3 := zu9 HB0 h4
   clear g9 h4 h5 hS
   by_cases hlt : i < l.length
   ·obtain ⟨j3, g, off, rfl, j4, hc⟩ := k1.out i hlt
    have HX := zu8 j3
    have HR := zu8 (zi hc k3.out)
    have j5 := zu8 (zi g6.out HBX.out)
    have k9 : (0 : Int) ≤ (i : Int) := by omega
    have q0 : (i : Int) < (l.length : Int) := by omega
    have HST : Hid (S ++ [l[i]] = l.take (i + 1)) := zu8 (by rw [HS.out]; exact (List.take_succ_eq_append_getElem hlt).symm)
    have HN : Hid (V.cmpI l[i] d < 0 -> ∀ j (h : j < l.length), j < i + 1 -> V.cmpI l[j] d < 0) := zu8 (fun hn j h hj => by
      by_cases e : j = i
      · subst e; exact hn
      · exact h6.out j h (by omega))
    have HF : Hid (¬ V.cmpI l[i] d < 0 -> V.addC V.cmpI l d = S ++ [d] ++ l.drop i) := zu8 (fun hn => by rw [HE.out, V.znf hi h6.out (fun _ => hn), ← HS.out]; simp)
    have HG := zu8 j4
    clear hc j3 j4
    generalize j6 : l[i] = x at *
    have q1 := zu8 j6
    clear j6
    by_cases hls : V.cmpI x d < 0
    ·have k4 := zu8 (HN.out hls)
     have g7 : decide (V.cmpI x d < 0) = true := decide_eq_true hls
     clear hls HF
     go_wp2_with fail
     refine wp_region_held_drew (S := (fun W' => Below wr.heap.size wr W')) (by kernel_rfl) ((zvb _ _).drew) (fun hHeld => ?_)
     refine tk 0 ?_
     refine tk 1 ?_
     refine tk 2 ?_
     refine tk 3 ?_
     refine tk 4 ?_
     refine tk 5 ?_
     refine tk 6 ?_
     refine tk 7 ?_
     refine tv 8 (.agg (dcells x)) ?_ ?_
     ·exact fun w' hSw => zav rfl rfl HX.out (zi HR.out hSw)
     refine tv 9 (.agg (dcells d)) ?_ ?_
     ·exact fun w' hSw => zav rfl rfl g1.out (zi j5.out hSw)
     refine rd 10 fun K hK => ?_
     go_simp
     refine (zlk x d _ HX.out g1.out).mono ?_
     rintro e w7 ⟨rfl, hb7⟩
     try dsimp only
     refine hK.out _ _ ?_ (fun hHeld => nx ?_)
     ·(try dsimp only); exact hHeld.trans (hb7.mono hHeld.size)
     clear hK K
     refine tk 11 ?_
     refine wpAnyH_done (by kernel_rfl) ?_ _
     rw [g7]
     have HB7 := zu9 HBX hHeld
     have h8 := zu8 (GRow.below h1.out hHeld)
     have k5 := zu8 (zi HR.out hHeld)
     clear hb7 hHeld g7
     have g0 : Hid (Below W0.heap.size W0 (w7.alloc (.cells (dcells x) 26))) := zu8 (HB7.out.alloc HB7.out.size _)
     have g3 := zu8 (GRow.below h8.out ((zvb w7.heap.size w7).alloc (zva _) (.cells (dcells x) 26)))
     have HNW := zu8 (zfv w7 x HX.out)
     go_wp2_with (first | (refine ze5 rfl _ rfl g (off + i * 32) rfl x HX.out k5.out ?_) | (refine zot rfl _ rfl x HX.out rfl ?_) | (refine yr kw (by decide) zbd zdf (by decide) rfl _ _ 55 rfl Tryz.underlying55 W0.heap.size _ S rfl g3.out w7.heap.size x rfl HNW.out (by have := g4.out; omega) g0.out.size ?_; intro v9 w9 j7 j8) | fail)
     have HR9 := zu8 j7
     have HB9 := zu8 (g0.out.trans (zy j8 (GRow.block g3.out) (zva _) g0.out.size))
     clear j7 j8
     go_wp2
     go_roundw
     case rel => exact ⟨i + 1, _, HST.out, by omega, by go_num, HR9.out, HB9.out, k4.out⟩
     case measure => simp [intOf]; omega
    ·have h2 := zu8 (HF.out hls)
     have g7 : decide (V.cmpI x d < 0) = false := decide_eq_false hls
     clear hls HF HN
     go_wp2_with fail
     refine wp_region_held_drew (S := (fun W' => Below wr.heap.size wr W')) (by kernel_rfl) ((zvb _ _).drew) (fun hHeld => ?_)
     refine tk 0 ?_
     refine tk 1 ?_
     refine tk 2 ?_
     refine tk 3 ?_
     refine tk 4 ?_
     refine tk 5 ?_
     refine tk 6 ?_
     refine tk 7 ?_
     refine tv 8 (.agg (dcells x)) ?_ ?_
     ·exact fun w' hSw => zav rfl rfl HX.out (zi HR.out hSw)
     refine tv 9 (.agg (dcells d)) ?_ ?_
     ·exact fun w' hSw => zav rfl rfl g1.out (zi j5.out hSw)
     refine rd 10 fun K hK => ?_
     go_simp
     refine (zlk x d _ HX.out g1.out).mono ?_
     rintro e w7 ⟨rfl, hb7⟩
     try dsimp only
     refine hK.out _ _ ?_ (fun hHeld => nx ?_)
     ·(try dsimp only); exact hHeld.trans (hb7.mono hHeld.size)
     clear hK K
     refine tk 11 ?_
     refine wpAnyH_done (by kernel_rfl) ?_ _
     rw [g7]
     have g2 := zu9 HBX hHeld
     have g5 := zu8 (GRow.below h1.out hHeld)
     clear hb7 hHeld g7
     generalize w7 = wx at *
     obtain ⟨ad, k0, g8⟩ := zp2 HV.out.gsl (by obtain ⟨cs, fr, hb⟩ := HG.out; exact (Array.getElem?_eq_some_iff.1 hb).1) j2 i
     have h7 : Hid (∀ W : World, Below W0.heap.size W0 W -> ∀ j u, ((l.drop i).flatMap dE)[j]? = some u -> W.cell? (ad.add j) = some u) := zu8 (fun W hW => g8 W (HB0.out.trans (hW.mono HB0.out.size)))
     have k6 : (i : Int) ≤ (l.length : Int) := by omega
     have k7 : (i : Int).toNat = i := by omega
     have k8 : (l.length : Int) - (i : Int) = ((l.length - i : Nat) : Int) := by omega
     clear g8
     go_wp2_with fail
     refine wp_region_held_drew (S := (fun W' => Below W0.heap.size W0 W')) (by kernel_rfl) (g2.out.drew) (fun hHeld => ?_)
     refine tk 0 ?_
     refine tv 1 (.agg (dcells d)) ?_ ?_
     ·exact fun w' hSw => zav rfl rfl g1.out (zi g6.out hSw)
     refine tk 4 ?_
     refine tk 5 ?_
     refine tk 6 ?_
     refine rd 2 fun K hK => ?_
     refine zev rfl _ rfl d g1.out rfl ?_
     have g3 := zu8 (GRow.below g5.out (((zvb wx.heap.size wx).drew).alloc (zva _) (.cells (dcells d) 26)))
     have HNW := zu8 (zfv wx.drew d g1.out)
     have g0 : Hid (Below W0.heap.size W0 (wx.drew.alloc (.cells (dcells d) 26))) := zu8 (g2.out.drew.alloc g2.out.size _)
     refine hK.out _ _ ?_ (fun hHeld => nx ?_)
     ·(try dsimp only); exact g0.out
     clear hK K
     refine rd 3 fun K hK => ?_
     refine jr kw (by decide) zbd zdf (by decide) rfl _ _ 55 rfl Tryz.underlying55 W0.heap.size _ S rfl g3.out wx.heap.size d rfl HNW.out (by have := g4.out; omega) g0.out.size (fun v3 W3 hr3 hg3 => ?_)
     have HB3 := zu8 (g0.out.trans (zy hg3 (GRow.block g3.out) (zva _) g0.out.size))
     refine hK.out _ _ ?_ (fun hHeld => nx ?_)
     ·(try dsimp only); exact HB3.out
     clear hK K
     refine rd 7 fun K hK => ?_
     refine ky kw (by decide) zbd zdf (by decide) rfl _ _ 55 rfl Tryz.underlying55 W0.heap.size v3 (S ++ [d]) rfl hr3 ad (vc - i) (l.drop i) (l.length - i) (by simp) (by rfl) (h7.out _ HB3.out) (by have := g4.out; simp; omega) HB3.out.size (fun v4 W4 hr4 hg4 => ?_)
     have HB4 := zu8 (HB3.out.trans (zy hg4 (GRow.block hr3) (zva _) HB3.out.size))
     refine hK.out _ _ ?_ (fun hHeld => nx ?_)
     ·(try dsimp only); exact HB4.out
     clear hK K
     refine tk 8 ?_
     refine wpAnyH_done (by kernel_rfl) ?_ _
     have HBE := zu8 (HB0.out.trans (HB4.out.mono HB0.out.size))
     have HRE := zu8 hr4
     rw [← h2.out] at HRE
     clear hr3 hg3 hr4 hg4 hHeld
     go_wp2
     go_ret
     exact ⟨_, rfl, HRE.out.digs (fun c hc => by
       rcases V.zii.1 hc with h | rfl
       · exact h9.out c h
       · exact g1.out), HRE.out.slok, .inr (HRE.out.fresh.le (Nat.le_of_lt HZ.out)), HBE.out⟩
   ·obtain rfl : i = l.length := by omega
    have h2 : Hid (V.addC V.cmpI l d = S ++ [d] ++ l.drop l.length) := zu8 (by rw [HE.out, V.znf hi h6.out (fun h => absurd h (Nat.lt_irrefl _)), ← HS.out]; simp)
    go_wp2_with fail
    refine wp_region_held_drew (S := (fun W' => Below wr.heap.size wr W')) (by kernel_rfl) ((zvb _ _).drew) (fun hHeld => ?_)
    refine tk 0 ?_
    refine tk 1 ?_
    refine tk 2 ?_
    refine tk 3 ?_
    refine tk 4 ?_
    refine tu 5 ?_
    refine tu 6 ?_
    refine tu 7 ?_
    refine tu 8 ?_
    refine tu 9 ?_
    refine tu 10 ?_
    refine tk 11 ?_
    refine wpAnyH_done (by kernel_rfl) ?_ _
    have g2 := zu8 (HBX.out.drew)
    have g5 : Hid (GRow 26 32 dE wr.drew W0.heap.size (.slice oa S.length oc) S) := zu8 (GRow.below h1.out (zvb _ wr).drew)
    clear hHeld
    generalize wr.drew = wx at *
    have HFE : Hid (∀ c ∈ V.addC V.cmpI l d, qh c) := zu8 (fun c hc => by
      rcases V.zii.1 hc with h | rfl
      · exact h9.out c h
      · exact g1.out)
    rcases j1.out with ⟨e, h0⟩ | ⟨g, off, cap, e, hg, hc⟩
    ·obtain ⟨e1, _, e3⟩ := Value.slice.inj e
     subst e1 e3
     obtain rfl : l = [] := List.eq_nil_of_length_eq_zero h0
     clear h0
     simp only [List.length_nil] at *
     go_wp2_with fail
     refine wp_region_held_drew (S := (fun W' => Below W0.heap.size W0 W')) (by kernel_rfl) (g2.out.drew) (fun hHeld => ?_)
     refine tk 0 ?_
     refine tv 1 (.agg (dcells d)) ?_ ?_
     ·exact fun w' hSw => zav rfl rfl g1.out (zi g6.out hSw)
     refine tk 4 ?_
     refine tk 5 ?_
     refine tk 6 ?_
     refine rd 2 fun K hK => ?_
     refine zev rfl _ rfl d g1.out rfl ?_
     have g3 := zu8 (GRow.below g5.out (((zvb wx.heap.size wx).drew).alloc (zva _) (.cells (dcells d) 26)))
     have HNW := zu8 (zfv wx.drew d g1.out)
     have g0 : Hid (Below W0.heap.size W0 (wx.drew.alloc (.cells (dcells d) 26))) := zu8 (g2.out.drew.alloc g2.out.size _)
     refine hK.out _ _ ?_ (fun hHeld => nx ?_)
     ·(try dsimp only); exact g0.out
     clear hK K
     refine rd 3 fun K hK => ?_
     refine jr kw (by decide) zbd zdf (by decide) rfl _ _ 55 rfl Tryz.underlying55 W0.heap.size _ S rfl g3.out wx.heap.size d rfl HNW.out (by have := g4.out; omega) g0.out.size (fun v3 W3 hr3 hg3 => ?_)
     have HB3 := zu8 (g0.out.trans (zy hg3 (GRow.block g3.out) (zva _) g0.out.size))
     refine hK.out _ _ ?_ (fun hHeld => nx ?_)
     ·(try dsimp only); exact HB3.out
     clear hK K
     refine rd 7 fun K hK => ?_
     refine zni rfl _ _ rfl Tryz.underlying55 zdf W0.heap.size v3 (by exact hr3) rfl rfl ?_
     refine hK.out _ _ ?_ (fun hHeld => nx ?_)
     ·(try dsimp only); exact HB3.out
     clear hK K
     refine tk 8 ?_
     refine wpAnyH_done (by kernel_rfl) ?_ _
     have HBE := zu8 (HB0.out.trans (HB3.out.mono HB0.out.size))
     have HRE : Hid (GRow 26 32 dE W3 W0.heap.size v3 (V.addC V.cmpI [] d)) := zu8 (by rw [h2.out, List.drop_nil, List.append_nil]; exact hr3)
     clear hr3 hg3 hHeld
     exact zyb
    ·obtain ⟨e1, _, e3⟩ := Value.slice.inj e
     subst e1 e3
     clear e
     obtain ⟨ad, k0, g8⟩ := zp2 HV.out.gsl hg j2 l.length
     have h7 : Hid (∀ W : World, Below W0.heap.size W0 W -> ∀ j u, ((l.drop l.length).flatMap dE)[j]? = some u -> W.cell? (ad.add j) = some u) := zu8 (fun W hW => g8 W (HB0.out.trans (hW.mono HB0.out.size)))
     have k6 : (l.length : Int) ≤ (l.length : Int) := by omega
     have k7 : (l.length : Int).toNat = l.length := by omega
     have k8 : (l.length : Int) - (l.length : Int) = ((l.length - l.length : Nat) : Int) := by omega
     clear g8
     go_wp2_with fail
     refine wp_region_held_drew (S := (fun W' => Below W0.heap.size W0 W')) (by kernel_rfl) (g2.out.drew) (fun hHeld => ?_)
     refine tk 0 ?_
     refine tv 1 (.agg (dcells d)) ?_ ?_
     ·exact fun w' hSw => zav rfl rfl g1.out (zi g6.out hSw)
     refine tk 4 ?_
     refine tk 5 ?_
     refine tk 6 ?_
     refine rd 2 fun K hK => ?_
     refine zev rfl _ rfl d g1.out rfl ?_
     have g3 := zu8 (GRow.below g5.out (((zvb wx.heap.size wx).drew).alloc (zva _) (.cells (dcells d) 26)))
     have HNW := zu8 (zfv wx.drew d g1.out)
     have g0 : Hid (Below W0.heap.size W0 (wx.drew.alloc (.cells (dcells d) 26))) := zu8 (g2.out.drew.alloc g2.out.size _)
     refine hK.out _ _ ?_ (fun hHeld => nx ?_)
     ·(try dsimp only); exact g0.out
     clear hK K
     refine rd 3 fun K hK => ?_
     refine jr kw (by decide) zbd zdf (by decide) rfl _ _ 55 rfl Tryz.underlying55 W0.heap.size _ S rfl g3.out wx.heap.size d rfl HNW.out (by have := g4.out; omega) g0.out.size (fun v3 W3 hr3 hg3 => ?_)
     have HB3 := zu8 (g0.out.trans (zy hg3 (GRow.block g3.out) (zva _) g0.out.size))
     refine hK.out _ _ ?_ (fun hHeld => nx ?_)
     ·(try dsimp only); exact HB3.out
     clear hK K
     refine rd 7 fun K hK => ?_
     refine ky kw (by decide) zbd zdf (by decide) rfl _ _ 55 rfl Tryz.underlying55 W0.heap.size v3 (S ++ [d]) rfl hr3 ad (vc - l.length) (l.drop l.length) 0 (by simp) (by rfl) (h7.out _ HB3.out) (by have := g4.out; simp; omega) HB3.out.size (fun v4 W4 hr4 hg4 => ?_)
     have HB4 := zu8 (HB3.out.trans (zy hg4 (GRow.block hr3) (zva _) HB3.out.size))
     refine hK.out _ _ ?_ (fun hHeld => nx ?_)
     ·(try dsimp only); exact HB4.out
     clear hK K
     refine tk 8 ?_
     refine wpAnyH_done (by kernel_rfl) ?_ _
     have HBE := zu8 (HB0.out.trans (HB4.out.mono HB0.out.size))
     have HRE := zu8 hr4
     rw [← h2.out] at HRE
     clear hr3 hg3 hr4 hg4 hHeld
     exact zyb
theorem zfu {P : Program} (w : World) (a b : List Int) (x y : Addr) (n m c c' : Nat) (hn : a.length = n) (hm : b.length = m) (ha : ∀ j u, a[j]? = some u -> w.cell? (x.add j) = some (.int .u8 u)) (hb : ∀ j u, b[j]? = some u -> w.cell? (y.add j) = some (.int .u8 u)) :
  (Extern.BytealgCompare.compare #[.slice (some x) n c, .slice (some y) m c']).run P w = .ok (.int .i64 (Lib.compareBytes (Lib.bytesOf a) (Lib.bytesOf b))) w := by
 subst hn hm
 change Sem.run P (do pure (goInt (Extern.BytealgCompare.cmp (← Extern.Bytes.bytesOf (.slice (some x) a.length c)) (← Extern.Bytes.bytesOf (.slice (some y) b.length c'))))) w = _
 simp only [Extern.Bytes.bytesOf, Sem.run_bind, Sem.run_pure, Lib.run_loadBytesX w a x .empty ha, Lib.run_loadBytesX w b y .empty hb, Result.andThen]
 rw [Lib.cmp_eq]
 simp
 rfl
theorem V.cmp_bytes : ∀ {a b : List Int}, (∀ n ∈ a, 0 ≤ n /\ n < 256) -> (∀ n ∈ b, 0 ≤ n /\ n < 256) -> Lib.compareBytes (Lib.bytesOf a) (Lib.bytesOf b) = V.cmpI a b
 | [], [], _, _ => rfl
 | [], _ :: _, _, _ => rfl
 | _ :: _, [], _, _ => rfl
 | x :: a, y :: b, ha, hb => by
  have ih := V.cmp_bytes (fun n hn => ha n (List.mem_cons_of_mem _ hn)) (fun n hn => hb n (List.mem_cons_of_mem _ hn))
  have hx := ha x (by simp)
  have hy := hb y (by simp)
  unfold Lib.bytesOf at ih ⊢
  rw [List.map_cons, List.map_cons]
  unfold Lib.compareBytes V.cmpI
  rw [ih]
  have e : ∀ z : Int, 0 ≤ z -> z < 256 -> z.toNat.toUInt8.toNat = z.toNat := fun z h0 h1 => by
   rw [Nat.toUInt8, UInt8.toNat_ofNat']
   exact Nat.mod_eq_of_lt (by omega)
  simp only [UInt8.lt_iff_toNat_lt, e x hx.1 hx.2, e y hy.1 hy.2]
  by_cases h1 : x < y
  ·rw [if_pos (by omega), if_pos h1]
  ·rw [if_neg (by omega), if_neg h1]
   by_cases h2 : y < x
   ·rw [if_pos (by omega), if_pos h2]
   ·rw [if_neg (by omega), if_neg h2]
theorem qh.rng {d : List Int} (h : qh d) : ∀ n ∈ d, 0 ≤ n /\ n < 256 := fun n hn => by
 have := h.2 n hn
 simp [Lit.wf, IntKind.min, IntKind.max, IntKind.signed, IntKind.bits] at this
 omega
theorem znh (g g2 : Nat) (a b : List Int) (w : World) (ha : qh a) (hb : qh b) (ka : w.rangeAt g 0 (zn a)) (kb : w.rangeAt g2 0 (zn b)) :
  Calls Tryz.prog 71 #[.slice (some ⟨g, 0, none⟩) 32 32, .slice (some ⟨g2, 0, none⟩) 32 32] w fun e w' => e = .returned (.int .i64 (V.cmpI a b)) /\ w' = w := by
 have HR := zu8 (zfu (P := Tryz.prog) w a b ⟨g, 0, none⟩ ⟨g2, 0, none⟩ 32 32 32 32 ha.1 hb.1 (fun j u hu => by rw [Addr.add_mid]; exact ka j _ (by unfold zn; rw [List.getElem?_map, hu]; rfl)) (fun j u hu => by rw [Addr.add_mid]; exact kb j _ (by unfold zn; rw [List.getElem?_map, hu]; rfl)))
 rw [V.cmp_bytes ha.rng hb.rng] at HR
 clear ka kb ha hb
 go_enter Tryz.func71, Tryz.ntmps71
 go_wp2
 rw [run_callFunc_extern Tryz.func108 (by kernel_rfl) (by kernel_rfl) (by kernel_rfl) (e := Extern.BytealgCompare.compare) (by kernel_rfl), HR.out]
 simp only [Result.andThen]
 rw [Oper.upon_value]
 go_wp2
 go_ret
 exact ⟨rfl, rfl⟩
theorem zsf (w : World) (n : Nat) (os : Array Obj) : (Sort.grow w os).drewN n = Sort.grow (w.drewN n) os := by
 rfl
theorem zqf (a b : List Int) (w : World) (ha : qh a) (hb : qh b) :
  Calls Tryz.prog 70 #[.agg (dcells a), .agg (dcells b)] w fun e w' => e = .returned (.int .i64 (V.cmpI a b)) /\ ∃ q os', w' = Sort.grow (w.drewN q) os' := by
 obtain ⟨W0, hW0⟩ : ∃ W0, W0 = (w.alloc (.cells (dcells a) 26)).alloc (.cells (dcells b) 26) := ⟨_, rfl⟩
 have K0 : Hid (W0.rangeAt w.heap.size 0 (zn a)) := zu8 (zhy (T := 26) (fr := (0, 0)) (by rw [hW0, heap_alloc, if_neg (by simp), heap_alloc, if_pos rfl]))
 have K1 : Hid (W0.rangeAt (w.heap.size + 1) 0 (zn b)) := zu8 (zhy (T := 26) (fr := (0, 0)) (by rw [hW0, heap_alloc, if_pos (by simp)]))
 have HW := zu8 hW0
 have HA := zu8 ha
 have HB := zu8 hb
 have HE : Hid (W0 = Sort.grow w #[.cells (dcells a) 26, .cells (dcells b) 26]) := zu8 (by rw [hW0, Sort.alloc_eq_grow, Sort.alloc_eq_grow, Sort.grow_grow]; rfl)
 clear hW0 ha hb
 go_enter Tryz.func70, Tryz.ntmps70
 go_wp2_with fail
 rw [← HW.out]
 have hc : ∀ n, Calls Tryz.prog 71 #[.slice (some ⟨w.heap.size, 0, none⟩) 32 32, .slice (some ⟨w.heap.size + 1, 0, none⟩) 32 32] (W0.drewN n) fun e w' => e = .returned (.int .i64 (V.cmpI a b)) /\ w' = W0.drewN n := fun n => znh _ _ a b _ HA.out HB.out (zi K0.out (below_drewN (zvb _ W0) n)) (zi K1.out (below_drewN (zvb _ W0) n))
 go_quiet (first | (go_at_call 71; refine Calls.quiet_of_same (hc _)) | fail)
 rename_i nq
 have HQ : Hid (W0.drewN nq = Sort.grow (w.drewN nq) #[.cells (dcells a) 26, .cells (dcells b) 26]) := zu8 (by rw [HE.out, zsf])
 clear hc
 go_wp2
 go_ret
 exact ⟨rfl, nq, _, HQ.out⟩
abbrev Dg := { d : List Int // qh d }
instance : Inhabited Dg := ⟨⟨List.replicate 32 0, by unfold qh; decide⟩⟩
def gE (d : Dg) : List Value := zn d.1
theorem zrx (d : Dg) : (gE d).length = 32 := zcq d.2
theorem gE_one (d : Dg) : ∀ v ∈ gE d, v.oneCell' = true := fun v hv => by
 unfold gE zn at hv
 obtain ⟨_, _, rfl⟩ := List.mem_map.1 hv
 rfl
def gC (x y : Dg) : Int := V.cmpI x.1 y.1
theorem gC_swo : Sort.SWO (ltOf gC) where
 irrefl x := by unfold ltOf gC; rw [(V.ux _ _).2 rfl]; rfl
 trans x y z h1 h2 := by
  unfold ltOf gC at *
  simp only [decide_eq_true_eq] at *
  exact V.zat _ _ _ h1 h2
 ntrans x y z h1 h2 := by
  unfold ltOf gC at *
  simp only [decide_eq_false_iff_not] at *
  intro h3
  by_cases e : V.cmpI x.1 y.1 = 0
  ·rw [(V.ux _ _).1 e] at h3; exact h2 h3
  ·have a1 := V.zbu x.1 y.1
   exact h2 (V.zat _ _ _ (by omega) h3)
theorem dgs_of : ∀ {l : List (List Int)}, (∀ d ∈ l, qh d) -> ∃ ds : List Dg, ds.map (·.1) = l
 | [], _ => ⟨[], rfl⟩
 | d :: l, h => by
  obtain ⟨ds, e⟩ := dgs_of (fun c hc => h c (List.mem_cons_of_mem _ hc))
  exact ⟨⟨d, h d (by simp)⟩ :: ds, by rw [List.map_cons, e]⟩
theorem zth (ds : List Dg) : (ds.map (·.1)).flatMap dE = ds.flatMap gE := by
 rw [zn0 (fun d hd => by obtain ⟨x, _, rfl⟩ := List.mem_map.1 hd; exact x.2), List.flatMap_map]
 rfl
theorem zp7 (ds : List Dg) {j : Nat} (hj : j < ds.length * 32) : (ds.flatMap gE)[j]? = some (Sort.flatK gE 32 ds.toArray)[j]! := by
 have hq : j / 32 < ds.length := by omega
 have e := yf zrx (l := ds) (j / 32) hq (j % 32) (by omega)
 rw [show j / 32 * 32 + j % 32 = j by omega] at e
 rw [e, Sort.get_flatK _ _ _ _ (by simpa using hj)]
 have e1 : ds.toArray[j / 32]! = ds[j / 32] := by rw [getElem!_pos _ _ (by simpa using hq)]; simp
 have h2 : j % 32 < (gE ds[j / 32]).length := by rw [zrx]; omega
 rw [e1, List.getElem?_eq_getElem h2, getElem!_pos (gE ds[j / 32]) (j % 32) h2]
theorem zq3 {w : World} {g : Nat} {ds : List Dg} (h : ERow 26 32 dE w g (ds.map (·.1))) : Sort.HoldsK gE 32 w g 0 ds.toArray := by
 obtain ⟨cs, hg, hs, hc⟩ := h
 intro j hj
 have g0 : j < ds.length * 32 := by simpa using hj
 refine ⟨?_, qw hg⟩
 rw [Nat.zero_add, cell_of_row w g _ _ _ _ hg, hc j (by simpa using g0), zth, zp7 ds g0]
 rfl
theorem zq4 {w : World} {g n : Nat} {os : Array Obj} {l : List (List Int)} {ds : List Dg} (h : ERow 26 32 dE w g l) (hs : ds.length = l.length) :
  ERow 26 32 dE (sortWorldK gE 32 w g 0 n ds.toArray os) g (ds.map (·.1)) /\ w.grownBy (sortWorldK gE 32 w g 0 n ds.toArray os) (some g) := by
 have hlt := h.lt
 obtain ⟨cs, hg, g3, hc⟩ := h
 have g1 : (sortWorldK gE 32 w g 0 n ds.toArray os).heap[g]? = some (.cells (Sort.putCells id 0 (Sort.flatK gE 32 ds.toArray) cs) 26 (0, 0)) := by
  unfold sortWorldK Sort.putRowK
  rw [Sort.heap_grow_old _ _ (by simpa using hlt)]
  simp [Sort.putRow, Sort.mapBlock, Sort.ahead, Array.getElem?_modify, hg, Sort.onCells]
 refine ⟨⟨_, g1, by simp [Sort.putCells]; omega, fun i hi => ?_⟩, rfl, rfl, rfl, ?_, fun i hi g2 => ?_⟩
 ·have g0 : i < ds.length * 32 := by simpa using hi
  rw [zth, zp7 ds g0]
  have hcs : i < cs.size := by omega
  simp [Sort.putCells, hcs, g0]
 ·unfold sortWorldK Sort.putRowK; simp
 ·unfold sortWorldK Sort.putRowK
  rw [Sort.heap_grow_old _ _ (by simpa using hi)]
  have : g ≠ i := fun e => g2 (by rw [e])
  simp [Sort.putRow, Sort.mapBlock, Sort.ahead, Array.getElem?_modify, this]
theorem zo6 {w : World} {g n : Nat} {os : Array Obj} {l : List (List Int)} {d : Array Dg} (h : ERow 26 32 dE w g l) (hs : d.size = l.length) :
  ERow 26 32 dE (sortWorldK gE 32 w g 0 n d os) g (d.toList.map (·.1)) /\ w.grownBy (sortWorldK gE 32 w g 0 n d os) (some g) := by
 have := zq4 (n := n) (os := os) (ds := d.toList) h (by rw [Array.length_toList]; exact hs)
 rwa [Array.toArray_toList] at this
theorem zti (N : Nat) (v : Value) (l : List (List Int)) (w : World) (h : GRow 26 32 dE w N v l) (hw : ∀ d ∈ l, qh d) (h0 : l ≠ []) (hl : l.length ≤ 1000) :
  Calls Tryz.prog 69 #[v, .func (.func 70) #[] #[]] w fun e w' => e = .returned (.tuple #[]) /\
   ∃ g cap l', v = .slice (some ⟨g, 0, none⟩) l.length cap /\ N ≤ g /\ l'.Perm l /\ l'.Pairwise (fun a b => ¬ V.cmpI b a < 0) /\ ERow 26 32 dE w' g l' /\ w.grownBy w' (some g) := by
 rcases GRow.row kw h with ⟨_, e⟩ | ⟨g, cap, rfl, hN, g7, hr⟩
 ·exact absurd e h0
 ·obtain ⟨ds, rfl⟩ := dgs_of hw
  have eg : ∀ args w, (callFunc 70 args).run Tryz.prog w = .ok (.enter 70 args) w := enters_of Tryz.func70 (by kernel_rfl) rfl
  have g0 := AnyQ.slices_SortFunc Tryz.sortDig 32 Tryz.isAgg26 Tryz.sizeOf26 gE zrx gE_one gC gC_swo 70 #[] g 0 cap ds.toArray w eg
   (fun _ _ _ _ x y => zqf x.1 y.1 _ x.2 y.2) (zq3 hr) hr.lt (by simp at hl ⊢; omega)
  change Calls Tryz.prog 69 _ _ _ at g0
  have g1 : ds.toArray.size = (ds.map (·.1)).length := by simp
  rw [g1] at g0
  refine g0.mono ?_
  rintro e w' ⟨rfl, d', n, os, hp, hs, rfl⟩
  have hd : d'.size = (ds.map (·.1)).length := by rw [List.length_map]; have := hp.1; simpa using this
  obtain ⟨g2, g3⟩ := zo6 (n := n) (os := os) (d := d') hr hd
  generalize sortWorldK gE 32 w g 0 n d' os = w9 at *
  refine ⟨rfl, g, cap, _, rfl, hN, ?_, ?_, g2, g3⟩
  ·have hp2 := hp.2.2
   have e1 : (d'.extract 0 (ds.map (·.1)).length).toList = d'.toList := by rw [← hd]; simp
   have e2 : (ds.toArray.extract 0 (ds.map (·.1)).length).toList = ds := by simp
   rw [e1, e2] at hp2
   exact hp2.map _
  ·rw [List.pairwise_map, List.pairwise_iff_getElem]
   intro i j hi hj g4
   have := hs i j (Nat.zero_le _) g4 (by rw [← hd]; simpa using hj)
   have g5 : i < d'.size := by simpa using hi
   have g6 : j < d'.size := by simpa using hj
   unfold ltOf gC at this
   rw [getElem!_pos d' i g5, getElem!_pos d' j g6] at this
   simpa using this
end Go.Proofs.YtbikeahmldobkaaGreatDoor
