/-
  Lemmas for the law.
-/
import Derived.Test.YtbikeahmldobkaaGreatDoorC41x33
import Derived.Test.YtbikeahmldobkaaGreatDoorC41x34
set_option linter.all false
set_option maxRecDepth 100000
set_option maxHeartbeats 6400000
namespace Go.Proofs.YtbikeahmldobkaaGreatDoor
open Go.RowKit
def dE (d : List Int) : List Value := (List.range 32).map fun i => .int .u8 (d.getD i 0)
theorem jw (d : List Int) : (dE d).length = 32 := by simp [dE]
theorem vm (d : List Int) : ∀ u ∈ dE d, u.oneCell' = true := fun u hu => by
 unfold dE at hu
 obtain ⟨_, _, rfl⟩ := List.mem_map.1 hu
 rfl
theorem zd4 {d : List Int} (h : qg d) : dE d = zk d := by
 apply List.ext_getElem?
 intro i
 unfold dE zk
 rw [List.getElem?_map, List.getElem?_map]
 by_cases hi : i < 32
 ·rw [List.getElem?_range hi, List.getElem?_eq_getElem (show i < d.length by rw [h.1]; exact hi)]
  simp only [Option.map_some]
  rw [List.getD_eq_getElem?_getD, List.getElem?_eq_getElem (show i < d.length by rw [h.1]; exact hi)]
  rfl
 ·rw [List.getElem?_eq_none (by simpa using hi), List.getElem?_eq_none (by rw [h.1]; omega)]
  rfl
theorem uz {d : List Int} (h : qg d) : (dE d).toArray = dcells d := by rw [zd4 h]; rfl
theorem zjs : ∀ {l : List (List Int)}, (∀ d ∈ l, qg d) -> l.flatMap dE = l.flatMap zk
 | [], _ => rfl
 | d :: l, h => by rw [List.flatMap_cons, List.flatMap_cons, zd4 (h d (by simp)), zjs (fun c hc => h c (List.mem_cons_of_mem _ hc))]
theorem zao : xg 26 32 32 := digIE3
theorem GRow.digs {w : World} {N : Nat} {v : Value} {l : List (List Int)} (h : GRow 26 32 dE w N v l) (hw : ∀ d ∈ l, qg d) : Digs w v l :=
 row_digs (by rw [← zjs hw]; exact h) hw
theorem ERow.digs {w : World} {g cap : Nat} {l : List (List Int)} (h : ERow 26 32 dE w g l) (hw : ∀ d ∈ l, qg d) : Digs w (.slice (some ⟨g, 0, none⟩) l.length cap) l := by
 have h0 := h
 obtain ⟨cs, hg, _⟩ := h0
 refine ⟨_, cap, rfl, fun j hj => ⟨hw _ (List.getElem_mem hj), g, 0, rfl, ⟨_, _, hg⟩, fun i u hu => ?_⟩⟩
 rw [← zd4 (hw _ (List.getElem_mem hj))] at hu
 have := h.at jw hj i u hu
 rw [Nat.zero_add]; exact this
theorem zcq (w : World) (d : List Int) (h : qg d) : ∀ j u, (dE d)[j]? = some u -> (w.alloc (.cells (dcells d) 26)).cell? ⟨w.heap.size, j, none⟩ = some u := fun j u hu => by
 rw [World.cell?_alloc_new, ← uz h]
 simpa using hu
theorem zb5 {ops : Array Oper} {rest : List Oper} {o : Oper} {a : Act} {w : World} {Q : Exit -> Act -> World -> Prop} (hgd : o.guard = none) (y : Operand) (ho : o.op = .load 26 y)
  (g off : Nat) (hy : a.eval y = .pointer (some ⟨g, off, none⟩)) (d : List Int) (hd : qg d) (hr : w.rangeAt g off (zk d))
  (h : wpList Tryz.prog ops Q rest (a.put o.dst (.agg (dcells d))) w) : wpList Tryz.prog ops Q (o :: rest) a w :=
 wpList_load_mid hgd _ y ho g off hy (zk d) _ hr Tryz.underlying26 rfl (by rw [zch, wg hd]) h
theorem zj9 {ops : Array Oper} {rest : List Oper} {o : Oper} {a : Act} {w : World} {Q : Exit -> Act -> World -> Prop} (hgd : o.guard = none) (e1 : Operand) (ho : o.op = .buildSlice 55 1 #[(0, e1)]) (d : List Int) (hd : qg d) (h1 : a.eval e1 = .agg (dcells d))
  (h : wpList Tryz.prog ops Q rest (a.put o.dst (.slice (some ⟨w.heap.size, 0, none⟩) 1 1)) (w.alloc (.cells (dcells d) 26))) : wpList Tryz.prog ops Q (o :: rest) a w :=
 zmi jw (by decide) (by decide) zao Tryz.underlying55 hgd e1 ho d (by rw [uz hd]; exact h1) (by rw [uz hd]; exact h)
theorem zbx {ops : Array Oper} {o : Oper} {a : Act} {w : World} {K : Act -> World -> Prop} {Q : Exit -> Act -> World -> Prop} {E : Prop} (hgd : o.guard = none) (e1 : Operand) (ho : o.op = .buildSlice 55 1 #[(0, e1)]) (d : List Int) (hd : qg d) (h1 : a.eval e1 = .agg (dcells d))
  (h : K (a.put o.dst (.slice (some ⟨w.heap.size, 0, none⟩) 1 1)) (w.alloc (.cells (dcells d) 26))) : if Region.wanted o (yielded ops a.tmps) = true then Oper.wp Tryz.prog o a w K Q else E :=
 ziu jw (by decide) (by decide) zao Tryz.underlying55 hgd e1 ho d (by rw [uz hd]; exact h1) (by rw [uz hd]; exact h)
theorem zcp {ops : Array Oper} {o : Oper} {a : Act} {w : World} {K : Act -> World -> Prop} {Q : Exit -> Act -> World -> Prop} {E : Prop} {T : TypeId} {k bytes : Nat} (hgd : o.guard = none) (s x : Operand) {S : TypeId} (ho : o.op = .call { callee := .builtin .append, args := #[s, x], argTypes := #[S, S] }) (hu : Tryz.prog.underlying S = some (.slice T)) (hi : xg T k bytes)
  (N : Nat) (v : Value) {n : Nat} {xs : List Value} (hown : w.ownsRow N T k v n xs) (hs : a.eval s = v) {c : Nat} (hx : a.eval x = .slice none 0 c)
  (h : K (a.put o.dst v) w) : if Region.wanted o (yielded ops a.tmps) = true then Oper.wp Tryz.prog o a w K Q else E := by
 rw [if_pos (by simp [Region.wanted, hgd])]
 have hr := zbo N S o.type hi hu v _ _ hown c
 unfold Oper.wp execOp
 simp only [ho, resolve, invoke, builtin, Sem.run_bind, Sem.run_pure, Result.andThen_ok, List.map_toArray, List.map_cons, List.map_nil, hs, hx, hr]
 exact h
theorem zso {P : Prop} (h : P := by
 refine ⟨_, if_pos h, fun W hW j u hu => ?_⟩
 rw [List.drop_eq_nil_of_le (by omega)] at hu
 simp at hu) : P := h
theorem zlg {w : World} {g off cap : Nat} {l : List (List Int)} (hv : GSl 32 dE w (.slice (some ⟨g, off, none⟩) l.length cap) l) (hg : g < w.heap.size) (hc : l.length ≤ cap) (i : Nat) :
  ∃ ad : Addr, (if cap = i then some (⟨g, off, none⟩ : Addr) else some ⟨g, off + i * 32, none⟩) = some ad /\ ∀ W : World, Below w.heap.size w W -> ∀ j u, ((l.drop i).flatMap dE)[j]? = some u -> W.cell? (ad.add j) = some u := by
 by_cases h : cap = i
 ·exact zso
 ·refine ⟨_, if_neg h, fun W hW j u hu => ?_⟩
  rw [Addr.add_mid]
  exact (hW.cell (p := ⟨g, off + i * 32 + j, none⟩) hg).trans (GSl.cells jw hv i j u hu)
theorem Digs.gsl {w : World} {v : Value} {l : List (List Int)} (h : Digs w v l) : GSl 32 dE w v l := by
 obtain ⟨a, cap, e, hc⟩ := h
 refine ⟨a, cap, e, fun j hj => ?_⟩
 obtain ⟨hd, b, off, ea, ⟨cs, fr, hb⟩, hr⟩ := hc j hj
 exact ⟨b, off, ea, (Array.getElem?_eq_some_iff.1 hb).1, fun i u hu => hr i u (by rw [← zd4 hd]; exact hu)⟩
def SlOk (w : World) (v : Value) (n : Nat) : Prop := v = .slice none 0 0 /\ n = 0 ∨ ∃ g off cap, v = .slice (some ⟨g, off, none⟩) n cap /\ g < w.heap.size /\ n ≤ cap
theorem SlOk.nil (w : World) : SlOk w (.slice none 0 0) 0 := .inl ⟨rfl, rfl⟩
theorem SlOk.below {w w' : World} {v : Value} {n : Nat} (h : SlOk w v n) (hb : w.heap.size ≤ w'.heap.size) : SlOk w' v n := by
 rcases h with h | ⟨g, off, cap, e, hg, hc⟩
 ·exact .inl h
 ·exact .inr ⟨g, off, cap, e, Nat.lt_of_lt_of_le hg hb, hc⟩
theorem GRow.slok {α : Type} {enc : α -> List Value} {k : Nat} {T : TypeId} {w : World} {N : Nat} {v : Value} {l : List α} (h : GRow T k enc w N v l) : SlOk w v l.length := by
 rcases h.2 with ⟨rfl, hn⟩ | ⟨g, cap, cur, rfl, _, hg, h1, _⟩
 ·exact .inl ⟨rfl, hn⟩
 ·exact .inr ⟨g, 0, cap, rfl, (Array.getElem?_eq_some_iff.1 hg).1, h1⟩
theorem zrm {P : Prop} (h : P := by
 clear hm
 go_wp2
 go_ret
 exact ⟨_, rfl, by rw [HE.out]; exact HV.out.below HB1.out, by rw [HE.out]; exact HSL.out.below HB1.out.size, HB1.out⟩) : P := h
theorem zro {P : Prop} (h : P := by
 go_wp2
 go_roundw
 case rel => exact ⟨i + 1, _, HST.out, by omega, by go_num, HR9.out, HB9.out, HNN.out⟩
 case measure => simp [intOf]; omega) : P := h
theorem zsk {P : Prop} (h : P := by
 rcases hsl with ⟨e, h0⟩ | ⟨g, off, cap, e, _, hc⟩
 ·omega
 ·rw [(Value.slice.inj e).2.2]; exact hc) : P := h
theorem zog (v : Value) (l : List (List Int)) (d : List Int) (w : World) (hv : Digs w v l) (hsl : SlOk w v l.length) (hd : qg d) (hl : l.length ≤ 1000) :
  Calls Tryz.prog 40 #[v, .agg (dcells d)] w fun e w' => ∃ u, e = .returned u /\ Digs w' u (V.addC V.cmpI l d) /\ SlOk w' u (V.addC V.cmpI l d).length /\ Below w.heap.size w w' := by
 have HV := zpa hv
 have HWF := zpa hv.wf
 obtain ⟨va, vc, rfl, hat⟩ := hv
 have HSL := zpa hsl
 have hvc : l.length ≤ vc := by
  exact zsk
 obtain ⟨W0, hW0⟩ : ∃ W0, W0 = w.alloc (.cells (dcells d) 26) := ⟨_, rfl⟩
 have HB0 : Hid (Below w.heap.size w W0) := zpa (by rw [hW0]; exact (zpd _ w).alloc (zpc _) _)
 have K0 : Hid (W0.heap[w.heap.size]? = some (.cells (dcells d) 26 (0, 0))) := zpa (by rw [hW0]; exact heap_alloc_new w _)
 have HZ : Hid (w.heap.size < W0.heap.size) := zpa (by rw [hW0]; simp)
 have HAT := zpa hat
 have HDD := zpa hd
 have HW := zpa hW0
 have HRB0 := zpa (zef K0.out)
 clear hat hd hW0 hsl
 go_enter Tryz.func40, Tryz.ntmps40
 go_wp2_with (first | (rw [← HW.out]; refine zb5 rfl _ rfl w.heap.size 0 rfl d HDD.out HRB0.out ?_) | fail)
 refine (zoc (.slice va l.length vc) l d W0 (HV.out.below HB0.out) HDD.out (by omega)).mono ?_
 rintro e w1 ⟨rfl, hb1⟩
 have HB1 := zpb HB0 hb1
 have HB01 := zpa hb1
 clear hb1
 by_cases hm : d ∈ l
 ·rw [decide_eq_true hm]
  have HE : Hid (V.addC V.cmpI l d = l) := zpa (by unfold V.addC; rw [if_pos hm])
  exact zrm
 ·rw [decide_eq_false hm]
  have HE : Hid (V.addC V.cmpI l d = V.insC V.cmpI d l) := zpa (by unfold V.addC; rw [if_neg hm])
  clear hm
  go_wp2
  go_loopw [5, 6] (fun ov iv wx => ∃ (i : Nat) (S : List (List Int)), S = l.take i /\ i ≤ l.length /\ iv = .int .i64 i /\ GRow 26 32 dE wx W0.heap.size ov S /\ Below W0.heap.size W0 wx /\ (∀ j (h : j < l.length), j < i -> V.cmpI l[j] d < 0)) (fun _ iv _ => l.length - (intOf iv).toNat)
  case atStart => exact ⟨0, [], rfl, Nat.zero_le _, rfl, GRow.nil _ _, HB01.out, fun j _ hj => absurd hj (by omega)⟩
  case round =>
   obtain ⟨i, S, hS, hi, rfl, hrow, hbl, hlt0⟩ := hrel
   have HS := zpa hS
   have HSL1 : Hid (S.length ≤ 1000) := zpa (by rw [hS, List.length_take]; omega)
   have HROW := zpa hrow
   have HBX := zpa hbl
   have HLT := zpa hlt0
   obtain ⟨oa, oc, hov⟩ := hrow.slice
   subst hov
   have HBW := zpb HB0 hbl
   clear hrow hbl hlt0 hS
   by_cases hlt : i < l.length
   ·obtain ⟨hdw, g, off, rfl, hgl, hc⟩ := HAT.out i hlt
    have HX := zpa hdw
    have HR := zpa (zh hc HBW.out)
    have HRB := zpa (zh HRB0.out HBX.out)
    have hi1 : (0 : Int) ≤ (i : Int) := by omega
    have hi2 : (i : Int) < (l.length : Int) := by omega
    have HST : Hid (S ++ [l[i]] = l.take (i + 1)) := zpa (by rw [HS.out]; exact (List.take_succ_eq_append_getElem hlt).symm)
    have HN : Hid (V.cmpI l[i] d < 0 -> ∀ j (h : j < l.length), j < i + 1 -> V.cmpI l[j] d < 0) := zpa (fun hn j h hj => by
      by_cases e : j = i
      · subst e; exact hn
      · exact HLT.out j h (by omega))
    have HF : Hid (¬ V.cmpI l[i] d < 0 -> V.addC V.cmpI l d = S ++ [d] ++ l.drop i) := zpa (fun hn => by rw [HE.out, V.zcm hi HLT.out (fun _ => hn), ← HS.out]; simp)
    have HG := zpa hgl
    clear hc hdw hgl
    generalize hxx : l[i] = x at *
    have HXX := zpa hxx
    clear hxx
    by_cases hls : V.cmpI x d < 0
    ·have HNN := zpa (HN.out hls)
     have hld : decide (V.cmpI x d < 0) = true := decide_eq_true hls
     clear hls HF
     go_wp2_with fail
     refine wp_region_held_drew (S := (fun W' => Below wr.heap.size wr W')) (by kernel_rfl) ((zpd _ _).drew) (fun hHeld => ?_)
     refine tk 0 ?_
     refine tk 1 ?_
     refine tk 2 ?_
     refine tk 3 ?_
     refine tk 4 ?_
     refine tk 5 ?_
     refine tk 6 ?_
     refine tk 7 ?_
     refine tv 8 (.agg (dcells x)) ?_ ?_
     ·exact fun w' hSw => ya rfl rfl HX.out (zh HR.out hSw)
     refine tv 9 (.agg (dcells d)) ?_ ?_
     ·exact fun w' hSw => ya rfl rfl HDD.out (zh HRB.out hSw)
     refine rd 10 fun K hK => ?_
     go_simp
     refine (zhl x d _ HX.out HDD.out).mono ?_
     rintro e w7 ⟨rfl, hb7⟩
     try dsimp only
     refine hK.out _ _ ?_ (fun hHeld => nx ?_)
     ·(try dsimp only); exact hHeld.trans (hb7.mono hHeld.size)
     clear hK K
     refine tk 11 ?_
     refine wpAnyH_done (by kernel_rfl) ?_ _
     rw [hld]
     have HB7 := zpb HBX hHeld
     have HROW7 := zpa (GRow.below HROW.out hHeld)
     have HR7 := zpa (zh HR.out hHeld)
     clear hb7 hHeld hld
     have HBN : Hid (Below W0.heap.size W0 (w7.alloc (.cells (dcells x) 26))) := zpa (HB7.out.alloc HB7.out.size _)
     have HRN := zpa (GRow.below HROW7.out ((zpd w7.heap.size w7).alloc (zpc _) (.cells (dcells x) 26)))
     have HNW := zpa (zcq w7 x HX.out)
     go_wp2_with (first | (refine zb5 rfl _ rfl g (off + i * 32) rfl x HX.out HR7.out ?_) | (refine zj9 rfl _ rfl x HX.out rfl ?_) | (refine zfu jw (by decide) vm zao (by decide) rfl _ _ 55 rfl Tryz.underlying55 W0.heap.size _ S rfl HRN.out w7.heap.size x rfl HNW.out (by have := HSL1.out; omega) HBN.out.size ?_; intro v9 w9 hr9 hg9) | fail)
     have HR9 := zpa hr9
     have HB9 := zpa (HBN.out.trans (qi hg9 (GRow.block HRN.out) (zpc _) HBN.out.size))
     clear hr9 hg9
     exact zro
    ·have HFF := zpa (HF.out hls)
     have hld : decide (V.cmpI x d < 0) = false := decide_eq_false hls
     clear hls HF HN
     go_wp2_with fail
     refine wp_region_held_drew (S := (fun W' => Below wr.heap.size wr W')) (by kernel_rfl) ((zpd _ _).drew) (fun hHeld => ?_)
     refine tk 0 ?_
     refine tk 1 ?_
     refine tk 2 ?_
     refine tk 3 ?_
     refine tk 4 ?_
     refine tk 5 ?_
     refine tk 6 ?_
     refine tk 7 ?_
     refine tv 8 (.agg (dcells x)) ?_ ?_
     ·exact fun w' hSw => ya rfl rfl HX.out (zh HR.out hSw)
     refine tv 9 (.agg (dcells d)) ?_ ?_
     ·exact fun w' hSw => ya rfl rfl HDD.out (zh HRB.out hSw)
     refine rd 10 fun K hK => ?_
     go_simp
     refine (zhl x d _ HX.out HDD.out).mono ?_
     rintro e w7 ⟨rfl, hb7⟩
     try dsimp only
     refine hK.out _ _ ?_ (fun hHeld => nx ?_)
     ·(try dsimp only); exact hHeld.trans (hb7.mono hHeld.size)
     clear hK K
     refine tk 11 ?_
     refine wpAnyH_done (by kernel_rfl) ?_ _
     rw [hld]
     have HBX0 := zpb HBX hHeld
     have HROWx := zpa (GRow.below HROW.out hHeld)
     clear hb7 hHeld hld
     generalize w7 = wx at *
     obtain ⟨ad, hadE, had⟩ := zlg HV.out.gsl (by obtain ⟨cs, fr, hb⟩ := HG.out; exact (Array.getElem?_eq_some_iff.1 hb).1) hvc i
     have HAD : Hid (∀ W : World, Below W0.heap.size W0 W -> ∀ j u, ((l.drop i).flatMap dE)[j]? = some u -> W.cell? (ad.add j) = some u) := zpa (fun W hW => had W (HB0.out.trans (hW.mono HB0.out.size)))
     have hi3 : (i : Int) ≤ (l.length : Int) := by omega
     have hi5 : (i : Int).toNat = i := by omega
     have hi6 : (l.length : Int) - (i : Int) = ((l.length - i : Nat) : Int) := by omega
     clear had
     go_wp2_with fail
     refine wp_region_held_drew (S := (fun W' => Below W0.heap.size W0 W')) (by kernel_rfl) (HBX0.out.drew) (fun hHeld => ?_)
     refine tk 0 ?_
     refine tv 1 (.agg (dcells d)) ?_ ?_
     ·exact fun w' hSw => ya rfl rfl HDD.out (zh HRB0.out hSw)
     refine tk 4 ?_
     refine tk 5 ?_
     refine tk 6 ?_
     refine rd 2 fun K hK => ?_
     refine zbx rfl _ rfl d HDD.out rfl ?_
     have HRN := zpa (GRow.below HROWx.out (((zpd wx.heap.size wx).drew).alloc (zpc _) (.cells (dcells d) 26)))
     have HNW := zpa (zcq wx.drew d HDD.out)
     have HBN : Hid (Below W0.heap.size W0 (wx.drew.alloc (.cells (dcells d) 26))) := zpa (HBX0.out.drew.alloc HBX0.out.size _)
     refine hK.out _ _ ?_ (fun hHeld => nx ?_)
     ·(try dsimp only); exact HBN.out
     clear hK K
     refine rd 3 fun K hK => ?_
     refine kg jw (by decide) vm zao (by decide) rfl _ _ 55 rfl Tryz.underlying55 W0.heap.size _ S rfl HRN.out wx.heap.size d rfl HNW.out (by have := HSL1.out; omega) HBN.out.size (fun v3 W3 hr3 hg3 => ?_)
     have HB3 := zpa (HBN.out.trans (qi hg3 (GRow.block HRN.out) (zpc _) HBN.out.size))
     refine hK.out _ _ ?_ (fun hHeld => nx ?_)
     ·(try dsimp only); exact HB3.out
     clear hK K
     refine rd 7 fun K hK => ?_
     refine xi jw (by decide) vm zao (by decide) rfl _ _ 55 rfl Tryz.underlying55 W0.heap.size v3 (S ++ [d]) rfl hr3 ad (vc - i) (l.drop i) (l.length - i) (by simp) (by rfl) (HAD.out _ HB3.out) (by have := HSL1.out; simp; omega) HB3.out.size (fun v4 W4 hr4 hg4 => ?_)
     have HB4 := zpa (HB3.out.trans (qi hg4 (GRow.block hr3) (zpc _) HB3.out.size))
     refine hK.out _ _ ?_ (fun hHeld => nx ?_)
     ·(try dsimp only); exact HB4.out
     clear hK K
     refine tk 8 ?_
     refine wpAnyH_done (by kernel_rfl) ?_ _
     have HBE := zpa (HB0.out.trans (HB4.out.mono HB0.out.size))
     have HRE := zpa hr4
     rw [← HFF.out] at HRE
     clear hr3 hg3 hr4 hg4 hHeld
     go_wp2
     go_ret
     exact ⟨_, rfl, HRE.out.digs (fun c hc => by
       rcases V.zey.1 hc with h | rfl
       · exact HWF.out c h
       · exact HDD.out), HRE.out.slok, HBE.out⟩
   ·obtain rfl : i = l.length := by omega
    have HFF : Hid (V.addC V.cmpI l d = S ++ [d] ++ l.drop l.length) := zpa (by rw [HE.out, V.zcm hi HLT.out (fun h => absurd h (Nat.lt_irrefl _)), ← HS.out]; simp)
    go_wp2_with fail
    refine wp_region_held_drew (S := (fun W' => Below wr.heap.size wr W')) (by kernel_rfl) ((zpd _ _).drew) (fun hHeld => ?_)
    refine tk 0 ?_
    refine tk 1 ?_
    refine tk 2 ?_
    refine tk 3 ?_
    refine tk 4 ?_
    refine tu 5 ?_
    refine tu 6 ?_
    refine tu 7 ?_
    refine tu 8 ?_
    refine tu 9 ?_
    refine tu 10 ?_
    refine tk 11 ?_
    refine wpAnyH_done (by kernel_rfl) ?_ _
    have HBX0 := zpa (HBX.out.drew)
    have HROWx : Hid (GRow 26 32 dE wr.drew W0.heap.size (.slice oa S.length oc) S) := zpa (GRow.below HROW.out (zpd _ wr).drew)
    clear hHeld
    generalize wr.drew = wx at *
    have HFE : Hid (∀ c ∈ V.addC V.cmpI l d, qg c) := zpa (fun c hc => by
      rcases V.zey.1 hc with h | rfl
      · exact HWF.out c h
      · exact HDD.out)
    rcases HSL.out with ⟨e, h0⟩ | ⟨g, off, cap, e, hg, hc⟩
    ·obtain ⟨e1, _, e3⟩ := Value.slice.inj e
     subst e1 e3
     obtain rfl : l = [] := List.eq_nil_of_length_eq_zero h0
     clear h0
     simp only [List.length_nil] at *
     go_wp2_with fail
     refine wp_region_held_drew (S := (fun W' => Below W0.heap.size W0 W')) (by kernel_rfl) (HBX0.out.drew) (fun hHeld => ?_)
     refine tk 0 ?_
     refine tv 1 (.agg (dcells d)) ?_ ?_
     ·exact fun w' hSw => ya rfl rfl HDD.out (zh HRB0.out hSw)
     refine tk 4 ?_
     refine tk 5 ?_
     refine tk 6 ?_
     refine rd 2 fun K hK => ?_
     refine zbx rfl _ rfl d HDD.out rfl ?_
     have HRN := zpa (GRow.below HROWx.out (((zpd wx.heap.size wx).drew).alloc (zpc _) (.cells (dcells d) 26)))
     have HNW := zpa (zcq wx.drew d HDD.out)
     have HBN : Hid (Below W0.heap.size W0 (wx.drew.alloc (.cells (dcells d) 26))) := zpa (HBX0.out.drew.alloc HBX0.out.size _)
     refine hK.out _ _ ?_ (fun hHeld => nx ?_)
     ·(try dsimp only); exact HBN.out
     clear hK K
     refine rd 3 fun K hK => ?_
     refine kg jw (by decide) vm zao (by decide) rfl _ _ 55 rfl Tryz.underlying55 W0.heap.size _ S rfl HRN.out wx.heap.size d rfl HNW.out (by have := HSL1.out; omega) HBN.out.size (fun v3 W3 hr3 hg3 => ?_)
     have HB3 := zpa (HBN.out.trans (qi hg3 (GRow.block HRN.out) (zpc _) HBN.out.size))
     refine hK.out _ _ ?_ (fun hHeld => nx ?_)
     ·(try dsimp only); exact HB3.out
     clear hK K
     refine rd 7 fun K hK => ?_
     refine zcp rfl _ _ rfl Tryz.underlying55 zao W0.heap.size v3 (by exact hr3) rfl rfl ?_
     refine hK.out _ _ ?_ (fun hHeld => nx ?_)
     ·(try dsimp only); exact HB3.out
     clear hK K
     refine tk 8 ?_
     refine wpAnyH_done (by kernel_rfl) ?_ _
     have HBE := zpa (HB0.out.trans (HB3.out.mono HB0.out.size))
     have HRE : Hid (GRow 26 32 dE W3 W0.heap.size v3 (V.addC V.cmpI [] d)) := zpa (by rw [HFF.out, List.drop_nil, List.append_nil]; exact hr3)
     clear hr3 hg3 hHeld
     go_wp2
     go_ret
     exact ⟨_, rfl, HRE.out.digs HFE.out, HRE.out.slok, HBE.out⟩
    ·obtain ⟨e1, _, e3⟩ := Value.slice.inj e
     subst e1 e3
     clear e
     obtain ⟨ad, hadE, had⟩ := zlg HV.out.gsl hg hvc l.length
     have HAD : Hid (∀ W : World, Below W0.heap.size W0 W -> ∀ j u, ((l.drop l.length).flatMap dE)[j]? = some u -> W.cell? (ad.add j) = some u) := zpa (fun W hW => had W (HB0.out.trans (hW.mono HB0.out.size)))
     have hi3 : (l.length : Int) ≤ (l.length : Int) := by omega
     have hi5 : (l.length : Int).toNat = l.length := by omega
     have hi6 : (l.length : Int) - (l.length : Int) = ((l.length - l.length : Nat) : Int) := by omega
     clear had
     go_wp2_with fail
     refine wp_region_held_drew (S := (fun W' => Below W0.heap.size W0 W')) (by kernel_rfl) (HBX0.out.drew) (fun hHeld => ?_)
     refine tk 0 ?_
     refine tv 1 (.agg (dcells d)) ?_ ?_
     ·exact fun w' hSw => ya rfl rfl HDD.out (zh HRB0.out hSw)
     refine tk 4 ?_
     refine tk 5 ?_
     refine tk 6 ?_
     refine rd 2 fun K hK => ?_
     refine zbx rfl _ rfl d HDD.out rfl ?_
     have HRN := zpa (GRow.below HROWx.out (((zpd wx.heap.size wx).drew).alloc (zpc _) (.cells (dcells d) 26)))
     have HNW := zpa (zcq wx.drew d HDD.out)
     have HBN : Hid (Below W0.heap.size W0 (wx.drew.alloc (.cells (dcells d) 26))) := zpa (HBX0.out.drew.alloc HBX0.out.size _)
     refine hK.out _ _ ?_ (fun hHeld => nx ?_)
     ·(try dsimp only); exact HBN.out
     clear hK K
     refine rd 3 fun K hK => ?_
     refine kg jw (by decide) vm zao (by decide) rfl _ _ 55 rfl Tryz.underlying55 W0.heap.size _ S rfl HRN.out wx.heap.size d rfl HNW.out (by have := HSL1.out; omega) HBN.out.size (fun v3 W3 hr3 hg3 => ?_)
     have HB3 := zpa (HBN.out.trans (qi hg3 (GRow.block HRN.out) (zpc _) HBN.out.size))
     refine hK.out _ _ ?_ (fun hHeld => nx ?_)
     ·(try dsimp only); exact HB3.out
     clear hK K
     refine rd 7 fun K hK => ?_
     refine xi jw (by decide) vm zao (by decide) rfl _ _ 55 rfl Tryz.underlying55 W0.heap.size v3 (S ++ [d]) rfl hr3 ad (vc - l.length) (l.drop l.length) 0 (by simp) (by rfl) (HAD.out _ HB3.out) (by have := HSL1.out; simp; omega) HB3.out.size (fun v4 W4 hr4 hg4 => ?_)
     have HB4 := zpa (HB3.out.trans (qi hg4 (GRow.block hr3) (zpc _) HB3.out.size))
     refine hK.out _ _ ?_ (fun hHeld => nx ?_)
     ·(try dsimp only); exact HB4.out
     clear hK K
     refine tk 8 ?_
     refine wpAnyH_done (by kernel_rfl) ?_ _
     have HBE := zpa (HB0.out.trans (HB4.out.mono HB0.out.size))
     have HRE := zpa hr4
     rw [← HFF.out] at HRE
     clear hr3 hg3 hr4 hg4 hHeld
     go_wp2
     go_ret
     exact ⟨_, rfl, HRE.out.digs HFE.out, HRE.out.slok, HBE.out⟩
end Go.Proofs.YtbikeahmldobkaaGreatDoor
