/-
  Lemmas for the law.
-/
import Derived.Test.YtbikeahmldobkaaGreatDoorC51x09
import Derived.Test.YtbikeahmldobkaaGreatDoorC51x02
import Derived.Test.YtbikeahmldobkaaGreatDoorC51x07
import Derived.Deep.RegionHeld3
set_option linter.all false
set_option maxRecDepth 100000
set_option maxHeartbeats 3200000
namespace Go.Proofs.YtbikeahmldobkaaGreatDoor
open Go.RowKit
def qh (d : List Int) : Prop := d.length = 32 /\ ∀ n ∈ d, (Lit.int .u8 n).wf = true
def Digs (w : World) (v : Value) (l : List (List Int)) : Prop :=
 ∃ a cap, v = .slice a l.length cap /\ ∀ j (h : j < l.length), qh l[j] /\ ∃ b off, a = some ⟨b, off, none⟩ /\ (∃ cs fr, w.heap[b]? = some (.cells cs 26 fr)) /\ w.rangeAt b (off + j * 32) (zn l[j])
theorem Digs.nil (w : World) : Digs w (.slice none 0 0) [] := ⟨none, 0, rfl, fun j h => by simp at h⟩
theorem Digs.below {w w' : World} {v : Value} {l : List (List Int)} (h : Digs w v l) (hb : Below w.heap.size w w') : Digs w' v l := by
 obtain ⟨a, cap, e, hc⟩ := h
 refine ⟨a, cap, e, fun j hj => ?_⟩
 obtain ⟨hw, b, off, ea, hlt, hr⟩ := hc j hj
 obtain ⟨cs, fr, hg⟩ := hlt
 exact ⟨hw, b, off, ea, ⟨cs, fr, (hb.block b (Array.getElem?_eq_some_iff.1 hg).1).trans hg⟩, zi hr hb⟩
theorem Digs.grow {w w' : World} {v : Value} {l : List (List Int)} (h : Digs w v l) {row : Option Nat} (hg : w.grownBy w' row) (hr : ∀ b, row = some b -> ∃ cs t fr, w.heap[b]? = some (.cells cs t fr) /\ t ≠ 26) : Digs w' v l := by
 obtain ⟨a, cap, e, hc⟩ := h
 refine ⟨a, cap, e, fun j hj => ?_⟩
 obtain ⟨hw, b, off, ea, ⟨cs, fr, hb⟩, g0⟩ := hc j hj
 have hk : w'.heap[b]? = w.heap[b]? := hg.block b (Array.getElem?_eq_some_iff.1 hb).1 (fun e => by
   obtain ⟨cs', t, fr', h1, h2⟩ := hr b e.symm
   rw [hb] at h1
   cases h1
   exact h2 rfl)
 refine ⟨hw, b, off, ea, ⟨cs, fr, hk.trans hb⟩, fun i u hu => ?_⟩
 rw [World.cell?_of_block (a := ⟨b, off + j * 32 + i, none⟩) hk]
 exact g0 i u hu
theorem zcq {d : List Int} (h : qh d) : (zn d).length = 32 := by unfold zn; simp [h.1]
theorem zpl : ∀ {l : List (List Int)}, (∀ d ∈ l, qh d) -> ∀ j (h : j < l.length) i, i < 32 -> (l.flatMap zn)[j * 32 + i]? = (zn l[j])[i]?
 | [], _, j, h, _, _ => by simp at h
 | d :: l, hw, 0, _, i, hi => by
  rw [List.flatMap_cons, List.getElem?_append_left (by rw [zcq (hw d (by simp))]; omega)]
  simp
 | d :: l, hw, j + 1, h, i, hi => by
  have hl := zcq (hw d (by simp))
  rw [List.flatMap_cons, List.getElem?_append_right (by rw [hl]; omega), hl, show (j + 1) * 32 + i - 32 = j * 32 + i by omega]
  rw [zpl (fun c hc => hw c (by simp [hc])) j (by simpa using h) i hi]
  simp
theorem Digs.wf {w : World} {v : Value} {l : List (List Int)} (h : Digs w v l) : ∀ d ∈ l, qh d := by
 obtain ⟨a, cap, e, hc⟩ := h
 intro d hd
 obtain ⟨j, hj, rfl⟩ := List.getElem_of_mem hd
 exact (hc j hj).1
theorem digIE3 : ∃ ie z, Tryz.prog.info? 26 = some ie /\ ie.zero = some z /\ ie.size = 32 /\ ie.bytes = 32 /\ z.cells.size = 32 := by
 have h : (match Tryz.prog.info? 26 with | some i => i.size == 32 && (i.bytes == 32 && (match i.zero with | some z => z.cells.size == 32 | none => false)) | none => false) = true := by kernel_rfl
 cases hq : Tryz.prog.info? 26 with
 | none => rw [hq] at h; cases h
 | some i =>
  exact zvk
theorem row_digs {w : World} {N : Nat} {v : Value} {l : List (List Int)} (h : w.ownsRow N 26 32 v l.length (l.flatMap zn)) (hw : ∀ d ∈ l, qh d) : Digs w v l := by
 rcases h.2 with ⟨rfl, h0⟩ | ⟨g, cap, cur, rfl, _, hg, g0⟩
 ·exact ⟨none, 0, by rw [h0], fun j hj => by omega⟩
 ·refine ⟨_, cap, rfl, fun j hj => ⟨hw _ (List.getElem_mem hj), g, 0, rfl, ⟨_, _, hg⟩, fun i u hu => ?_⟩⟩
  have g1 := zcq (hw _ (List.getElem_mem hj))
  have hi : i < 32 := by have := (List.getElem?_eq_some_iff.1 hu).1; omega
  have := World.ownsRow.cellAt h (j * 32 + i) (by omega)
  rw [Nat.zero_add, this, zpl hw j hj i hi]
  exact hu
theorem ku {ops : Array Oper} {o : Oper} {a : Act} {w : World} {K : Act -> Prop} {E : Prop} (hw : Region.wanted o (yielded ops a.tmps) = true) (x : Operand) (ho : o.op = .load 26 x)
  (b off : Nat) (hx : a.eval x = .pointer (some ⟨b, off, none⟩)) (d : List Int) (hd : qh d) (hr : w.rangeAt b off (zn d)) (h : K (a.put o.dst (.agg (dcells d)))) :
  if Region.wanted o (yielded ops a.tmps) = true then o.still Tryz.prog a w K else E := by
 rw [if_pos hw]
 unfold Oper.still execOp
 have hl : (Instr.loadAt 26 (.pointer (some ⟨b, off, none⟩))).run Tryz.prog w = .ok (.agg (dcells d)) w := run_loadAt_mid w b off _ (zn d) _ hr Tryz.underlying26 rfl (by rw [yj, zcq hd])
 simp only [ho, hx, Sem.run_bind, hl, Result.andThen_ok, Sem.run_pure, Oper.stillUpon_value]
 exact h
theorem zjh {ops : Array Oper} {o : Oper} {a : Act} {w : World} {K : Act -> Prop} {E : Prop} (hw : Region.wanted o (yielded ops a.tmps) = true) (x y : Operand) (ho : o.op = .binOp .neq 26 x y 26)
  (c d : List Int) (hc : qh c) (hd : qh d) (hx : a.eval x = .agg (dcells c)) (hy : a.eval y = .agg (dcells d)) (h : K (a.put o.dst (.bool (!decide (c = d))))) :
  if Region.wanted o (yielded ops a.tmps) = true then o.still Tryz.prog a w K else E := by
 rw [if_pos hw]
 unfold Oper.still execOp
 simp only [ho, hx, hy, Sem.run_bind, run_eqGuard_agg w .neq 26 x y _ _ kr, Result.andThen_ok, run_neq_struct, zmr hc.1 hc.2 hd.1 hd.2, Sem.run_pure, Oper.stillUpon_value]
 exact h
theorem zry (v v' : Value) (l : List (List Int)) (w : World) (hv : Digs w v l) (g5 : Digs w v' l) (hl : l.length ≤ 100000) :
  Calls Tryz.prog 65 #[v, v'] w fun e w' => e = .returned (.bool true) /\ Below w.heap.size w w' := by
 obtain ⟨va, vc, rfl, g1⟩ := hv
 obtain ⟨va', vc', rfl, g0⟩ := g5
 have HA := zu8 g1
 have g6 := zu8 g0
 clear g1 g0
 go_enter Tryz.func65, Tryz.ntmps65
 go_wp2
 go_loopw [5] (fun jv wx => ∃ j : Nat, j ≤ l.length /\ jv = .int .i64 j /\ Below w.heap.size w wx) (fun jv _ => l.length - (intOf jv).toNat)
 case atStart => exact ⟨0, Nat.zero_le _, rfl, zvb _ _⟩
 case round =>
  obtain ⟨j, hj, rfl, g2⟩ := hrel
  have HBX := zu8 g2
  clear g2
  by_cases hlt : j < l.length
  ·obtain ⟨g3, g, off, rfl, g9, hc⟩ := HA.out j hlt
   obtain ⟨_, g', off', rfl, g8, g4⟩ := g6.out j hlt
   have HD := zu8 g3
   have HR := zu8 (zi (zi hc HBX.out) (zvb _ wr).drew)
   have g7 := zu8 (zi (zi g4 HBX.out) (zvb _ wr).drew)
   have h0 : (0 : Int) ≤ (j : Int) := by omega
   have h1 : (j : Int) < (l.length : Int) := by omega
   clear hc g4 g3
   generalize l[j] = d at *
   go_wp2
   refine wp_region_still_lit (by kernel_rfl) (by kernel_rfl) ?_
   still_step
   still_step
   still_step
   refine wpStill_step (fun K hK => ?_)
   refine ku rfl (.tmp 19) rfl g (off + j * 32) rfl d HD.out HR.out (hK _ ?_)
   clear hK K
   still_step
   still_step
   still_step
   refine wpStill_step (fun K hK => ?_)
   refine ku rfl (.tmp 23) rfl g' (off' + j * 32) rfl d HD.out g7.out (hK _ ?_)
   clear hK K
   refine wpStill_step (fun K hK => ?_)
   refine zjh rfl (.tmp 20) (.tmp 24) rfl d d HD.out HD.out rfl rfl (hK _ ?_)
   clear hK K
   refine wpStill_nil ?_
   have HBD := zu8 HBX.out.drew
   change Exit.then _ _ _ _ wr.drew
   rw [decide_eq_true (rfl : d = d)]
   go_wp2
   go_roundw
   case rel => exact ⟨j + 1, by omega, by go_num, HBD.out⟩
   case measure => simp [intOf]; omega
  ·obtain rfl : j = l.length := by omega
   go_wp2
   go_ret
   exact ⟨ze rfl, HBX.out⟩
theorem zn4 (c : Int) (s : ByteArray) (sev : Int) (v v' : Value) (l : List (List Int)) (w : World) (hv : Digs w v l) (g0 : Digs w v' l) (hl : l.length ≤ 100000) :
  Calls Tryz.prog 37 #[.agg #[.int .i64 c, .string s, .int .i64 sev, v], .agg #[.int .i64 c, .string s, .int .i64 sev, v']] w fun e w' => e = .returned (.bool true) /\ Below w.heap.size w w' := by
 have HV := zu8 hv
 have g1 := zu8 g0
 obtain ⟨va, vc, rfl, _⟩ := hv
 obtain ⟨va', vc', rfl, _⟩ := g0
 go_enter Tryz.func37, Tryz.ntmps37
 go_wp2_with fail
 have hb : Below w.heap.size w ((w.alloc (.cells #[.int .i64 c, .string s, .int .i64 sev, .slice va l.length vc] 63)).alloc (.cells #[.int .i64 c, .string s, .int .i64 sev, .slice va' l.length vc'] 63)) := ((zvb _ w).alloc (zva _) _).alloc (by simp) _
 have HB := zu8 hb
 clear hb
 refine (zry _ _ l _ (HV.out.below HB.out) (g1.out.below HB.out) hl).mono ?_
 rintro e w' ⟨rfl, hb⟩
 have HB2 := zu9 HB hb
 clear hb
 go_wp2
 go_ret
 exact ⟨ze rfl, HB2.out⟩
theorem zgl (s : ByteArray) (w : World) :
  Calls Tryz.prog 234 #[.string s] w fun e w' => e = .returned (.string ⟨(V.value s.data.toList).toArray⟩) /\ w = w' := by
 go_enter Tryz.func234, Tryz.ntmps234
 go_wp2_with fail
 refine (Tryz.strings_TrimLeft_one s 48 (by decide) _).mono ?_
 rintro e w' ⟨rfl, rfl⟩
 go_wp2
 go_ret
 exact ⟨rfl, rfl⟩
theorem zw1 {P : Prop} (h : P := by
 clear h0
 go_wp2
 go_round
 case rel => exact ⟨k + 1, by omega, by go_num, HR.out⟩
 case measure => simp [intOf]; omega) : P := h
theorem zm4 (b : Nat) (xs : List Int) (w : World) (hx : xs.length ≤ 100)
  (hc : ∀ j, j < xs.length -> w.cell? ⟨b, j, none⟩ = some (.int .i64 (xs.getD j 0))) :
  Calls Tryz.prog 152 #[.slice (some ⟨b, 0, none⟩) xs.length xs.length] w fun e w' => e = .returned (.int .i64 (V.orI xs)) /\ w = w' := by
 have HC := zu8 hc
 clear hc
 go_enter Tryz.func152, Tryz.ntmps152
 go_wp2
 go_loop [8] (fun i => ∃ k : Nat, k ≤ xs.length /\ i = .int .i64 k /\ ∀ j, j < k -> xs.getD j 0 = 0) (fun i => xs.length - (intOf i).toNat)
 case atStart => exact ⟨0, Nat.zero_le _, rfl, fun j hj => by omega⟩
 case round =>
  obtain ⟨k, hk, rfl, hz⟩ := hrel
  have HZ := zu8 hz
  clear hz
  by_cases hlt : k < xs.length
  ·have hcell := HC.out k hlt
   by_cases h0 : xs.getD k 0 = 0
   ·have HR : Hid (∀ j, j < k + 1 -> xs.getD j 0 = 0) := fun j hj => by
     by_cases e : j = k
     ·subst e; exact h0
     ·exact HZ.out j (by omega)
    rw [h0] at hcell
    exact zw1
   ·have HR : Hid (V.orI xs = xs.getD k 0) := by
     refine zu8 ?_
     rw [V.zc5 xs k HZ.out]
     have e : xs.drop k = xs.getD k 0 :: xs.drop (k + 1) := by
      rw [List.drop_eq_getElem_cons hlt]; simp [List.getD, List.getElem?_eq_getElem hlt]
     rw [e]; unfold V.orI V.cor; rw [if_neg h0]
    have hb : (xs.getD k 0 != 0) = true := by simpa using h0
    generalize xs.getD k 0 = x at *
    clear h0
    go_wp2
    go_ret
    exact ⟨zu HR.out.symm, rfl⟩
  ·have HR : Hid (V.orI xs = 0) := by
       refine zu8 ?_
       rw [V.zc5 xs k HZ.out, List.drop_of_length_le (by omega)]; rfl
   go_wp2
   go_ret
   exact ⟨zu HR.out.symm, rfl⟩
open Go.RowKit
theorem zyl {P : Prop} (h : P := by
 intro j hj
 rw [World.cell?_alloc_new]
 have : j = 0 ∨ j = 1 := by simp at hj; omega
 rcases this with rfl | rfl <;> rfl) : P := h
theorem vt (s t : ByteArray) (w : World) :
  Calls Tryz.prog 229 #[.string s, .string t] w fun e w' => e = .returned (.int .i64 (V.numbers s.data.toList t.data.toList)) /\ Below w.heap.size w w' := by
 have HF : Hid (V.numbers s.data.toList t.data.toList = V.orI [Lib.compareInt (V.value s.data.toList).length (V.value t.data.toList).length, Lib.compareBytes (V.value s.data.toList) (V.value t.data.toList)]) := zu8 (by
   unfold V.numbers V.orI V.orI V.orI V.cor; split <;> simp)
 go_enter Tryz.func229, Tryz.ntmps229
 go_wp2_with fail
 refine (zgl s _).mono ?_
 rintro e w' ⟨rfl, rfl⟩
 go_wp2_with fail
 refine (zgl t _).mono ?_
 rintro e w' ⟨rfl, rfl⟩
 generalize V.value s.data.toList = x at *
 generalize V.value t.data.toList = y at *
 go_wp2_with fail
 refine (Tryz.cmp_Compare_int _ _ _).mono ?_
 rintro e w' ⟨rfl, rfl⟩
 go_wp2_with fail
 refine (Tryz.strings_Compare _ _ _).mono ?_
 rintro e w' ⟨rfl, rfl⟩
 go_wp2_with fail
 generalize Lib.compareInt _ _ = p at *
 generalize Lib.compareBytes _ _ = q at *
 refine (zm4 _ [p, q] _ (by simp) ?_).mono ?_
 ·exact zyl
 rintro e w' ⟨rfl, rfl⟩
 go_wp2
 go_ret
 exact ⟨zu HF.out.symm, (zvb _ _).alloc (zva _) _⟩
theorem zik (s t : ByteArray) (w : World) (hs : s.size ≤ maxLen) (ht : t.size ≤ maxLen) :
  Calls Tryz.prog 231 #[.string s, .string t] w fun e w' => e = .returned (.int .i64 (V.jt s.data.toList t.data.toList)) /\ Below w.heap.size w w' := by
 have HF : Hid (V.jt s.data.toList t.data.toList = if V.digits s.data.toList && V.digits t.data.toList then V.numbers s.data.toList t.data.toList else if V.digits s.data.toList then -1 else if V.digits t.data.toList then 1 else Lib.compareBytes s.data.toList t.data.toList) := rfl
 rcases hx : V.digits s.data.toList with _ | _ <;> rcases hy : V.digits t.data.toList with _ | _
 all_goals
  have HX := zu8 hx
  have HY := zu8 hy
  clear hx hy
  rw [HX.out, HY.out] at HF
  go_enter Tryz.func231, Tryz.ntmps231
  go_wp2_with fail
  refine (xt s _ hs).mono ?_
  rintro e w' ⟨rfl, rfl⟩
  simp only [HX.out]
  go_wp2_with fail
  refine (xt t _ ht).mono ?_
  rintro e w' ⟨rfl, rfl⟩
  simp only [HY.out]
  go_wp2_with fail
 ·refine (Tryz.strings_Compare _ _ _).mono ?_
  rintro e w' ⟨rfl, rfl⟩
  go_wp2
  go_ret
  exact ⟨zu HF.out.symm, zvb _ _⟩
 ·go_ret
  exact ⟨zu HF.out.symm, zvb _ _⟩
 ·go_ret
  exact ⟨zu HF.out.symm, zvb _ _⟩
 ·refine (vt _ _ _).mono ?_
  rintro e w' ⟨rfl, hb⟩
  go_wp2
  go_ret
  exact ⟨zu HF.out.symm, hb⟩
theorem wv {f : V.Bs -> V.Bs -> Int} : ∀ (k : Nat) (l1 l2 : List V.Bs), k ≤ l1.length -> k ≤ l2.length -> (∀ j, j < k -> f (l1.getD j []) (l2.getD j []) = 0) -> V.jb f l1 l2 = V.jb f (l1.drop k) (l2.drop k)
 | 0, _, _, _, _, _ => rfl
 | k + 1, [], _, h, _, _ => by simp at h
 | k + 1, _ :: _, [], _, h, _ => by simp at h
 | k + 1, a :: l1, b :: l2, h1, h2, h => by
  have h0 : f a b = 0 := h 0 (by omega)
  rw [V.jb, h0]
  exact wv k l1 l2 (by simpa using h1) (by simpa using h2) (fun j hj => h (j + 1) (by omega))
theorem zhb {f : V.Bs -> V.Bs -> Int} (k : Nat) (l1 l2 : List V.Bs) (h1 : k < l1.length) (h2 : k < l2.length) (h : ∀ j, j < k -> f (l1.getD j []) (l2.getD j []) = 0) (h0 : f (l1.getD k []) (l2.getD k []) ≠ 0) :
  V.jb f l1 l2 = f (l1.getD k []) (l2.getD k []) := by
 rw [wv k l1 l2 (by omega) (by omega) h, List.drop_eq_getElem_cons h1, List.drop_eq_getElem_cons h2]
 have e1 : l1.getD k [] = l1[k] := by simp [List.getD, List.getElem?_eq_getElem h1]
 have e2 : l2.getD k [] = l2[k] := by simp [List.getD, List.getElem?_eq_getElem h2]
 rw [e1, e2] at h0 ⊢
 rw [V.jb, V.js h0]
theorem zfa {f : V.Bs -> V.Bs -> Int} (k : Nat) (l1 l2 : List V.Bs) (h1 : k < l1.length) (h2 : l2.length = k) (h : ∀ j, j < k -> f (l1.getD j []) (l2.getD j []) = 0) : V.jb f l1 l2 = 1 := by
 rw [wv k l1 l2 (by omega) (by omega) h, List.drop_eq_getElem_cons h1, List.drop_of_length_le (l := l2) (by omega)]; rfl
theorem zem {f : V.Bs -> V.Bs -> Int} (k : Nat) (l1 l2 : List V.Bs) (h1 : l1.length = k) (h2 : k ≤ l2.length) (h : ∀ j, j < k -> f (l1.getD j []) (l2.getD j []) = 0) : V.jb f l1 l2 = if k < l2.length then -1 else 0 := by
 rw [wv k l1 l2 (by omega) (by omega) h, List.drop_of_length_le (by omega)]
 by_cases hlt : k < l2.length
 ·rw [List.drop_eq_getElem_cons hlt, if_pos hlt]; rfl
 ·rw [List.drop_of_length_le (by omega), if_neg hlt]; rfl
theorem zcy (v1 v2 : Value) (l1 l2 : List V.Bs) (K : Nat) (cap : Array Value) (f : V.Bs -> V.Bs -> Int) (w : World) (h1 : Strs w v1 l1) (h2 : Strs w v2 l2)
  (n1 : l1.length ≤ 2000) (_n2 : l2.length ≤ 2000) (m1 : ∀ x ∈ l1, x.length ≤ 1000) (m2 : ∀ x ∈ l2, x.length ≤ 1000)
  (eg : ∀ args w, (callFunc K args).run Tryz.prog w = .ok (.enter K args) w)
  (hK : ∀ (a b : V.Bs) W, a.length ≤ 1000 -> b.length ≤ 1000 -> Calls Tryz.prog K (#[.string ⟨a.toArray⟩, .string ⟨b.toArray⟩] ++ cap) W fun e w' => e = .returned (.int .i64 (f a b)) /\ Below W.heap.size W w') :
  Calls Tryz.prog 230 #[v1, v2, .func (.func K) #[] cap] w fun e w' => e = .returned (.int .i64 (V.jb f l1 l2)) /\ Below w.heap.size w w' := by
 obtain ⟨a1, c1, rfl, hc1⟩ := h1
 obtain ⟨a2, c2, rfl, g2⟩ := h2
 have HK := zu8 hK
 have g4 := zu8 hc1
 have g5 := zu8 g2
 have M1 := zu8 m1
 have M2 := zu8 m2
 clear hK hc1 g2 m1 m2
 go_enter Tryz.func230, Tryz.ntmps230
 go_wp2
 go_loopw [13] (fun i wr => ∃ k : Nat, k ≤ l1.length /\ k ≤ l2.length /\ i = .int .i64 k /\ (∀ j, j < k -> f (l1.getD j []) (l2.getD j []) = 0) /\ Below w.heap.size w wr) (fun i _ => l1.length - (intOf i).toNat)
 case atStart => exact ⟨0, Nat.zero_le _, Nat.zero_le _, rfl, fun j hj => by omega, zvb _ _⟩
 case round =>
  obtain ⟨k, h3, hk2, rfl, hz, hB⟩ := hrel
  have HZ := zu8 hz
  have HB := zu8 hB
  clear hz hB
  by_cases hlt1 : k < l1.length
  ·obtain ⟨b1, o1, g3, hb1, g0⟩ := g4.out k hlt1
   have g6 := (HB.out.cell (p := ⟨b1, o1 + k, none⟩) hb1).trans g0
   rw [← jm hlt1] at g6
   by_cases hlt2 : k < l2.length
   ·obtain ⟨b2, o2, g7, hb2, g1⟩ := g5.out k hlt2
    have g8 := (HB.out.cell (p := ⟨b2, o2 + k, none⟩) hb2).trans g1
    rw [← jm hlt2] at g8
    have s1 := M1.out _ (List.getElem_mem hlt1)
    have s2 := M2.out _ (List.getElem_mem hlt2)
    rw [← jm hlt1] at s1
    rw [← jm hlt2] at s2
    have g9 := zu8 (zhb k l1 l2 hlt1 hlt2 HZ.out)
    have NEXT : Hid (f (l1.getD k []) (l2.getD k []) = 0 -> ∀ j, j < k + 1 -> f (l1.getD j []) (l2.getD j []) = 0) := zu8 (fun h0 j hj => by
      by_cases e : j = k
      · subst e; exact h0
      · exact HZ.out j (by omega))
    subst g3
    subst g7
    clear g0 g1
    generalize l1.getD k [] = x at *
    generalize l2.getD k [] = y at *
    go_wp2_with fail
    refine (HK.out x y _ s1 s2).mono ?_
    rintro e w1 ⟨rfl, hb⟩
    have HB1 := zu9 HB hb
    clear hb
    by_cases h0 : f x y = 0
    ·have HN := zu8 (NEXT.out h0)
     rw [h0]
     clear h0
     go_wp2
     go_roundw
     case rel => exact ⟨k + 1, by omega, by omega, by go_num, HN.out, HB1.out⟩
     case measure => simp [intOf]; omega
    ·have HN := zu8 (g9.out h0)
     have hb : (f x y != 0) = true := by simpa using h0
     generalize f x y = c at *
     clear h0
     go_wp2
     go_ret
     exact ⟨zu HN.out.symm, HB1.out⟩
   ·have HN := zu8 (zfa k l1 l2 hlt1 (by omega) HZ.out)
    subst g3
    clear g0
    go_wp2
    go_ret
    exact ⟨zu HN.out.symm, HB.out⟩
  ·have HN := zu8 (zem k l1 l2 (by omega) hk2 HZ.out)
   by_cases hlt2 : k < l2.length
   ·rw [if_pos hlt2] at HN
    go_wp2
    go_ret
    exact ⟨zu HN.out.symm, HB.out⟩
   ·rw [if_neg hlt2] at HN
    go_wp2
    go_ret
    exact ⟨zu HN.out.symm, HB.out⟩
open Go.RowKit
theorem zjs (a b : V.Bs) (W : World) (ha : a.length ≤ 1000) (hb : b.length ≤ 1000) : Calls Tryz.prog 231 (#[.string ⟨a.toArray⟩, .string ⟨b.toArray⟩] ++ #[]) W fun e w' => e = .returned (.int .i64 (V.jt a b)) /\ Below W.heap.size W w' := by
 have h := zik ⟨a.toArray⟩ ⟨b.toArray⟩ W (by show a.length ≤ _; unfold maxLen; omega) (by show b.length ≤ _; unfold maxLen; omega)
 simp only  at h
 exact h
theorem zjd (w : World) (a b c : Int) (t : TypeId) : ∀ j, j < [a, b, c].length -> (w.alloc (.cells #[.int .i64 a, .int .i64 b, .int .i64 c] t)).cell? ⟨w.heap.size, j, none⟩ = some (.int .i64 ([a, b, c].getD j 0)) := by
 intro j hj
 rw [World.cell?_alloc_new]
 have : j = 0 ∨ j = 1 ∨ j = 2 := by simp at hj; omega
 rcases this with rfl | rfl | rfl <;> rfl
theorem wu {s : V.Bs} {l pre : List V.Bs} (h : V.zo s = some (l, pre)) : pre.length ≤ s.length + 1 /\ ∀ x ∈ pre, x.length ≤ s.length := by
 unfold V.zo at h
 split at h
 ·cases h
 ·split at h
  ·simp only [Option.some.injEq, Prod.mk.injEq] at h
   obtain ⟨_, h⟩ := h
   have h1 := yg 43 s
   have h2 := yg 45 (V.cut1 43 s).1
   have h3 := jf 46 (V.cut1 45 (V.cut1 43 s).1).2.1
   split at h
   ·subst h
    exact ⟨by omega, fun x hx => by have := jx 46 _ x hx; omega⟩
   ·subst h; simp
  ·cases h
theorem zdy {W W' : World} {b o : Nat} {v : Value} (hb : Below W.heap.size W W') (h : W.cell? ⟨b, o, none⟩ = some v) : W'.cell? ⟨b, o, none⟩ = some v :=
 (hb.cell (p := ⟨b, o, none⟩) (World.block_lt_of_cell? _ _ h)).trans h
theorem zj5 {r : Option (List V.Bs × List V.Bs)} {l pre : List V.Bs} {x0 x1 x2 : V.Bs} {w : World} {e : Ending} {w' : World} (h : zh1 r w e w') (hr : r = some (l, pre)) (h0 : l.getD 0 [] = x0) (h1 : l.getD 1 [] = x1) (h2 : l.getD 2 [] = x2) :
  ∃ a cap, e = .returned (.tuple #[.agg #[.string ⟨x0.toArray⟩, .string ⟨x1.toArray⟩, .string ⟨x2.toArray⟩, .slice a pre.length cap], .bool true]) /\ Strs w' (.slice a pre.length cap) pre /\ Below w.heap.size w w' := by
 subst h0 h1 h2
 obtain ⟨pv, rfl, g0, hb⟩ := zfb h hr
 have g1 := g0
 obtain ⟨a, cap, rfl, hc⟩ := g0
 exact ⟨a, cap, rfl, g1, hb⟩
theorem zx1 {P : Prop} (h : P := by
 go_wp2_with fail
 refine (Tryz.cmp_Compare_int _ _ _).mono ?_
 rintro e wz ⟨rfl, rfl⟩
 go_wp2
 go_ret
 exact ⟨zu HF3.out.symm, HB4.out⟩) : P := h
theorem zif (s t : ByteArray) (la pa lb pb : List V.Bs) (w : World) (hm : zj w) (hs : s.size ≤ 1000) (ht : t.size ≤ 1000)
  (hp : V.zo s.data.toList = some (la, pa)) (hq : V.zo t.data.toList = some (lb, pb)) :
  Calls Tryz.prog 225 #[.agg #[], .string s, .string t] w fun e w' => e = .returned (.int .i64 (V.je (la, pa) (lb, pb))) /\ Below w.heap.size w w' := by
 obtain ⟨x0, g7⟩ : ∃ x, la.getD 0 [] = x := ⟨_, rfl⟩
 obtain ⟨x1, g8⟩ : ∃ x, la.getD 1 [] = x := ⟨_, rfl⟩
 obtain ⟨x2, g9⟩ : ∃ x, la.getD 2 [] = x := ⟨_, rfl⟩
 obtain ⟨y0, h1⟩ : ∃ x, lb.getD 0 [] = x := ⟨_, rfl⟩
 obtain ⟨y1, h2⟩ : ∃ x, lb.getD 1 [] = x := ⟨_, rfl⟩
 obtain ⟨y2, h3⟩ : ∃ x, lb.getD 2 [] = x := ⟨_, rfl⟩
 have HF : Hid (V.je (la, pa) (lb, pb) = V.cor (V.orI [V.numbers x0 y0, V.numbers x1 y1, V.numbers x2 y2]) (V.zcs pa pb)) := zu8 (by
   unfold V.je; simp only [g7, g8, g9, h1, h2, h3])
 have h4 : Below w.heap.size w (w.alloc (.cells #[] 203)) := (zvb _ w).alloc (zva _) _
 have j5 := hm.below h4
 have HP := zu8 hp
 have HQ := zu8 hq
 have HB0 := zu8 h4
 have HX0 := zu8 g7
 have HX1 := zu8 g8
 have HX2 := zu8 g9
 have k7 := zu8 h1
 have k8 := zu8 h2
 have k9 := zu8 h3
 clear hp hq h4 g7 g8 g9 h1 h2 h3
 go_enter Tryz.func225, Tryz.ntmps225
 go_wp2_with fail
 refine (zah s _ j5 hs).mono ?_
 rintro e w1 h
 obtain ⟨a, cap, rfl, j6, hb1⟩ := zj5 h HP.out HX0.out HX1.out HX2.out
 have h5 := HB0.out.trans (hb1.mono HB0.out.size)
 have HB1 := zu8 h5
 have j7 := hm.below h5
 have j8 := zu8 j6
 clear h hb1 j6 h5
 go_wp2_with fail
 have g6 : Below w1.heap.size w1 (w1.alloc (.cells #[.string ⟨x0.toArray⟩, .string ⟨x1.toArray⟩, .string ⟨x2.toArray⟩, .slice a pa.length cap] 260)) := (zvb _ _).alloc (zva _) _
 refine (zah t _ (j7.below g6) ht).mono ?_
 rintro e w2 h
 obtain ⟨a2, cap2, rfl, j9, hb2⟩ := zj5 h HQ.out k7.out k8.out k9.out
 have k0 : ∀ i, w2.cell? ⟨w1.heap.size, i, none⟩ = #[Value.string ⟨x0.toArray⟩, .string ⟨x1.toArray⟩, .string ⟨x2.toArray⟩, .slice a pa.length cap][i]? := qy hb2 (by simp) (fun i => by rw [zg, if_pos rfl])
 have h6 := g6.trans (hb2.mono g6.size)
 have k1 : w1.heap.size < w2.heap.size := Nat.lt_of_lt_of_le (by simp) hb2.size
 have h7 := zu8 (j8.out.below h6)
 have h8 := zu8 j9
 have HB2 := zu9 HB1 h6
 clear h hb2 j9 g6 h6 j8
 go_wp2_with fail
 obtain ⟨W3, g5⟩ : ∃ W3, W3 = w2.alloc (.cells #[.string ⟨y0.toArray⟩, .string ⟨y1.toArray⟩, .string ⟨y2.toArray⟩, .slice a2 pb.length cap2] 260) := ⟨_, rfl⟩
 rw [← g5]
 have hb3 : Below w2.heap.size w2 W3 := by rw [g5]; exact (zvb _ _).alloc (zva _) _
 have e : ∀ i, W3.cell? ⟨w1.heap.size, i, none⟩ = #[Value.string ⟨x0.toArray⟩, .string ⟨x1.toArray⟩, .string ⟨x2.toArray⟩, .slice a pa.length cap][i]? := qy hb3 k1 k0
 have g : ∀ i, W3.cell? ⟨w2.heap.size, i, none⟩ = #[Value.string ⟨y0.toArray⟩, .string ⟨y1.toArray⟩, .string ⟨y2.toArray⟩, .slice a2 pb.length cap2][i]? := fun i => by rw [g5, zg, if_pos rfl]
 have e0 := e 0
 have e1 := e 1
 have e2 := e 2
 have e3 := e 3
 have g0 := g 0
 have g1 := g 1
 have g2 := g 2
 have g3 := g 3
 simp at e0 e1 e2 e3 g0 g1 g2 g3
 have h9 := zu8 (h7.out.below hb3)
 have j0 := zu8 (h8.out.below hb3)
 have HB3 := zu9 HB2 hb3
 have q0 : w2.heap.size < W3.heap.size := by rw [g5]; simp
 have hz4 : w1.heap.size < W3.heap.size := by omega
 clear g5 hb3 e g k0 j5 j7 h7 h8 HB1 HB2 HB0
 go_region_held3 (fun W' => (W'.cell? ⟨w1.heap.size, 0, none⟩ = some (.string ⟨x0.toArray⟩) /\ W'.cell? ⟨w1.heap.size, 1, none⟩ = some (.string ⟨x1.toArray⟩) /\ W'.cell? ⟨w1.heap.size, 2, none⟩ = some (.string ⟨x2.toArray⟩) /\
     W'.cell? ⟨w2.heap.size, 0, none⟩ = some (.string ⟨y0.toArray⟩) /\ W'.cell? ⟨w2.heap.size, 1, none⟩ = some (.string ⟨y1.toArray⟩) /\ W'.cell? ⟨w2.heap.size, 2, none⟩ = some (.string ⟨y2.toArray⟩)))
  (first
    | go_keep
    | (go_split_ands
       refine ⟨?_, ?_, ?_, ?_, ?_, ?_⟩ <;> (refine zdy j1 ?_; first | assumption | (simp only [World.cell?_drew]; assumption))))
  (first
    | (go_at_call 229; refine (vt _ _ _).mono ?_; rintro e wq ⟨rfl, j1⟩)
    | (go_at_call 152; refine (zm4 _ [V.numbers x0 y0, V.numbers x1 y1, V.numbers x2 y2] _ (by simp) (zjd _ _ _ _ _)).mono ?_; rintro e wq ⟨rfl, rfl⟩))
 rename_i wa hba wb hbb hS
 have j2 : Below W3.heap.size W3 wq := ((zvb W3.heap.size W3).drew).trans (Below.trans (show Below W3.heap.size W3.drew wa from hba) ((hbb.trans (j1.mono hbb.size)).mono hba.size))
 obtain ⟨W4, j4⟩ : ∃ W4, W4 = wq.alloc (.cells #[.int .i64 (V.numbers x0 y0), .int .i64 (V.numbers x1 y1), .int .i64 (V.numbers x2 y2)] 3) := ⟨_, rfl⟩
 rw [← j4]
 have g4 : Below W3.heap.size W3 W4 := j2.trans (by rw [j4]; exact ((zvb wq.heap.size wq).alloc (zva _) _).mono j2.size)
 clear hba hbb j1 j2 j4 hS
 have k3 := zdy g4 e3
 have j3 := zdy g4 g3
 have k4 := zu8 (h9.out.below g4)
 have k5 := zu8 (j0.out.below g4)
 have HB4 := zu9 HB3 g4
 clear e0 e1 e2 e3 g0 g1 g2 g3 g4 h9 j0 HB3 k1 q0 hz4
 by_cases h0 : V.orI [V.numbers x0 y0, V.numbers x1 y1, V.numbers x2 y2] = 0
 ·have HF2 : Hid (V.je (la, pa) (lb, pb) = V.zcs pa pb) := zu8 (by rw [HF.out, h0]; rfl)
  rw [h0]
  clear h0
  have hP : Hid (V.zcs pa pb = if pa.isEmpty || pb.isEmpty then Lib.compareInt pb.length pa.length else V.jb V.jt pa pb) := rfl
  by_cases hpa : pa.length = 0
  ·have HF3 : Hid (V.je (la, pa) (lb, pb) = Lib.compareInt pb.length pa.length) := zu8 (by
     rw [HF2.out, hP.out, if_pos]; rw [List.eq_nil_of_length_eq_zero hpa]; rfl)
   have q1 : ((pa.length : Int) == 0) = true := by rw [hpa]; rfl
   clear hpa
   exact zx1
  ·have q1 : ((pa.length : Int) == 0) = false := by rw [zvc]; omega
   by_cases hpb : pb.length = 0
   ·have HF3 : Hid (V.je (la, pa) (lb, pb) = Lib.compareInt pb.length pa.length) := zu8 (by
      rw [HF2.out, hP.out, if_pos]; rw [List.eq_nil_of_length_eq_zero hpb]; simp)
    have k6 : ((pb.length : Int) == 0) = true := by rw [hpb]; rfl
    clear hpa hpb
    exact zx1
   ·have k6 : ((pb.length : Int) == 0) = false := by rw [zvc]; omega
    have HF3 : Hid (V.je (la, pa) (lb, pb) = V.jb V.jt pa pb) := zu8 (by
      rw [HF2.out, hP.out, if_neg]
      cases pa <;> cases pb <;> simp at hpa hpb ⊢)
    clear hpa hpb
    go_wp2_with fail
    refine (zcy _ _ pa pb 231 #[] V.jt _ k4.out k5.out ?_ ?_ ?_ ?_ (enters_of Tryz.func231 (by kernel_rfl) rfl) (fun x y W hx hy => zjs x y W hx hy)).mono ?_
    ·have := wu HP.out; rw [zh] at this; omega
    ·have := wu HQ.out; rw [zh] at this; omega
    ·intro x hx; have := (wu HP.out).2 x hx; rw [zh] at this; omega
    ·intro x hx; have := (wu HQ.out).2 x hx; rw [zh] at this; omega
    rintro e wz ⟨rfl, k2⟩
    have HB5 := zu9 HB4 k2
    clear k2
    go_wp2
    go_ret
    exact ⟨zu HF3.out.symm, HB5.out⟩
 ·have HF2 : Hid (V.je (la, pa) (lb, pb) = V.orI [V.numbers x0 y0, V.numbers x1 y1, V.numbers x2 y2]) := zu8 (by rw [HF.out, V.js h0])
  have hb : (V.orI [V.numbers x0 y0, V.numbers x1 y1, V.numbers x2 y2] != 0) = true := by simpa using h0
  generalize V.orI [V.numbers x0 y0, V.numbers x1 y1, V.numbers x2 y2] = c at *
  clear h0
  go_wp2
  go_ret
  exact ⟨zu HF2.out.symm, HB4.out⟩
end Go.Proofs.YtbikeahmldobkaaGreatDoor
