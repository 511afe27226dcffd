/-
  Lemmas for the law.
-/
import Derived.Test.YtbikeahmldobkaaGreatDoorC50x33
import Derived.Test.YtbikeahmldobkaaGreatDoorC50x18
import Derived.Test.YtbikeahmldobkaaGreatDoorC50x19
import Derived.Test.YtbikeahmldobkaaGreatDoorC50x10
import Derived.Test.YtbikeahmldobkaaGreatDoorC50x16
import Derived.Test.YtbikeahmldobkaaGreatDoorC50x22
import Derived.Test.YtbikeahmldobkaaGreatDoorC50x20
import Derived.Test.YtbikeahmldobkaaGreatDoorC50x17
import Derived.Deep.RegionHeld3
import Derived.StillTailTactics
import Derived.Outline
set_option linter.all false
set_option maxRecDepth 100000
set_option maxHeartbeats 3200000
namespace Go.Proofs.YtbikeahmldobkaaGreatDoor
open Go.RowKit
def zf4 (w : World) (v : Value) (us : List (V.Hit × Sd)) : Prop := GSl 4 hE w v us /\ ∀ p ∈ us, Digs w p.2.v p.1.docs
theorem HRow.list {N : Nat} {w : World} {v : Value} {us : List (V.Hit × Sd)} (h : HRow N w v us) : zf4 w v us := ⟨GRow.gsl uo h.row, h.each⟩
theorem zf4.below {w w' : World} {v : Value} {us : List (V.Hit × Sd)} (h : zf4 w v us) (hb : Below w.heap.size w w') : zf4 w' v us := ⟨h.1.below hb, fun p hp => (h.2 p hp).below hb⟩
structure UFix (d : List Int) (time : Int) (v : Value) (l : List V.Comp) (c : Int) (X O : Nat) (w : World) : Prop where
 m : zj w
 len : d.length = 32
 dig : ∀ n ∈ d, (Lit.int .u8 n).wf = true
 comps : Comps w v l
 lt : l.length ≤ 100000
 inv : w.heap[X]? = some (.cells (icells d time v) 29 (0, 0))
 cmp : w.heap[O]? = some (.cells #[.int .i64 c] 3 (0, 0))
theorem UFix.below {d : List Int} {time : Int} {v : Value} {l : List V.Comp} {c : Int} {X O : Nat} {w w' : World} (h : UFix d time v l c X O w) (hb : Below w.heap.size w w') : UFix d time v l c X O w' :=
 ⟨h.m.below hb, h.len, h.dig, h.comps.below hb, h.lt, (hb.block _ (Array.getElem?_eq_some_iff.1 h.inv).1).trans h.inv, (hb.block _ (Array.getElem?_eq_some_iff.1 h.cmp).1).trans h.cmp⟩
def outP (ok : Bool) (l : List V.Comp) (c : Int) (p : V.Hit × Sd) : Bool := !decide (c ∈ V.pathOf ok l p.1.comp)
theorem UFix.call {d : List Int} {time : Int} {v : Value} {l : List V.Comp} {c : Int} {X O : Nat} {w : World} (h : UFix d time v l c X O w) (p : V.Hit × Sd) :
  Calls Tryz.prog 41 #[.agg (hE p).toArray, .pointer (some ⟨X, 0, none⟩), .pointer (some ⟨O, 0, none⟩)] w fun e w' => e = .returned (.bool (outP (V.jo d time l) l c p)) /\ Below w.heap.size w w' :=
 zp9 d time v l c X O p.1 p.2 w h.m h.len h.dig h.comps h.lt h.inv h.cmp
theorem hidx_any (d : List Int) (time : Int) (v : Value) (l : List V.Comp) (c : Int) (X O : Nat) (hv : Value) (us : List (V.Hit × Sd)) (w : World) (hf : UFix d time v l c X O w) (hr : GSl 4 hE w hv us) (hl : us.length ≤ 1000000) :
  Calls Tryz.prog 78 #[hv, .func (.func 41) #[] #[.pointer (some ⟨X, 0, none⟩), .pointer (some ⟨O, 0, none⟩)]] w fun e w' => ∃ i : Int, e = .returned (.int .i64 i) /\ Below w.heap.size w w' /\
   ((i = -1 /\ ∀ x ∈ us, outP (V.jo d time l) l c x = false) ∨ ∃ (j : Nat) (h : j < us.length), i = j /\ (∀ x ∈ us.take j, outP (V.jo d time l) l c x = false) /\ outP (V.jo d time l) l c us[j] = true) := by
 have HF := zwg hf
 have HR := zwg hr
 obtain ⟨va, vc, rfl⟩ := hr.slice
 generalize hok : V.jo d time l = ok at *
 have HOK := zwg hok
 clear hf hr hok
 go_enter Tryz.func78, Tryz.ntmps78
 go_wp2
 go_loopw [8] (fun jv wx => ∃ j : Nat, j ≤ us.length /\ jv = .int .i64 j /\ (∀ x ∈ us.take j, outP ok l c x = false) /\ Below w.heap.size w wx) (fun jv _ => us.length - (intOf jv).toNat)
 case atStart => exact ⟨0, Nat.zero_le _, rfl, by simp, zwj _ _⟩
 case round =>
  obtain ⟨j, hj, rfl, g2, g0⟩ := hrel
  have HBX := zwg g0
  have g1 := zwg g2
  clear g2
  by_cases hlt : j < us.length
  ·obtain ⟨g, off, rfl, hg, hc⟩ := HR.out.at j hlt
   have HLT := zwg hlt
   obtain ⟨p, hp⟩ : ∃ p : V.Hit × Sd, p = us[j] := ⟨_, rfl⟩
   have g3 : Hid (wr.rangeAt g (off + j * 4) (hE p)) := zwg (by rw [hp]; exact zk (fun i u hu => hc i u hu) g0)
   have g4 := zwg (HF.out.below g0)
   have HTS : Hid (outP ok l c p = false -> ∀ x ∈ us.take (j + 1), outP ok l c x = false) := zwg (fun h2 x hx => by
     rw [List.take_succ_eq_append_getElem hlt, List.mem_append, List.mem_singleton] at hx
     rcases hx with hx | hx
     · exact g1.out x hx
     · exact (congrArg (outP ok l c) (hx.trans hp.symm)).trans h2)
   have HEQ : Hid (outP ok l c p = true -> ∃ (i : Nat) (h : i < us.length), (j : Int) = i /\ (∀ x ∈ us.take i, outP ok l c x = false) /\ outP ok l c us[i] = true) := zwg (fun h2 => ⟨j, hlt, rfl, g1.out, (congrArg (outP ok l c) hp.symm).trans h2⟩)
   have i1 : (0 : Int) ≤ (j : Int) := by omega
   have i2 : (j : Int) < (us.length : Int) := by omega
   clear g0 hc hp
   go_wp2_with (first | (refine zkw uo zjw Tryz.underlying63 rfl rfl _ rfl g (off + j * 4) rfl p g3.out ?_) | fail)
   refine (g4.out.call p).mono ?_
   rw [HOK.out]
   rintro e w1 ⟨rfl, hb1⟩
   have HB1 := zwh HBX hb1
   clear hb1
   rcases hq : outP ok l c p with _ | _
   ·have HQ := zwg (HTS.out hq)
    clear hq
    go_wp2
    go_roundw
    case rel => exact ⟨j + 1, by omega, by go_num, HQ.out, HB1.out⟩
    case measure => simp [intOf]; omega
   ·have HQ := zwg (HEQ.out hq)
    clear hq
    go_wp2
    go_ret
    exact ⟨j, rfl, HB1.out, .inr HQ.out⟩
  ·obtain rfl : j = us.length := by omega
   have HN : Hid (∀ x ∈ us, outP ok l c x = false) := zwg (by have := g1.out; rwa [List.take_length] at this)
   clear g0
   go_wp2
   go_ret
   exact ⟨-1, rfl, HBX.out, .inl ⟨rfl, HN.out⟩⟩
theorem zvz {ops : Array Oper} {rest : List Oper} {o : Oper} {a : Act} {w : World} {Q : Exit -> Act -> World -> Prop} (g5 : o.guard = none) (x : Operand) (ho : o.op = .call { callee := .builtin .clear, args := #[x], argTypes := #[35] })
  (g cap n m : Nat) (l : List (V.Hit × Sd)) (hr : ERow 63 4 hE w g l) (hn : n + m = l.length) (g7 : 0 < n) (hx : a.eval x = .slice (some ⟨g, m * 4, none⟩) n cap)
  (h : ∀ W, ERow 63 4 hE W g (l.take m) -> w.grownBy W (some g) -> wpList Tryz.prog ops Q rest (a.put o.dst (.tuple #[])) W) : wpList Tryz.prog ops Q (o :: rest) a w := by
 obtain ⟨z, hz⟩ : ∃ z : Array Value, z = (hE (⟨0, [], 0, []⟩, ⟨none, 0, 0⟩)).toArray := ⟨_, rfl⟩
 have g6 : ∀ w, (zeroValue 63).run Tryz.prog w = .ok (.agg z) w := by
  intro w; rw [hz]; exact Tryz.zeroValue63 w
 have g3 : ∀ v ∈ (Builtin.zeroCells z n).toList, v.oneCell' = true := fun v hv => by
  unfold Builtin.zeroCells at hv
  rw [Array.mem_toList_iff, Array.mem_map] at hv
  obtain ⟨i, _, rfl⟩ := hv
  have hs : z.size = 4 := by rw [hz]; rfl
  rw [getElem!_pos _ _ (by rw [hs]; omega)]
  subst hz
  exact zje (⟨0, [], 0, []⟩, ⟨none, 0, 0⟩) _ (by simp)
 have g0 : (Builtin.zeroCells z n).toList.length = n * 4 := by
  unfold Builtin.zeroCells
  rw [hz]; simp [hE]
 have g4 : (Builtin.clear_ #[35] o.type #[.slice (some ⟨g, m * 4, none⟩) n cap]).run Tryz.prog w = .ok (.tuple #[]) (w.setCells g (m * 4) (Builtin.zeroCells z n).toList) := by
  have g1 : ∀ j, j < n * 4 -> (w.cell? ⟨g, m * 4 + j, none⟩).isSome = true /\ w.frozen? ⟨g, m * 4 + j, none⟩ = false := fun j hj => by
   obtain ⟨cs, hg, hs, _⟩ := hr
   exact zy7
  have g2 := run_storeCells_cells (P := Tryz.prog) g (m * 4) (Builtin.zeroCells z n).toList 0 w (fun j hj => (g1 j (by rw [g0] at hj; exact hj)).1) (fun j hj => (g1 j (by rw [g0] at hj; exact hj)).2) g3
  simp only [Nat.add_zero] at g2
  obtain ⟨n', rfl⟩ : ∃ n', n = n' + 1 := ⟨n - 1, by omega⟩
  simp [Builtin.clear_, run_underlying Tryz.underlying35, g6, g2, Value.cells]
 refine wpList_plain g5 fun K hK => ?_
 unfold Oper.wp execOp
 simp only [ho, resolve, invoke, builtin, Sem.run_bind, Sem.run_pure, Result.andThen_ok, List.map_toArray, List.map_cons, List.map_nil, hx, g4]
 exact hK _ _ (h _ (hr.tail uo (by omega) _) (uk g _ _ w))
theorem zbw {α : Type} {p : α -> Bool} {us : List α} {j : Nat} (h : j < us.length) : (us.take (j + 1)).filter p = (us.take j).filter p ++ if p us[j] = true then [us[j]] else [] := by
 rw [List.take_succ_eq_append_getElem h, List.filter_append]
 congr 1
 by_cases e : p us[j] = true
 ·rw [if_pos e, List.filter_cons, if_pos e]; rfl
 ·rw [if_neg e, List.filter_cons, if_neg e]; rfl
theorem hdel_any (d : List Int) (time : Int) (v : Value) (l : List V.Comp) (c : Int) (X O : Nat) (hv : Value) (us : List (V.Hit × Sd)) (W0 w : World) (hf : UFix d time v l c X O W0) (hb : Below W0.heap.size W0 w) (hr : HRow W0.heap.size w hv us) (hl : us.length ≤ 1000000) :
  Calls Tryz.prog 44 #[hv, .func (.func 41) #[] #[.pointer (some ⟨X, 0, none⟩), .pointer (some ⟨O, 0, none⟩)]] w fun e w' => ∃ v', e = .returned v' /\ zf4 w' v' (us.filter fun x => !outP (V.jo d time l) l c x) /\ Below W0.heap.size W0 w' := by
 have HF := zwg hf
 have HB := zwg hb
 have HR := zwg hr
 obtain ⟨va, vc, rfl⟩ := hr.row.slice
 generalize hok : V.jo d time l = ok at *
 have HOK := zwg hok
 clear hf hb hr hok
 go_enter Tryz.func44, Tryz.ntmps44
 go_wp2_with fail
 refine (hidx_any d time v l c X O _ us w (HF.out.below HB.out) (GRow.gsl uo HR.out.row) hl).mono ?_
 rw [HOK.out]
 rintro e w1 ⟨i, rfl, hb1, hi⟩
 have HB1 := zwh HB hb1
 have g9 := zwg (HR.out.below hb1)
 clear hb1
 rcases hi with ⟨rfl, hi⟩ | ⟨j0, h0, rfl, hi, hp⟩
 ·have HE : Hid ((us.filter fun x => !outP ok l c x) = us) := zwg (List.filter_eq_self.2 (fun x hx => by rw [hi x hx]; rfl))
  clear hi
  go_wp2
  go_ret
  exact ⟨_, rfl, by rw [HE.out]; exact g9.out.list, HB1.out⟩
 ·rcases GRow.row uo g9.out.row with ⟨_, e⟩ | ⟨g, cap, h5, hN, k8, g0⟩
  ·subst e; simp at h0
  ·obtain ⟨e1, _, e3⟩ := Value.slice.inj h5
   subst e1 e3
   have g1 := zwg g0
   have h6 : Hid ((us.take (j0 + 1)).filter (fun x => !outP ok l c x) = us.take j0) := zwg (by
     rw [zbw h0, if_neg (by rw [hp]; simp), List.append_nil]
     exact List.filter_eq_self.2 (fun x hx => by rw [hi x hx]; rfl))
   have HN := zwg hN
   have HT1 : Hid (∃ cs, w1.heap[g]? = some (.cells cs 63 (0, 0))) := zwg (by obtain ⟨cs, h1, _⟩ := g0; exact ⟨cs, h1⟩)
   have k9 : j0 < 1000000 := by omega
   have j1 : ((j0 : Int) == -1) = false := by rw [zwk]; omega
   clear h5 hi hp g0 hN
   go_wp2_with fail
   go_loopw [5, 6] (fun iv jv wx => ∃ (q j : Nat) (cur : List (V.Hit × Sd)), q < j /\ j ≤ us.length /\ iv = .int .i64 q /\ jv = .int .i64 j /\ cur.length = us.length /\ ERow 63 4 hE wx g cur /\ cur.take q = (us.take j).filter (fun x => !outP ok l c x) /\ (∀ i (h : i < cur.length) (h' : i < us.length), j ≤ i -> cur[i] = us[i]) /\ w1.grownBy wx (some g)) (fun _ jv _ => us.length - (intOf jv).toNat)
   case atStart => exact ⟨j0, j0 + 1, us, Nat.lt_succ_self _, h0, rfl, by go_num, rfl, g1.out, h6.out.symm, fun _ _ _ _ => rfl, vt _ _⟩
   case round =>
    clear h6 g1
    obtain ⟨q, j, cur, q0, hj, rfl, rfl, h7, g0, h8, g6, h2⟩ := hrel
    have g1 := zwg g0
    have HTK := zwg h8
    have g3 := zwg h7
    have g2 := zwg g6
    have h9 := zwg h2
    have k2 : Hid (Below W0.heap.size W0 wr) := zwg (HB1.out.grown h2 HB1.out.size (fun b e => by cases e; exact HN.out))
    clear g0 h8 h7 g6 h2
    by_cases hlt : j < us.length
    ·have hjc : j < cur.length := by rw [g3.out]; exact hlt
     obtain ⟨p, hp⟩ : ∃ p : V.Hit × Sd, p = us[j] := ⟨_, rfl⟩
     have j5 : cur[j] = p := (g2.out j hjc hlt (zwi _)).trans hp.symm
     have g4 : wr.rangeAt g (j * 4) (hE p) := by rw [← j5]; exact g1.out.at uo hjc
     have h3 : q < cur.length := by omega
     have k3 := zwg h3
     have HTS : Hid ((us.take (j + 1)).filter (fun x => !outP ok l c x) = cur.take q ++ if (!outP ok l c p) = true then [p] else []) := zwg (by rw [zbw hlt, HTK.out, hp])
     have j9 : Hid ((cur.set q p).take (q + 1) = cur.take q ++ [p]) := zwg (by
       rw [List.take_succ_eq_append_getElem (by rw [List.length_set]; exact h3), List.take_set_of_le (zwi _), List.getElem_set_self])
     have k4 : Hid (∀ i (h : i < (cur.set q p).length) (h' : i < us.length), j + 1 ≤ i -> (cur.set q p)[i] = us[i]) := zwg (fun i h h' hi => by
       rw [List.getElem_set_ne (by omega)]
       exact g2.out i (by rw [List.length_set] at h; exact h) h' (by omega))
     have k0 : Hid (∀ i (h : i < cur.length) (h' : i < us.length), j + 1 ≤ i -> cur[i] = us[i]) := zwg (fun i h h' hi => g2.out i h h' (by omega))
     have k1 : Hid ((cur.set q p).length = us.length) := zwg (by rw [List.length_set]; exact g3.out)
     clear hp j5 h3
     obtain ⟨⟨a0, b0, s0, dc⟩, ⟨sa, sn, sc⟩⟩ := p
     have e0 : wr.cell? ⟨g, j * 4, none⟩ = some (.int .i64 a0) := g4 0 _ rfl
     have e1 : wr.cell? ⟨g, j * 4 + 1, none⟩ = some (.string ⟨b0.toArray⟩) := g4 1 _ rfl
     have e2 : wr.cell? ⟨g, j * 4 + 2, none⟩ = some (.int .i64 s0) := g4 2 _ rfl
     have e3 : wr.cell? ⟨g, j * 4 + 3, none⟩ = some (.slice sa sn sc) := g4 3 _ rfl
     have hb2 : Below wr.heap.size wr (wr.alloc (.cells #[.int .i64 a0, .string ⟨b0.toArray⟩, .int .i64 s0, .slice sa sn sc] 63)) := (zwj _ wr).alloc (zwi _) _
     have HB2 := zwh k2 hb2
     have h4 := zwg (g1.out.below hb2)
     have k5 := zwg (h9.out.trans (zn hb2 (some g)))
     have j6 : Hid ((wr.alloc (.cells #[.int .i64 a0, .string ⟨b0.toArray⟩, .int .i64 s0, .slice sa sn sc] 63)).heap[wr.heap.size]? = some (.cells #[.int .i64 a0, .string ⟨b0.toArray⟩, .int .i64 s0, .slice sa sn sc] 63 (0, 0))) := zwg (heap_alloc_new wr _)
     have k6 := zwg (HF.out.below HB2.out)
     have j1 : (0 : Int) ≤ (j : Int) := by omega
     have j2 : (j : Int) < (us.length : Int) := by omega
     have j3 : (0 : Int) ≤ (q : Int) := by omega
     have j4 : (q : Int) < (us.length : Int) := by omega
     clear hb2 g4 hjc
     go_wp2_with fail
     clear e0 e1 e2 e3
     generalize wr.alloc (.cells #[.int .i64 a0, .string ⟨b0.toArray⟩, .int .i64 s0, .slice sa sn sc] 63) = w2 at *
     generalize wr.heap.size = Y at *
     refine (k6.out.call (⟨a0, b0, s0, dc⟩, ⟨sa, sn, sc⟩)).mono ?_
     rw [HOK.out]
     rintro e w3 ⟨rfl, hb3⟩
     have HB3 := zwh HB2 hb3
     have g7 := zwg (h4.out.below hb3)
     have j7 := zwg (k5.out.trans (zn hb3 (some g)))
     have g8 := zwg ((hb3.block _ (Array.getElem?_eq_some_iff.1 j6.out).1).trans j6.out)
     clear hb3
     have y0 : w3.cell? ⟨Y, 0, none⟩ = some (.int .i64 a0) := by rw [cell_of_row _ _ _ _ _ _ g8.out]; rfl
     have y1 : w3.cell? ⟨Y, 1, none⟩ = some (.string ⟨b0.toArray⟩) := by rw [cell_of_row _ _ _ _ _ _ g8.out]; rfl
     have y2 : w3.cell? ⟨Y, 2, none⟩ = some (.int .i64 s0) := by rw [cell_of_row _ _ _ _ _ _ g8.out]; rfl
     have y3 : w3.cell? ⟨Y, 3, none⟩ = some (.slice sa sn sc) := by rw [cell_of_row _ _ _ _ _ _ g8.out]; rfl
     rcases hq : outP ok l c (⟨a0, b0, s0, dc⟩, ⟨sa, sn, sc⟩) with _ | _
     ·have HT9 : Hid ((cur.set q (⟨a0, b0, s0, dc⟩, ⟨sa, sn, sc⟩)).take (q + 1) = (us.take (j + 1)).filter (fun x => !outP ok l c x)) := zwg (by rw [HTS.out, hq, j9.out]; rfl)
      clear hq
      go_wp2_with (first
        | (refine ztv uo zje zjw rfl _ _ rfl g cur g7.out q k3.out rfl (⟨a0, b0, s0, dc⟩, ⟨sa, sn, sc⟩) rfl ?_; intro w9 hr9 g5; clear y0 y1 y2 y3)
        | fail)
      have HR9 := zwg hr9
      have HG9 := zwg (j7.out.trans g5)
      clear hr9 g5
      go_wp2
      go_roundw
      case rel => exact ⟨q + 1, j + 1, _, by omega, by omega, by go_num, by go_num, k1.out, HR9.out, HT9.out, k4.out, HG9.out⟩
      case measure => simp [intOf]; omega
     ·have HT9 : Hid (cur.take q = (us.take (j + 1)).filter (fun x => !outP ok l c x)) := zwg (by rw [HTS.out, hq, if_neg (by decide), List.append_nil])
      clear hq
      go_wp2
      go_roundw
      case rel => exact ⟨q, j + 1, cur, by omega, by omega, rfl, by go_num, g3.out, g7.out, HT9.out, k0.out, j7.out⟩
      case measure => simp [intOf]; omega
    ·obtain rfl : j = us.length := by omega
     have j8 : Hid (cur.take q = us.filter (fun x => !outP ok l c x)) := zwg (by rw [HTK.out, List.take_length])
     have k7 : Hid ((us.filter (fun x => !outP ok l c x)).length = q) := zwg (by rw [← j8.out, List.length_take, g3.out]; omega)
     have q1 : ((us.length : Int) - (q : Int)) = ((us.length - q : Nat) : Int) := by omega
     have q2 : vc ≠ q := by omega
     have q3 : (0 : Int) ≤ (q : Int) := by omega
     have q4 : (q : Int) ≤ (us.length : Int) := by omega
     have q5 : (q : Int) ≤ (vc : Int) := by omega
     go_wp2_with (first | (refine zvz rfl _ rfl g (vc - q) (us.length - q) q cur g1.out (by rw [g3.out]; omega) (by omega) rfl ?_; intro w9 hr9 g5) | fail)
     rw [j8.out] at hr9
     have HR9 := zwg hr9
     have HG9 := zwg (h9.out.trans g5)
     have HB9 : Hid (Below W0.heap.size W0 w9) := zwg (HB1.out.grown HG9.out HB1.out.size (fun b e => by cases e; exact HN.out))
     clear hr9 g5
     go_wp2
     go_ret
     refine ⟨_, rfl, ⟨?_, fun x hx => ?_⟩, HB9.out⟩
     ·have := HR9.out.gsl uo (cap := vc)
      rw [k7.out] at this
      exact this
     ·exact (g9.out.each x (List.mem_filter.1 hx).1).grow HG9.out (fun b e => by
        cases e
        obtain ⟨cs, hcs⟩ := HT1.out
        exact ⟨cs, _, _, hcs, by decide⟩)
def zvs (ok : Bool) (ys : List V.Note) (l : List V.Comp) (c : Int) (w : World) (e : Ending) (w' : World) : Prop := ∃ v' us, e = .returned v' /\ zf4 w' v' us /\ us.map (·.1) = V.ug l (V.kx ok ys l) c /\ Below w.heap.size w w'
theorem zi3 {ok : Bool} {ys : List V.Note} {l : List V.Comp} {h : V.Hit} (hh : h ∈ V.kx ok ys l) : ok = true /\ 0 ≤ h.comp /\ h.comp < l.length := by
 unfold V.kx at hh
 split at hh
 ·rename_i q
  have := V.zie h hh
  exact ⟨q, this.1, this.2.2⟩
 ·simp at hh
theorem zum {ok : Bool} {ys : List V.Note} {l : List V.Comp} (c : Int) {us : List (V.Hit × Sd)} (h : us.map (·.1) = V.kx ok ys l) : (us.filter fun x => !outP ok l c x).map (·.1) = V.ug l (V.kx ok ys l) c := by
 have e : (us.filter fun x => !outP ok l c x) = us.filter ((fun h : V.Hit => decide (c ∈ V.pathOf ok l h.comp)) ∘ (·.1)) := by
  congr 1
  funext x
  unfold outP
  simp
 rw [e, ← List.filter_map, h]
 unfold V.ug
 refine List.filter_congr fun x hx => ?_
 obtain ⟨h1, h2, h3⟩ := zi3 hx
 unfold V.pathOf
 rw [if_pos ⟨h1, h2, h3⟩]
 simp only [List.mem_reverse]
theorem zev {ok : Bool} {ys : List V.Note} {l : List V.Comp} : (V.kx ok ys l).length ≤ l.length * ys.length := by
 unfold V.kx
 split
 ·exact V.zfs ys l l.length
 ·simp
theorem zhe (d : List Int) (time : Int) (v : Value) (l : List V.Comp) (nv : Value) (xs : List NV) (c : Int) (w : World) (hm : zj w) (hd : d.length = 32) (g3 : ∀ n ∈ d, (Lit.int .u8 n).wf = true) (hv : Comps w v l) (hl : l.length ≤ 100) (hn : Notes w nv xs) (hx : xs.length ≤ 900) :
  Calls Tryz.prog 19 #[.agg (icells d time v), nv, .int .i64 c] w (zvs (V.jo d time l) (xs.map (·.n)) l c w) := by
 have HD := zwg hd
 have g7 := zwg g3
 have HX := zwg hx
 have g5 := zwg hl
 have g8 := zwg (ql hd time v)
 obtain ⟨W0, hW0⟩ : ∃ W0, W0 = (w.alloc (.cells (icells d time v) 29)).alloc (.cells #[.int .i64 c] 3) := ⟨_, rfl⟩
 have g1 : Below w.heap.size w W0 := by rw [hW0]; exact ((zwj w.heap.size w).alloc (zwi _) _).alloc (by simp) _
 have HB0 := zwg g1
 have g9 := zwg (hn.below g1)
 have HF : Hid (UFix d time v l c w.heap.size (w.heap.size + 1) W0) := zwg ⟨hm.below g1, hd, g3, hv.below g1, by omega, by rw [hW0, heap_alloc, if_neg (by simp), heap_alloc, if_pos rfl], by rw [hW0, heap_alloc, if_pos (by simp)]⟩
 have HW := zwg hW0
 clear hd g3 hm hv hn g1 hW0
 go_enter Tryz.func19, Tryz.ntmps19
 go_wp2_with (first | (rw [← HW.out]; refine wpList_load_row rfl _ _ rfl w.heap.size rfl _ (icells d time v) (0, 0) _ HF.out.inv Tryz.underlying29 rfl (by rw [yw, g8.out]) ?_) | fail)
 refine (zbc d time v l nv xs W0 HF.out.m HD.out g7.out HF.out.comps g5.out g9.out (by have := HX.out; omega)).mono ?_
 rintro e w1 ⟨h0, us, rfl, g4, g0, hb1⟩
 have g6 := zwg g4
 have h3 := zwg g0
 have HB1 := zwg hb1
 have HUL : Hid (us.length ≤ 1000000) := zwg (by
   have h1 := zev (ok := V.jo d time l) (ys := xs.map (·.n)) (l := l)
   rw [← g0, List.length_map, List.length_map] at h1
   have h2 : l.length * xs.length ≤ 100 * 900 := Nat.mul_le_mul g5.out HX.out
   omega)
 clear g4 g0 hb1
 go_wp2_with fail
 refine (hdel_any d time v l c w.heap.size (w.heap.size + 1) h0 us W0 w1 HF.out HB1.out g6.out HUL.out).mono ?_
 rintro e w2 ⟨v2, rfl, g2, hb2⟩
 have h4 := zwg g2
 have HB2 := zwh HB0 hb2
 clear g2 hb2
 go_wp2
 go_ret
 exact ⟨_, _, rfl, h4.out, zum c h3.out, HB2.out⟩
theorem zid {n : Int} {v : V.Bs} {k : Int} (h : V.jn n v k = true) : (k = 0 ∨ k = 1 ∨ k = 2) /\ v.length ≤ 64 := by
 by_cases hk : k = 0
 ·exact ⟨.inl hk, by rw [V.zvl h hk]; simp⟩
 ·exact ⟨.inr (V.yd h hk).1, (V.valid_len (V.yd h hk).2).2⟩
open Go.RowKit
namespace V
end V
open Go.RowKit
def itvE (x : V.Itv) : List Value := [.string ⟨x.lo.toArray⟩, .int .i64 x.lk, .string ⟨x.hi.toArray⟩, .int .i64 x.hk]
theorem zky (x : V.Itv) : (itvE x).length = 4 := rfl
theorem zpb (x : V.Itv) : ∀ u ∈ itvE x, u.oneCell' = true := by
 intro u hu
 simp [itvE] at hu
 rcases hu with rfl | rfl | rfl | rfl <;> rfl
theorem ztp : jp 83 4 48 := by
 have h : (match Tryz.prog.info? 83 with | some i => i.size == 4 && (i.bytes == 48 && (match i.zero with | some z => z.cells.size == 4 | none => false)) | none => false) = true := by kernel_rfl
 unfold jp
 cases hq : Tryz.prog.info? 83 with
 | none => rw [hq] at h; cases h
 | some i =>
  exact zwv
def ItRow (w : World) (N : Nat) (v : Value) (l : List V.Itv) : Prop := GRow 83 4 itvE w N v l
theorem ItRow.itvs {w : World} {N : Nat} {v : Value} {l : List V.Itv} (h : ItRow w N v l) : Itvs w v l := by
 obtain ⟨a, cap, rfl⟩ := GRow.slice h
 refine ⟨a, cap, rfl, fun j hj => ?_⟩
 obtain ⟨g, c, e, _, hlt, hc⟩ := GRow.at zky h j hj
 cases e
 refine ⟨g, 0, rfl, hlt, ?_, ?_, ?_, ?_⟩
 ·rw [Nat.zero_add]; have := hc 0 _ rfl; rwa [Nat.add_zero] at this
 ·rw [Nat.zero_add]; exact hc 1 _ rfl
 ·rw [Nat.zero_add]; exact hc 2 _ rfl
 ·rw [Nat.zero_add]; exact hc 3 _ rfl
def itvC (x : V.Itv) : Array Value := #[.string ⟨x.lo.toArray⟩, .int .i64 x.lk, .string ⟨x.hi.toArray⟩, .int .i64 x.hk]
theorem zfi (w : World) (a b c : Obj) : (((w.alloc a).alloc b).alloc c).heap[w.heap.size]? = some a /\ (((w.alloc a).alloc b).alloc c).heap[w.heap.size + 1]? = some b /\ (((w.alloc a).alloc b).alloc c).heap[w.heap.size + 1 + 1]? = some c /\ (((w.alloc a).alloc b).alloc c).heap.size = w.heap.size + 1 + 1 + 1 := by
 refine ⟨?_, ?_, ?_, by simp⟩
 ·rw [heap_alloc, if_neg (by simp; omega), heap_alloc, if_neg (by simp), heap_alloc, if_pos rfl]
 ·rw [heap_alloc, if_neg (by simp), heap_alloc, if_pos (by simp)]
 ·rw [heap_alloc, if_pos (by simp)]
theorem qz (n : Int) (a : Option Addr) (len cap : Nat) : (#[Value.int .i64 n, .slice a len cap] : Array Value).all (·.oneCell') = true := by simp [Value.oneCell']
theorem yx : (Tryz.prog.info? 83).map (·.size) = some 4 := by kernel_rfl
theorem itvsSize : (Tryz.prog.info? 66).map (·.size) = some 1 := by kernel_rfl
namespace V
theorem zej (n : Int) : valid n [] = false := rfl
end V
def zpe (r : Option V.Itv) (w : World) (e : Ending) (w' : World) : Prop :=
 ∃ (y : V.Itv) (b : Bool), e = .returned (.tuple #[itvV y, .bool b]) /\ (b = false /\ r = none ∨ b = true /\ r = some y) /\ Below w.heap.size w w'
theorem jk {r : Option V.Itv} {y : V.Itv} {b : Bool} {w w' : World} (h : r = if b then some y else none) (hb : Below w.heap.size w w') : zpe r w (.returned (.tuple #[itvV y, .bool b])) w' := by
 refine ⟨y, b, rfl, ?_, hb⟩
 rw [h]
 cases b
 ·exact .inl ⟨rfl, rfl⟩
 ·exact .inr ⟨rfl, rfl⟩
theorem zal {w w' : World} {g : Nat} {cs : Array Value} {t : TypeId} (hb : Below w.heap.size w w') (h : w.heap[g]? = some (.cells cs t (0, 0))) : w'.heap[g]? = some (.cells cs t (0, 0)) :=
 (hb.block g (Array.getElem?_eq_some_iff.1 h).1).trans h
open Go.RowKit
theorem zcx : ∀ a b : V.Bs, Op.bytesLess a b = decide (V.cb a b < 0)
 | [], [] => rfl
 | [], _ :: _ => rfl
 | _ :: _, [] => rfl
 | x :: a, y :: b => by
  unfold Op.bytesLess
  rcases V.ziq x y a b with ⟨h, e⟩ | ⟨h, e⟩ | ⟨h, e⟩
  ·rw [e]; simp [h]
  ·subst h
   have : ¬ x < x := by simp
   rw [e, ← zcx a b]; simp [this]
  ·exact zy4
theorem PutAt.itvs {w W : World} {g : Nat} {new : Array Value} {t : TypeId} {u : Value} {l : List V.Itv} (h : PutAt w W g new t) (hu : Itvs w u l) (g0 : ∀ c, u.ownBlock = some c -> c ≠ g) : Itvs W u l := by
 obtain ⟨a, cap, rfl, hc⟩ := hu
 refine ⟨a, cap, rfl, fun j hj => ?_⟩
 obtain ⟨b, off, rfl, hlt, h0, h1, h2, h3⟩ := hc j hj
 have hb := g0 b rfl
 exact ⟨b, off, rfl, by rw [h.size]; exact hlt, h.cell h0 hb, h.cell h1 hb, h.cell h2 hb, h.cell h3 hb⟩
namespace V
end V
open Go.RowKit
def xz (r : Int × List V.Itv × Int) (w : World) (e : Ending) (w' : World) : Prop :=
 ∃ u, e = .returned (.tuple #[setV r.1 u, .int .i64 r.2.2]) /\ Itvs w' u r.2.1 /\ (∀ c, u.ownBlock = some c -> w.heap.size ≤ c) /\ Below w.heap.size w w'
theorem xz.zero {w w' : World} (h : Below w.heap.size w w') (k : Int) : xz (0, [], k) w (.returned (.tuple #[setV 0 (.slice none 0 0), .int .i64 k])) w' :=
 ⟨_, rfl, Itvs.nil _, (fun c hc => by cases hc), h⟩
def zas (n : Int) (r : Option (List V.Itv)) (w : World) (e : Ending) (w' : World) : Prop :=
 ∃ (m : Int) (u : Value) (l : List V.Itv) (b : Bool), e = .returned (.tuple #[setV m u, .bool b]) /\ (b = false /\ r = none ∨ b = true /\ m = n /\ r = some l) /\ Itvs w' u l /\ (∀ c, u.ownBlock = some c -> w.heap.size ≤ c) /\ Below w.heap.size w w'
theorem zas.no {n : Int} {w w' : World} (h : Below w.heap.size w w') : zas n none w (.returned (.tuple #[setV 0 (.slice none 0 0), .bool false])) w' :=
 ⟨0, _, [], false, rfl, .inl ⟨rfl, rfl⟩, Itvs.nil _, (fun c hc => by cases hc), h⟩
theorem zas.yes {n : Int} {w w' : World} {u : Value} {l : List V.Itv} {r : Option (List V.Itv)} (hr : r = some l) (h : Below w.heap.size w w') (hu : Itvs w' u l) (ho : ∀ c, u.ownBlock = some c -> w.heap.size ≤ c) : zas n r w (.returned (.tuple #[setV n u, .bool true])) w' :=
 ⟨n, u, l, true, rfl, .inr ⟨rfl, rfl, hr⟩, hu, ho, h⟩
theorem zrh {n : Int} {out : List V.Itv} {L : List V.Bs} {k : Nat} {y : V.Itv} (hk : k < L.length) (hy : V.kt n L[k] = some y) : V.zbd n out (L.drop k) = V.zbd n (V.opL n V.andF out [y]) (L.drop (k + 1)) := by
 rw [List.drop_eq_getElem_cons hk, V.zbd, hy]
theorem zrz {n : Int} {out : List V.Itv} {L : List V.Bs} {k : Nat} (hk : k < L.length) (hy : V.kt n L[k] = none) : V.zbd n out (L.drop k) = none := by
 rw [List.drop_eq_getElem_cons hk, V.zbd, hy]
theorem zua {w : World} {b : Nat} {y : V.Itv} (h : w.heap[b]? = some (.cells (itvC y) 83 (0, 0))) : Itvs w (.slice (some ⟨b, 0, none⟩) 1 1) [y] := by
 refine ⟨_, 1, rfl, fun j hj => ?_⟩
 obtain rfl : j = 0 := by simpa using hj
 exact ⟨b, 0, rfl, (Array.getElem?_eq_some_iff.1 h).1, zwf h 0, zwf h 1, zwf h 2, zwf h 3⟩
structure AltInv (n : Int) (w : World) (B X G : Nat) (L : List V.Bs) (out : List V.Itv) (u : Value) (W : World) : Prop where
 below : Below w.heap.size w W
 res : W.heap[B]? = some (.cells #[.int .i64 0, .slice none 0 0] 68 (0, 0))
 box : W.heap[X]? = some (.cells #[.int .i64 n, u] 68 (0, 0))
 one : V.One n out
 set : Itvs W u out
 own : ∀ c, u.ownBlock = some c -> w.heap.size ≤ c /\ c ≠ X /\ c ≠ B
 txt : ∀ j (h : j < L.length), W.cell? ⟨G, j, none⟩ = some (.string ⟨L[j].toArray⟩)
theorem AltInv.later {n : Int} {w W W' : World} {B X G : Nat} {L : List V.Bs} {out : List V.Itv} {u : Value} (h : AltInv n w B X G L out u W) (hb : Below W.heap.size W W') : AltInv n w B X G L out u W' :=
 ⟨h.below.trans (hb.mono h.below.size), zal hb h.res, zal hb h.box, h.one, h.set.below hb, h.own, fun j hj => ze hb (h.txt j hj)⟩
theorem AltInv.put {n : Int} {w W W' : World} {B X G : Nat} {L : List V.Bs} {out out' : List V.Itv} {u u' : Value} (h : AltInv n w B X G L out u W) (hp : PutAt W W' X #[.int .i64 n, u'] 68) (hX : w.heap.size ≤ X) (g0 : B ≠ X) (g1 : G ≠ X)
  (ho : V.One n out') (hs : Itvs W u' out') (hw : ∀ c, u'.ownBlock = some c -> w.heap.size ≤ c /\ c ≠ X /\ c ≠ B) : AltInv n w B X G L out' u' W' :=
 ⟨hp.below h.below hX, hp.other h.res g0, hp.here, ho, hp.itvs hs (fun c hc => (hw c hc).2.1), hw, fun j hj => hp.cell (h.txt j hj) g1⟩
end Go.Proofs.YtbikeahmldobkaaGreatDoor
