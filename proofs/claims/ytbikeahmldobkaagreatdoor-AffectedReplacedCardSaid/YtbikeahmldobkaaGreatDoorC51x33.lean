/-
  Lemmas for the law.
-/
import Derived.Test.YtbikeahmldobkaaGreatDoorC51x32
import Derived.Test.YtbikeahmldobkaaGreatDoorC51x08
import Derived.Test.YtbikeahmldobkaaGreatDoorC51x20
import Derived.Test.YtbikeahmldobkaaGreatDoorC51x15
import Derived.Test.YtbikeahmldobkaaGreatDoorC51x29
import Derived.Test.YtbikeahmldobkaaGreatDoorC51x31
set_option linter.all false
set_option maxRecDepth 100000
set_option maxHeartbeats 3200000
namespace Go.Proofs.YtbikeahmldobkaaGreatDoor
open Go.RowKit
def zfc (w : World) (v : Value) (us : List (V.Hit × Sd)) : Prop := GSl 4 hE w v us /\ ∀ p ∈ us, Digs w p.2.v p.1.docs
theorem HRow.list {N : Nat} {w : World} {v : Value} {us : List (V.Hit × Sd)} (h : HRow N w v us) : zfc w v us := ⟨GRow.gsl yx h.row, h.each⟩
theorem zfc.below {w w' : World} {v : Value} {us : List (V.Hit × Sd)} (h : zfc w v us) (hb : Below w.heap.size w w') : zfc w' v us := ⟨h.1.below hb, fun p hp => (h.2 p hp).below hb⟩
structure UFix (d : List Int) (time : Int) (v : Value) (l : List V.Comp) (c : Int) (X O : Nat) (w : World) : Prop where
 m : zj w
 len : d.length = 32
 dig : ∀ n ∈ d, (Lit.int .u8 n).wf = true
 comps : Comps w v l
 lt : l.length ≤ 100000
 inv : w.heap[X]? = some (.cells (icells d time v) 29 (0, 0))
 cmp : w.heap[O]? = some (.cells #[.int .i64 c] 3 (0, 0))
theorem UFix.below {d : List Int} {time : Int} {v : Value} {l : List V.Comp} {c : Int} {X O : Nat} {w w' : World} (h : UFix d time v l c X O w) (hb : Below w.heap.size w w') : UFix d time v l c X O w' :=
 ⟨h.m.below hb, h.len, h.dig, h.comps.below hb, h.lt, (hb.block _ (Array.getElem?_eq_some_iff.1 h.inv).1).trans h.inv, (hb.block _ (Array.getElem?_eq_some_iff.1 h.cmp).1).trans h.cmp⟩
def outP (ok : Bool) (l : List V.Comp) (c : Int) (p : V.Hit × Sd) : Bool := !decide (c ∈ V.pathOf ok l p.1.comp)
theorem UFix.call {d : List Int} {time : Int} {v : Value} {l : List V.Comp} {c : Int} {X O : Nat} {w : World} (h : UFix d time v l c X O w) (p : V.Hit × Sd) :
  Calls Tryz.prog 41 #[.agg (hE p).toArray, .pointer (some ⟨X, 0, none⟩), .pointer (some ⟨O, 0, none⟩)] w fun e w' => e = .returned (.bool (outP (V.qt d time l) l c p)) /\ Below w.heap.size w w' :=
 zpf d time v l c X O p.1 p.2 w h.m h.len h.dig h.comps h.lt h.inv h.cmp
theorem hidx_any (d : List Int) (time : Int) (v : Value) (l : List V.Comp) (c : Int) (X O : Nat) (hv : Value) (us : List (V.Hit × Sd)) (w : World) (hf : UFix d time v l c X O w) (hr : GSl 4 hE w hv us) (hl : us.length ≤ 1000000) :
  Calls Tryz.prog 78 #[hv, .func (.func 41) #[] #[.pointer (some ⟨X, 0, none⟩), .pointer (some ⟨O, 0, none⟩)]] w fun e w' => ∃ i : Int, e = .returned (.int .i64 i) /\ Below w.heap.size w w' /\
   ((i = -1 /\ ∀ x ∈ us, outP (V.qt d time l) l c x = false) ∨ ∃ (j : Nat) (h : j < us.length), i = j /\ (∀ x ∈ us.take j, outP (V.qt d time l) l c x = false) /\ outP (V.qt d time l) l c us[j] = true) := by
 have HF := zu8 hf
 have HR := zu8 hr
 obtain ⟨va, vc, rfl⟩ := hr.slice
 generalize hok : V.qt d time l = ok at *
 have HOK := zu8 hok
 clear hf hr hok
 go_enter Tryz.func78, Tryz.ntmps78
 go_wp2
 go_loopw [8] (fun jv wx => ∃ j : Nat, j ≤ us.length /\ jv = .int .i64 j /\ (∀ x ∈ us.take j, outP ok l c x = false) /\ Below w.heap.size w wx) (fun jv _ => us.length - (intOf jv).toNat)
 case atStart => exact ⟨0, Nat.zero_le _, rfl, by simp, zvb _ _⟩
 case round =>
  obtain ⟨j, hj, rfl, g2, g0⟩ := hrel
  have HBX := zu8 g0
  have g1 := zu8 g2
  clear g2
  by_cases hlt : j < us.length
  ·obtain ⟨g, off, rfl, hg, hc⟩ := HR.out.at j hlt
   have g5 := zu8 hlt
   obtain ⟨p, hp⟩ : ∃ p : V.Hit × Sd, p = us[j] := ⟨_, rfl⟩
   have g3 : Hid (wr.rangeAt g (off + j * 4) (hE p)) := zu8 (by rw [hp]; exact zi (fun i u hu => hc i u hu) g0)
   have g4 := zu8 (HF.out.below g0)
   have HTS : Hid (outP ok l c p = false -> ∀ x ∈ us.take (j + 1), outP ok l c x = false) := zu8 (fun h2 x hx => by
     rw [List.take_succ_eq_append_getElem hlt, List.mem_append, List.mem_singleton] at hx
     rcases hx with hx | hx
     · exact g1.out x hx
     · exact (congrArg (outP ok l c) (hx.trans hp.symm)).trans h2)
   have HEQ : Hid (outP ok l c p = true -> ∃ (i : Nat) (h : i < us.length), (j : Int) = i /\ (∀ x ∈ us.take i, outP ok l c x = false) /\ outP ok l c us[i] = true) := zu8 (fun h2 => ⟨j, hlt, rfl, g1.out, (congrArg (outP ok l c) hp.symm).trans h2⟩)
   have i1 : (0 : Int) ≤ (j : Int) := by omega
   have i2 : (j : Int) < (us.length : Int) := by omega
   clear g0 hc hp
   go_wp2_with (first | (refine zp3 yx ziz Tryz.underlying63 rfl rfl _ rfl g (off + j * 4) rfl p g3.out ?_) | fail)
   refine (g4.out.call p).mono ?_
   rw [HOK.out]
   rintro e w1 ⟨rfl, hb1⟩
   have HB1 := zu9 HBX hb1
   clear hb1
   rcases hq : outP ok l c p with _ | _
   ·have HQ := zu8 (HTS.out hq)
    clear hq
    go_wp2
    go_roundw
    case rel => exact ⟨j + 1, by omega, by go_num, HQ.out, HB1.out⟩
    case measure => simp [intOf]; omega
   ·have HQ := zu8 (HEQ.out hq)
    clear hq
    go_wp2
    go_ret
    exact ⟨j, rfl, HB1.out, .inr HQ.out⟩
  ·obtain rfl : j = us.length := by omega
   have HN : Hid (∀ x ∈ us, outP ok l c x = false) := zu8 (by have := g1.out; rwa [List.take_length] at this)
   clear g0
   go_wp2
   go_ret
   exact ⟨-1, rfl, HBX.out, .inl ⟨rfl, HN.out⟩⟩
theorem zus {ops : Array Oper} {rest : List Oper} {o : Oper} {a : Act} {w : World} {Q : Exit -> Act -> World -> Prop} (g5 : o.guard = none) (x : Operand) (ho : o.op = .call { callee := .builtin .clear, args := #[x], argTypes := #[35] })
  (g cap n m : Nat) (l : List (V.Hit × Sd)) (hr : ERow 63 4 hE w g l) (hn : n + m = l.length) (g7 : 0 < n) (hx : a.eval x = .slice (some ⟨g, m * 4, none⟩) n cap)
  (h : ∀ W, ERow 63 4 hE W g (l.take m) -> w.grownBy W (some g) -> wpList Tryz.prog ops Q rest (a.put o.dst (.tuple #[])) W) : wpList Tryz.prog ops Q (o :: rest) a w := by
 obtain ⟨z, hz⟩ : ∃ z : Array Value, z = (hE (⟨0, [], 0, []⟩, ⟨none, 0, 0⟩)).toArray := ⟨_, rfl⟩
 have g6 : ∀ w, (zeroValue 63).run Tryz.prog w = .ok (.agg z) w := by
  intro w; rw [hz]; exact Tryz.zeroValue63 w
 have g3 : ∀ v ∈ (Builtin.zeroCells z n).toList, v.oneCell' = true := fun v hv => by
  unfold Builtin.zeroCells at hv
  rw [Array.mem_toList_iff, Array.mem_map] at hv
  obtain ⟨i, _, rfl⟩ := hv
  have hs : z.size = 4 := by rw [hz]; rfl
  rw [getElem!_pos _ _ (by rw [hs]; omega)]
  subst hz
  exact zig (⟨0, [], 0, []⟩, ⟨none, 0, 0⟩) _ (by simp)
 have g0 : (Builtin.zeroCells z n).toList.length = n * 4 := by
  unfold Builtin.zeroCells
  rw [hz]; simp [hE]
 have g4 : (Builtin.clear_ #[35] o.type #[.slice (some ⟨g, m * 4, none⟩) n cap]).run Tryz.prog w = .ok (.tuple #[]) (w.setCells g (m * 4) (Builtin.zeroCells z n).toList) := by
  have g1 : ∀ j, j < n * 4 -> (w.cell? ⟨g, m * 4 + j, none⟩).isSome = true /\ w.frozen? ⟨g, m * 4 + j, none⟩ = false := fun j hj => by
   obtain ⟨cs, hg, hs, _⟩ := hr
   exact zxj
  have g2 := run_storeCells_cells (P := Tryz.prog) g (m * 4) (Builtin.zeroCells z n).toList 0 w (fun j hj => (g1 j (by rw [g0] at hj; exact hj)).1) (fun j hj => (g1 j (by rw [g0] at hj; exact hj)).2) g3
  simp only [Nat.add_zero] at g2
  obtain ⟨n', rfl⟩ : ∃ n', n = n' + 1 := ⟨n - 1, by omega⟩
  simp [Builtin.clear_, run_underlying Tryz.underlying35, g6, g2, Value.cells]
 refine wpList_plain g5 fun K hK => ?_
 unfold Oper.wp execOp
 simp only [ho, resolve, invoke, builtin, Sem.run_bind, Sem.run_pure, Result.andThen_ok, List.map_toArray, List.map_cons, List.map_nil, hx, g4]
 exact hK _ _ (h _ (hr.tail yx (by omega) _) (yu g _ _ w))
theorem zdd {α : Type} {p : α -> Bool} {us : List α} {j : Nat} (h : j < us.length) : (us.take (j + 1)).filter p = (us.take j).filter p ++ if p us[j] = true then [us[j]] else [] := by
 rw [List.take_succ_eq_append_getElem h, List.filter_append]
 congr 1
 by_cases e : p us[j] = true
 ·rw [if_pos e, List.filter_cons, if_pos e]; rfl
 ·rw [if_neg e, List.filter_cons, if_neg e]; rfl
theorem hdel_any (d : List Int) (time : Int) (v : Value) (l : List V.Comp) (c : Int) (X O : Nat) (hv : Value) (us : List (V.Hit × Sd)) (W0 w : World) (hf : UFix d time v l c X O W0) (hb : Below W0.heap.size W0 w) (hr : HRow W0.heap.size w hv us) (hl : us.length ≤ 1000000) :
  Calls Tryz.prog 44 #[hv, .func (.func 41) #[] #[.pointer (some ⟨X, 0, none⟩), .pointer (some ⟨O, 0, none⟩)]] w fun e w' => ∃ v', e = .returned v' /\ zfc w' v' (us.filter fun x => !outP (V.qt d time l) l c x) /\ Below W0.heap.size W0 w' := by
 have HF := zu8 hf
 have HB := zu8 hb
 have HR := zu8 hr
 obtain ⟨va, vc, rfl⟩ := hr.row.slice
 generalize hok : V.qt d time l = ok at *
 have HOK := zu8 hok
 clear hf hb hr hok
 go_enter Tryz.func44, Tryz.ntmps44
 go_wp2_with fail
 refine (hidx_any d time v l c X O _ us w (HF.out.below HB.out) (GRow.gsl yx HR.out.row) hl).mono ?_
 rw [HOK.out]
 rintro e w1 ⟨i, rfl, hb1, hi⟩
 have HB1 := zu9 HB hb1
 have h0 := zu8 (HR.out.below hb1)
 clear hb1
 rcases hi with ⟨rfl, hi⟩ | ⟨j0, h2, rfl, hi, hp⟩
 ·have HE : Hid ((us.filter fun x => !outP ok l c x) = us) := zu8 (List.filter_eq_self.2 (fun x hx => by rw [hi x hx]; rfl))
  clear hi
  go_wp2
  go_ret
  exact ⟨_, rfl, by rw [HE.out]; exact h0.out.list, HB1.out⟩
 ·rcases GRow.row yx h0.out.row with ⟨_, e⟩ | ⟨g, cap, h7, hN, q0, g0⟩
  ·subst e; simp at h2
  ·obtain ⟨e1, _, e3⟩ := Value.slice.inj h7
   subst e1 e3
   have g1 := zu8 g0
   have h8 : Hid ((us.take (j0 + 1)).filter (fun x => !outP ok l c x) = us.take j0) := zu8 (by
     rw [zdd h2, if_neg (by rw [hp]; simp), List.append_nil]
     exact List.filter_eq_self.2 (fun x hx => by rw [hi x hx]; rfl))
   have HN := zu8 hN
   have HT1 : Hid (∃ cs, w1.heap[g]? = some (.cells cs 63 (0, 0))) := zu8 (by obtain ⟨cs, h1, _⟩ := g0; exact ⟨cs, h1⟩)
   have q1 : j0 < 1000000 := by omega
   have j1 : ((j0 : Int) == -1) = false := by rw [zvc]; omega
   clear h7 hi hp g0 hN
   go_wp2_with fail
   go_loopw [5, 6] (fun iv jv wx => ∃ (q j : Nat) (cur : List (V.Hit × Sd)), q < j /\ j ≤ us.length /\ iv = .int .i64 q /\ jv = .int .i64 j /\ cur.length = us.length /\ ERow 63 4 hE wx g cur /\ cur.take q = (us.take j).filter (fun x => !outP ok l c x) /\ (∀ i (h : i < cur.length) (h' : i < us.length), j ≤ i -> cur[i] = us[i]) /\ w1.grownBy wx (some g)) (fun _ jv _ => us.length - (intOf jv).toNat)
   case atStart => exact ⟨j0, j0 + 1, us, Nat.lt_succ_self _, h2, rfl, by go_num, rfl, g1.out, h8.out.symm, fun _ _ _ _ => rfl, xm _ _⟩
   case round =>
    clear h8 g1
    obtain ⟨q, j, cur, q2, hj, rfl, rfl, h9, g0, j5, g7, h3⟩ := hrel
    have g1 := zu8 g0
    have HTK := zu8 j5
    have g4 := zu8 h9
    have g3 := zu8 g7
    have j6 := zu8 h3
    have k4 : Hid (Below W0.heap.size W0 wr) := zu8 (HB1.out.grown h3 HB1.out.size (fun b e => by cases e; exact HN.out))
    clear g0 j5 h9 g7 h3
    by_cases hlt : j < us.length
    ·have h4 : j < cur.length := by rw [g4.out]; exact hlt
     obtain ⟨p, hp⟩ : ∃ p : V.Hit × Sd, p = us[j] := ⟨_, rfl⟩
     have j7 : cur[j] = p := (g3.out j h4 hlt (zva _)).trans hp.symm
     have g5 : wr.rangeAt g (j * 4) (hE p) := by rw [← j7]; exact g1.out.at yx h4
     have h5 : q < cur.length := by omega
     have k5 := zu8 h5
     have HTS : Hid ((us.take (j + 1)).filter (fun x => !outP ok l c x) = cur.take q ++ if (!outP ok l c p) = true then [p] else []) := zu8 (by rw [zdd hlt, HTK.out, hp])
     have k1 : Hid ((cur.set q p).take (q + 1) = cur.take q ++ [p]) := zu8 (by
       rw [List.take_succ_eq_append_getElem (by rw [List.length_set]; exact h5), List.take_set_of_le (zva _), List.getElem_set_self])
     have k6 : Hid (∀ i (h : i < (cur.set q p).length) (h' : i < us.length), j + 1 ≤ i -> (cur.set q p)[i] = us[i]) := zu8 (fun i h h' hi => by
       rw [List.getElem_set_ne (by omega)]
       exact g3.out i (by rw [List.length_set] at h; exact h) h' (by omega))
     have k2 : Hid (∀ i (h : i < cur.length) (h' : i < us.length), j + 1 ≤ i -> cur[i] = us[i]) := zu8 (fun i h h' hi => g3.out i h h' (by omega))
     have k3 : Hid ((cur.set q p).length = us.length) := zu8 (by rw [List.length_set]; exact g4.out)
     clear hp j7 h5
     obtain ⟨⟨a0, b0, s0, dc⟩, ⟨sa, sn, sc⟩⟩ := p
     have e0 : wr.cell? ⟨g, j * 4, none⟩ = some (.int .i64 a0) := g5 0 _ rfl
     have e1 : wr.cell? ⟨g, j * 4 + 1, none⟩ = some (.string ⟨b0.toArray⟩) := g5 1 _ rfl
     have e2 : wr.cell? ⟨g, j * 4 + 2, none⟩ = some (.int .i64 s0) := g5 2 _ rfl
     have e3 : wr.cell? ⟨g, j * 4 + 3, none⟩ = some (.slice sa sn sc) := g5 3 _ rfl
     have hb2 : Below wr.heap.size wr (wr.alloc (.cells #[.int .i64 a0, .string ⟨b0.toArray⟩, .int .i64 s0, .slice sa sn sc] 63)) := (zvb _ wr).alloc (zva _) _
     have HB2 := zu9 k4 hb2
     have h6 := zu8 (g1.out.below hb2)
     have k7 := zu8 (j6.out.trans (zm hb2 (some g)))
     have j8 : Hid ((wr.alloc (.cells #[.int .i64 a0, .string ⟨b0.toArray⟩, .int .i64 s0, .slice sa sn sc] 63)).heap[wr.heap.size]? = some (.cells #[.int .i64 a0, .string ⟨b0.toArray⟩, .int .i64 s0, .slice sa sn sc] 63 (0, 0))) := zu8 (heap_alloc_new wr _)
     have k8 := zu8 (HF.out.below HB2.out)
     have j1 : (0 : Int) ≤ (j : Int) := by omega
     have j2 : (j : Int) < (us.length : Int) := by omega
     have j3 : (0 : Int) ≤ (q : Int) := by omega
     have j4 : (q : Int) < (us.length : Int) := by omega
     clear hb2 g5 h4
     go_wp2_with fail
     clear e0 e1 e2 e3
     generalize wr.alloc (.cells #[.int .i64 a0, .string ⟨b0.toArray⟩, .int .i64 s0, .slice sa sn sc] 63) = w2 at *
     generalize wr.heap.size = Y at *
     refine (k8.out.call (⟨a0, b0, s0, dc⟩, ⟨sa, sn, sc⟩)).mono ?_
     rw [HOK.out]
     rintro e w3 ⟨rfl, hb3⟩
     have HB3 := zu9 HB2 hb3
     have g8 := zu8 (h6.out.below hb3)
     have j9 := zu8 (k7.out.trans (zm hb3 (some g)))
     have g9 := zu8 ((hb3.block _ (Array.getElem?_eq_some_iff.1 j8.out).1).trans j8.out)
     clear hb3
     have y0 : w3.cell? ⟨Y, 0, none⟩ = some (.int .i64 a0) := by rw [cell_of_row _ _ _ _ _ _ g9.out]; rfl
     have y1 : w3.cell? ⟨Y, 1, none⟩ = some (.string ⟨b0.toArray⟩) := by rw [cell_of_row _ _ _ _ _ _ g9.out]; rfl
     have y2 : w3.cell? ⟨Y, 2, none⟩ = some (.int .i64 s0) := by rw [cell_of_row _ _ _ _ _ _ g9.out]; rfl
     have y3 : w3.cell? ⟨Y, 3, none⟩ = some (.slice sa sn sc) := by rw [cell_of_row _ _ _ _ _ _ g9.out]; rfl
     rcases hq : outP ok l c (⟨a0, b0, s0, dc⟩, ⟨sa, sn, sc⟩) with _ | _
     ·have HT9 : Hid ((cur.set q (⟨a0, b0, s0, dc⟩, ⟨sa, sn, sc⟩)).take (q + 1) = (us.take (j + 1)).filter (fun x => !outP ok l c x)) := zu8 (by rw [HTS.out, hq, k1.out]; rfl)
      clear hq
      go_wp2_with (first
        | (refine zst yx zig ziz rfl _ _ rfl g cur g8.out q k5.out rfl (⟨a0, b0, s0, dc⟩, ⟨sa, sn, sc⟩) rfl ?_; intro w9 g2 g6; clear y0 y1 y2 y3)
        | fail)
      have HR9 := zu8 g2
      have HG9 := zu8 (j9.out.trans g6)
      clear g2 g6
      go_wp2
      go_roundw
      case rel => exact ⟨q + 1, j + 1, _, by omega, by omega, by go_num, by go_num, k3.out, HR9.out, HT9.out, k6.out, HG9.out⟩
      case measure => simp [intOf]; omega
     ·have HT9 : Hid (cur.take q = (us.take (j + 1)).filter (fun x => !outP ok l c x)) := zu8 (by rw [HTS.out, hq, if_neg (by decide), List.append_nil])
      clear hq
      go_wp2
      go_roundw
      case rel => exact ⟨q, j + 1, cur, by omega, by omega, rfl, by go_num, g4.out, g8.out, HT9.out, k2.out, j9.out⟩
      case measure => simp [intOf]; omega
    ·obtain rfl : j = us.length := by omega
     have k0 : Hid (cur.take q = us.filter (fun x => !outP ok l c x)) := zu8 (by rw [HTK.out, List.take_length])
     have k9 : Hid ((us.filter (fun x => !outP ok l c x)).length = q) := zu8 (by rw [← k0.out, List.length_take, g4.out]; omega)
     have q3 : ((us.length : Int) - (q : Int)) = ((us.length - q : Nat) : Int) := by omega
     have q4 : vc ≠ q := by omega
     have q5 : (0 : Int) ≤ (q : Int) := by omega
     have q6 : (q : Int) ≤ (us.length : Int) := by omega
     have q7 : (q : Int) ≤ (vc : Int) := by omega
     go_wp2_with (first | (refine zus rfl _ rfl g (vc - q) (us.length - q) q cur g1.out (by rw [g4.out]; omega) (by omega) rfl ?_; intro w9 g2 g6) | fail)
     rw [k0.out] at g2
     have HR9 := zu8 g2
     have HG9 := zu8 (j6.out.trans g6)
     have HB9 : Hid (Below W0.heap.size W0 w9) := zu8 (HB1.out.grown HG9.out HB1.out.size (fun b e => by cases e; exact HN.out))
     clear g2 g6
     go_wp2
     go_ret
     refine ⟨_, rfl, ⟨?_, fun x hx => ?_⟩, HB9.out⟩
     ·have := HR9.out.gsl yx (cap := vc)
      rw [k9.out] at this
      exact this
     ·exact (h0.out.each x (List.mem_filter.1 hx).1).grow HG9.out (fun b e => by
        cases e
        obtain ⟨cs, hcs⟩ := HT1.out
        exact ⟨cs, _, _, hcs, by decide⟩)
def zul (ok : Bool) (ys : List V.Note) (l : List V.Comp) (c : Int) (w : World) (e : Ending) (w' : World) : Prop := ∃ v' us, e = .returned v' /\ zfc w' v' us /\ us.map (·.1) = V.zm7 l (V.kt ok ys l) c /\ Below w.heap.size w w'
theorem zqg {ok : Bool} {ys : List V.Note} {l : List V.Comp} {h : V.Hit} (hh : h ∈ V.kt ok ys l) : ok = true /\ 0 ≤ h.comp /\ h.comp < l.length := by
 unfold V.kt at hh
 split at hh
 ·rename_i q
  have := V.zhk h hh
  exact ⟨q, this.1, this.2.2⟩
 ·simp at hh
theorem ztj {ok : Bool} {ys : List V.Note} {l : List V.Comp} (c : Int) {us : List (V.Hit × Sd)} (h : us.map (·.1) = V.kt ok ys l) : (us.filter fun x => !outP ok l c x).map (·.1) = V.zm7 l (V.kt ok ys l) c := by
 have e : (us.filter fun x => !outP ok l c x) = us.filter ((fun h : V.Hit => decide (c ∈ V.pathOf ok l h.comp)) ∘ (·.1)) := by
  congr 1
  funext x
  unfold outP
  simp
 rw [e, ← List.filter_map, h]
 unfold V.zm7
 refine List.filter_congr fun x hx => ?_
 obtain ⟨h1, h2, h3⟩ := zqg hx
 unfold V.pathOf
 rw [if_pos ⟨h1, h2, h3⟩]
 simp only [List.mem_reverse]
theorem zgk {ok : Bool} {ys : List V.Note} {l : List V.Comp} : (V.kt ok ys l).length ≤ l.length * ys.length := by
 unfold V.kt
 split
 ·exact V.ze1 ys l l.length
 ·simp
theorem zui (d : List Int) (time : Int) (v : Value) (l : List V.Comp) (nv : Value) (xs : List NV) (c : Int) (w : World) (hm : zj w) (hd : d.length = 32) (g3 : ∀ n ∈ d, (Lit.int .u8 n).wf = true) (hv : Comps w v l) (hl : l.length ≤ 100) (hn : Notes w nv xs) (hx : xs.length ≤ 900) :
  Calls Tryz.prog 19 #[.agg (icells d time v), nv, .int .i64 c] w (zul (V.qt d time l) (xs.map (·.n)) l c w) := by
 have HD := zu8 hd
 have g7 := zu8 g3
 have HX := zu8 hx
 have g5 := zu8 hl
 have g8 := zu8 (qn hd time v)
 obtain ⟨W0, hW0⟩ : ∃ W0, W0 = (w.alloc (.cells (icells d time v) 29)).alloc (.cells #[.int .i64 c] 3) := ⟨_, rfl⟩
 have g1 : Below w.heap.size w W0 := by rw [hW0]; exact ((zvb w.heap.size w).alloc (zva _) _).alloc (by simp) _
 have HB0 := zu8 g1
 have g9 := zu8 (hn.below g1)
 have HF : Hid (UFix d time v l c w.heap.size (w.heap.size + 1) W0) := zu8 ⟨hm.below g1, hd, g3, hv.below g1, by omega, by rw [hW0, heap_alloc, if_neg (by simp), heap_alloc, if_pos rfl], by rw [hW0, heap_alloc, if_pos (by simp)]⟩
 have HW := zu8 hW0
 clear hd g3 hm hv hn g1 hW0
 go_enter Tryz.func19, Tryz.ntmps19
 go_wp2_with (first | (rw [← HW.out]; refine wpList_load_row rfl _ _ rfl w.heap.size rfl _ (icells d time v) (0, 0) _ HF.out.inv Tryz.underlying29 rfl (by rw [xu, g8.out]) ?_) | fail)
 refine (zbr d time v l nv xs W0 HF.out.m HD.out g7.out HF.out.comps g5.out g9.out (by have := HX.out; omega)).mono ?_
 rintro e w1 ⟨h0, us, rfl, g4, g0, hb1⟩
 have g6 := zu8 g4
 have h3 := zu8 g0
 have HB1 := zu8 hb1
 have HUL : Hid (us.length ≤ 1000000) := zu8 (by
   have h1 := zgk (ok := V.qt d time l) (ys := xs.map (·.n)) (l := l)
   rw [← g0, List.length_map, List.length_map] at h1
   have h2 : l.length * xs.length ≤ 100 * 900 := Nat.mul_le_mul g5.out HX.out
   omega)
 clear g4 g0 hb1
 go_wp2_with fail
 refine (hdel_any d time v l c w.heap.size (w.heap.size + 1) h0 us W0 w1 HF.out HB1.out g6.out HUL.out).mono ?_
 rintro e w2 ⟨v2, rfl, g2, hb2⟩
 have h4 := zu8 g2
 have HB2 := zu9 HB0 hb2
 clear g2 hb2
 go_wp2
 go_ret
 exact ⟨_, _, rfl, h4.out, ztj c h3.out, HB2.out⟩
theorem zja (c : V.Comp) (w : World) (hm : zj w) (hc : CompWf c) :
  Calls Tryz.prog 58 #[cval c] w fun e w' => e = .returned (.bool (V.xq c)) /\ Below w.heap.size w w' := by
 have HM := zu8 hm
 have HC := zu8 hc
 have h1 := zjq c
 have h2 := zj7 c
 have h3 := zjl c
 have HD : Hid (V.xq c = (V.valid c.sch c.ver && V.jo c.name)) := zu8 (Bool.and_comm _ _)
 have hn := zu8 hc.name
 have hv := zu8 hc.ver
 clear hm hc
 unfold cval
 generalize ccells c = cs at *
 generalize V.xq c = r at *
 obtain ⟨par, sch, name, ver, dig⟩ := c
 simp only at *
 go_enter Tryz.func58, Tryz.ntmps58
 go_wp2_with fail
 refine (vl _ _ _ (HM.out.below ((zvb _ w).alloc (zva _) _)) (by show ver.toArray.size ≤ _; simpa using hv.out)).mono ?_
 rintro e w1 ⟨rfl, hb1⟩
 have g0 := (zvb w.heap.size w).alloc (zva _) (.cells cs 60)
 have HB1 := zu8 (g0.trans (hb1.mono g0.size))
 have g1 : w1.cell? ⟨w.heap.size, 2, none⟩ = some (.string ⟨name.toArray⟩) := by rw [hb1.cell (p := ⟨w.heap.size, 2, none⟩) (by simp), World.cell?_alloc_new]; exact h2
 clear g0 hb1 h1 h2 h3
 rw [za5]
 rcases hp : V.valid sch ver with _ | _
 ·rw [hp] at HD
  clear hp
  go_wp2
  go_ret
  exact ⟨ze HD.out.symm, HB1.out⟩
 ·rw [hp] at HD
  clear hp
  go_wp2_with fail
  refine (zuw _ _ (HM.out.below HB1.out) (by show name.toArray.size ≤ _; simpa using hn.out)).mono ?_
  exact zyg
open Go.RowKit
theorem zci (t : Int) (w : World) :
  Calls Tryz.prog 57 #[.int .i64 t] w fun e w' => e = .returned (.bool (decide (0 ≤ t) && decide (t ≤ 1099511627776))) /\ w' = w := by
 go_enter Tryz.func57, Tryz.ntmps57
 by_cases h1 : 0 ≤ t
 ·have e1 : decide (0 ≤ t) = true := decide_eq_true h1
  rw [e1]
  go_wp2
  go_ret
  exact ⟨rfl, rfl⟩
 ·have e1 : decide (0 ≤ t) = false := decide_eq_false h1
  rw [e1]
  go_wp2
  go_ret
  exact ⟨rfl, rfl⟩
theorem zv2 {P : Prop} (h : P := by
 clear c1 c2
 go_enter Tryz.func31, Tryz.ntmps31
 go_wp2_with (first | (refine wpList_load_mid rfl 26 _ rfl w.heap.size 0 rfl (zn d) _ HR.out Tryz.underlying26 rfl HI.out ?_) | (refine zcu rfl 26 26 _ _ rfl (dcells d) (dcells zq) rfl rfl kr false (HQ.out _) ?_) | fail)
 refine (zci time _).mono ?_
 rintro e w1 ⟨rfl, rfl⟩
 rw [HIN.out]
 go_wp2
 go_ret
 exact ⟨ze HV.out.symm, HB0.out⟩) : P := h
theorem zyu {P : Prop} (h : P := by
 clear hok
 go_wp2
 go_ret
 exact ⟨ze HF.out.symm, HBE.out _ HB2.out⟩) : P := h
theorem zn6 (d : List Int) (time : Int) (v : Value) (l : List V.Comp) (w : World) (hm : zj w) (hd : d.length = 32) (g1 : ∀ n ∈ d, (Lit.int .u8 n).wf = true) (hv : Comps w v l) (hl : l.length ≤ maxLen) :
  Calls Tryz.prog 31 #[.agg (icells d time v)] w fun e w' => e = .returned (.bool (V.qt d time l)) /\ Below w.heap.size w w' := by
 have HM := zu8 hm
 have HL := zu8 hv
 have j7 := zld hd time v
 have g9 := zb5 hd time v
 have HR := zu8 (zf0 w 29 time v hd)
 have HI : Hid ((Tryz.prog.info? 26).map (·.size) = some (zn d).length) := zu8 (by rw [yj]; unfold zn; simp [hd])
 have HQ : Hid (∀ w, (Op.equalIn 10000 26 (.agg (dcells d)) (.agg (dcells zq))).run Tryz.prog w = .ok (decide (d = zq)) w) := zu8 (fun w => zmr hd g1 (by decide) (by decide) w)
 obtain ⟨va, vc, rfl, _⟩ := hv
 unfold maxLen at hl
 clear hm hd g1
 generalize icells d time (.slice va l.length vc) = ic at *
 have HB0 : Hid (Below w.heap.size w (w.alloc (.cells ic 29))) := zu8 ((zvb _ w).alloc (zva _) _)
 by_cases c1 : d = zq
 ·have HV := zu8 (vu (time := time) (l := l) (.inl c1))
  have HD : Hid (decide (d = zq) = true) := zu8 (decide_eq_true c1)
  clear c1
  rw [HD.out] at HQ
  go_enter Tryz.func31, Tryz.ntmps31
  go_wp2_with (first | (refine wpList_load_mid rfl 26 _ rfl w.heap.size 0 rfl (zn d) _ HR.out Tryz.underlying26 rfl HI.out ?_) | (refine zcu rfl 26 26 _ _ rfl (dcells d) (dcells zq) rfl rfl kr true (HQ.out _) ?_) | fail)
  go_ret
  exact ⟨ze HV.out.symm, HB0.out⟩
 ·have HD : Hid (decide (d = zq) = false) := zu8 (decide_eq_false c1)
  rw [HD.out] at HQ
  by_cases c2 : 0 ≤ time /\ time ≤ 1099511627776
  ·have HIN : Hid ((decide (0 ≤ time) && decide (time ≤ 1099511627776)) = true) := zu8 (by rw [decide_eq_true c2.1, decide_eq_true c2.2]; rfl)
   by_cases c4 : 128 < l.length
   ·have HV := zu8 (vu (d := d) (time := time) (.inr (.inr (.inr c4))))
    exact zv2
   ·have HV := zu8 (zor c1 (show ¬ time < 0 by omega) (show ¬ 1099511627776 < time by omega) c4)
    have c4' : l.length ≤ 128 := by omega
    clear c1 c2 hl
    go_enter Tryz.func31, Tryz.ntmps31
    go_wp2_with (first | (refine wpList_load_mid rfl 26 _ rfl w.heap.size 0 rfl (zn d) _ HR.out Tryz.underlying26 rfl HI.out ?_) | (refine zcu rfl 26 26 _ _ rfl (dcells d) (dcells zq) rfl rfl kr false (HQ.out _) ?_) | fail)
    refine (zci time _).mono ?_
    rintro e w1 ⟨rfl, rfl⟩
    rw [HIN.out]
    have g7 : (w.alloc (.cells ic 29)).cell? ⟨w.heap.size, 33, none⟩ = some (.slice va l.length vc) := by rw [World.cell?_alloc_new]; exact g9
    have h0 : w.heap.size < (w.alloc (.cells ic 29)).heap.size := by simp
    clear j7 g9 HR HI HQ HD HIN
    generalize w.alloc (.cells ic 29) = W0 at *
    go_wp2
    go_loopw [3] (fun i wr => ∃ k : Nat, k ≤ l.length /\ i = .int .i64 k /\ V.qf l k = true /\ Below W0.heap.size W0 wr) (fun i _ => l.length - (intOf i).toNat)
    case atStart => exact ⟨0, Nat.zero_le _, rfl, rfl, zvb _ _⟩
    case round =>
     obtain ⟨k, hk, rfl, h3, g4⟩ := hrel
     have h4 := zu8 h3
     have j5 := (g4.cell (p := ⟨w.heap.size, 33, none⟩) h0).trans g7
     have g5 := zu8 g4
     have k4 : W0.heap.size ≤ wr.heap.size := g4.size
     clear h3 g4
     by_cases hlt : k < l.length
     ·obtain ⟨h5, b, off, rfl, k3, h6⟩ := HL.out.at k hlt
      have HST := zu8 (V.kx hlt)
      have g0 := zu8 (zpj hlt)
      have h7 : V.za0 l k l[k] = (V.xq l[k] && (decide (-1 ≤ l[k].par) && (decide (l[k].par < k) && !decide (l[k] ∈ l.take k)))) := rfl
      have g3 := zu8 h7
      have HX := zu8 h5
      have j8 := zu8 (zi (zi h6 HB0.out) g5.out)
      have k5 : (0 : Int) ≤ (k : Int) := by omega
      have k6 : (k : Int) < (l.length : Int) := by omega
      clear h5 h6 h7
      generalize l[k] = x at *
      have k7 := wf_rng HX.out.par
      have h1 := vd x wr 60
      have hb1 : Below W0.heap.size W0 (wr.alloc (.cells (ccells x) 60)) := g5.out.alloc g5.out.size _
      have h8 : wr.heap.size < (wr.alloc (.cells (ccells x) 60)).heap.size := by simp
      have H1 := zu8 h1
      have HB1 := zu8 hb1
      clear h1 hb1
      go_wp2_with (first | (refine vm rfl _ rfl b (off + k * 36) rfl x HX.out j8.out ?_) | (refine zbp rfl _ _ rfl _ _ rfl x HX.out rfl rfl ?_; generalize wr.alloc (.cells (ccells x) 60) = w1 at *; generalize wr.heap.size = X at *) | (refine vm rfl _ rfl X 0 rfl x HX.out H1.out ?_) | fail)
      refine (zja x _ (HM.out.below (HB0.out.trans (HB1.out.mono (by have := HB0.out.size; omega)))) HX.out).mono ?_
      rintro e w2 ⟨rfl, hb2⟩
      have HB2 := zu9 HB1 hb2
      have g8 := zi H1.out hb2
      have x0 : w2.cell? ⟨X, 0, none⟩ = some (.int .i64 x.par) := g8 0 _ rfl
      have HX2 := zu8 g8
      have k8 : X < w2.heap.size := Nat.lt_of_lt_of_le h8 hb2.size
      have HBE : Hid (∀ W, Below W0.heap.size W0 W -> Below w.heap.size w W) := zu8 (fun W h => HB0.out.trans (h.mono HB0.out.size))
      clear h8 hb2 g8 j5
      rcases hok : V.xq x with _ | _
      ·have HF : Hid (V.qt d time l = false) := zu8 (by rw [HV.out]; exact g0.out (by rw [g3.out, hok]; rfl))
       exact zyu
      ·by_cases p1 : x.par < -1
       ·have HF : Hid (V.qt d time l = false) := zu8 (by rw [HV.out]; exact g0.out (by rw [g3.out, decide_eq_false (show ¬ -1 ≤ x.par by omega)]; simp))
        exact zyu
       ·by_cases p2 : x.par < (k : Int)
        ·have q1 : decide (x.par < -1) = false := decide_eq_false p1
         have q2 : decide ((k : Int) ≤ x.par) = false := decide_eq_false (by omega)
         have h9 : Hid (V.za0 l k x = !decide (x ∈ l.take k)) := zu8 (by rw [g3.out, hok, decide_eq_true (show -1 ≤ x.par by omega), decide_eq_true p2]; rfl)
         clear hok g3
         go_wp2
         clear x0
         go_loopw [5] (fun jv wx => ∃ j : Nat, j ≤ k /\ jv = .int .i64 j /\ x ∉ l.take j /\ Below w2.heap.size w2 wx) (fun jv _ => k - (intOf jv).toNat)
         case atStart => exact ⟨0, Nat.zero_le _, rfl, by simp, zvb _ _⟩
         case round =>
          obtain ⟨j, hj, rfl, j0, j1⟩ := hrel
          have HBX := zu8 j1
          have j2 := zu8 j0
          clear j1 j0
          by_cases hjk : j < k
          ·obtain ⟨g1, g2, off2, j9, k9, j3⟩ := HL.out.at j (show j < l.length by omega)
           cases j9
           have j4 := zu8 g1
           have k0 := zu8 (zi (zi (zi (zi j3 HB0.out) HB2.out) HBX.out) (zvb _ wr).drew)
           have k1 := zu8 (zi (zi HX2.out HBX.out) (zvb _ wr).drew)
           have j6 := (((HB2.out.trans (HBX.out.mono HB2.out.size)).drew).cell (p := ⟨w.heap.size, 33, none⟩) h0).trans g7
           have k2 : j < l.length := by omega
           have HTS : Hid (x ∉ l.take j -> ¬ l[j] = x -> x ∉ l.take (j + 1)) := zu8 (fun h1 h2 => by
             rw [List.take_succ_eq_append_getElem k2, List.mem_append, List.mem_singleton]
             exact fun h => h.elim h1 (fun e => h2 e.symm))
           have HIN : Hid (l[j] ∈ l.take k) := zu8 (by
             rw [show l[j] = (l.take k)[j]'(by simp; omega) by rw [List.getElem_take]]
             exact List.getElem_mem _)
           have q0 : (0 : Int) ≤ (j : Int) := by omega
           have q3 : (j : Int) < (l.length : Int) := by omega
           clear g1 j3
           generalize l[j] = y at *
           go_wp2
           refine wp_region_still_lit (by kernel_rfl) (by kernel_rfl) ?_
           still_step
           still_step
           still_step
           still_step
           refine wpStill_step (fun K hK => ?_)
           refine zce rfl (.tmp 56) rfl b (off + j * 36) rfl y j4.out k0.out (hK _ ?_)
           clear hK K
           refine wpStill_step (fun K hK => ?_)
           refine zce rfl (.tmp 4) rfl X 0 rfl x HX.out k1.out (hK _ ?_)
           clear hK K
           refine wpStill_step (fun K hK => ?_)
           refine zmg rfl (.tmp 57) (.tmp 58) rfl y x j4.out HX.out rfl rfl (hK _ ?_)
           clear hK K
           refine wpStill_nil ?_
           have HBD := zu8 HBX.out.drew
           change Exit.then _ _ _ _ wr.drew
           clear j6
           rcases g6 : decide (y = x) with _ | _
           ·have HNE : Hid (¬ y = x) := zu8 (of_decide_eq_false g6)
            clear g6
            go_wp2
            go_roundw
            case rel => exact ⟨j + 1, by omega, by go_num, HTS.out j2.out HNE.out, HBD.out⟩
            case measure => simp [intOf]; omega
           ·have HE := zu8 (of_decide_eq_true g6)
            have HF : Hid (V.qt d time l = false) := zu8 (by rw [HV.out]; exact g0.out (by rw [h9.out, decide_eq_true (by rw [← HE.out]; exact HIN.out)]; rfl))
            clear g6
            go_wp2
            go_ret
            exact ⟨ze HF.out.symm, HBE.out _ (HB2.out.trans (HBD.out.mono HB2.out.size))⟩
          ·obtain rfl : j = k := by omega
           have HN : Hid (V.qf l (j + 1) = true) := zu8 (by rw [HST.out, h4.out, h9.out, decide_eq_false j2.out]; rfl)
           have HB3 := zu8 (HB2.out.trans (HBX.out.mono HB2.out.size))
           go_wp2
           go_roundw
           case rel => exact ⟨j + 1, by omega, by go_num, HN.out, HB3.out⟩
           case measure => simp [intOf]; omega
        ·have HF : Hid (V.qt d time l = false) := zu8 (by rw [HV.out]; exact g0.out (by rw [g3.out, decide_eq_false p2]; simp))
         exact zyu
     ·obtain rfl : k = l.length := by omega
      have HT : Hid (V.qt d time l = true) := zu8 (by rw [HV.out]; exact h4.out)
      have HB3 := zu8 (HB0.out.trans (g5.out.mono HB0.out.size))
      go_wp2
      go_ret
      exact ⟨ze HT.out.symm, HB3.out⟩
  ·have HIN : Hid ((decide (0 ≤ time) && decide (time ≤ 1099511627776)) = false) := zu8 (by
     by_cases p : 0 ≤ time
     · rw [decide_eq_false (show ¬ time ≤ 1099511627776 from fun q => c2 ⟨p, q⟩)]; simp
     · rw [decide_eq_false p]; rfl)
   have HV : Hid (V.qt d time l = false) := zu8 (by
     by_cases p : 0 ≤ time
     · exact vu (.inr (.inr (.inl (by have := fun q => c2 ⟨p, q⟩; omega))))
     · exact vu (.inr (.inl (by omega))))
   exact zv2
open Go.RowKit
namespace V
theorem zup (l : List Note) : (zcw l).length ≤ l.length := by
 have := zd7 (c := cmpI) (l := []) (xs := l.map (·.doc))
 unfold zcw
 simp at this
 exact this
end V
theorem Strs.atS {w : World} {a : Option Addr} {n cap : Nat} {l : List V.Bs} (h : Strs w (.slice a n cap) l) (j : Nat) (hj : j < l.length) : ∃ g off, a = some ⟨g, off, none⟩ /\ g < w.heap.size /\ w.cell? ⟨g, off + j, none⟩ = some (.string ⟨l[j].toArray⟩) := by
 obtain ⟨a', c, e, hc⟩ := h
 cases e
 exact hc j hj
end Go.Proofs.YtbikeahmldobkaaGreatDoor
