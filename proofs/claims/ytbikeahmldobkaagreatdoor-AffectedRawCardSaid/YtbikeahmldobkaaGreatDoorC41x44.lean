/-
  Lemmas for the law.
-/
import Derived.Test.YtbikeahmldobkaaGreatDoorC41x43
import Derived.Test.YtbikeahmldobkaaGreatDoorC41x11
import Derived.Test.YtbikeahmldobkaaGreatDoorC41x23
import Derived.Test.YtbikeahmldobkaaGreatDoorC41x19
import Derived.Test.YtbikeahmldobkaaGreatDoorC41x42
import Derived.Test.YtbikeahmldobkaaGreatDoorC41x13
set_option linter.all false
set_option maxRecDepth 100000
set_option maxHeartbeats 3200000
namespace Go.Proofs.YtbikeahmldobkaaGreatDoor
open Go.RowKit
def zcc (w : World) (v : Value) (us : List (V.Hit × Sd)) : Prop := GSl 4 hE w v us /\ ∀ p ∈ us, Digs w p.2.v p.1.docs
theorem HRow.list {N : Nat} {w : World} {v : Value} {us : List (V.Hit × Sd)} (h : HRow N w v us) : zcc w v us := ⟨GRow.gsl xk h.row, h.each⟩
theorem zcc.below {w w' : World} {v : Value} {us : List (V.Hit × Sd)} (h : zcc w v us) (hb : Below w.heap.size w w') : zcc w' v us := ⟨h.1.below hb, fun p hp => (h.2 p hp).below hb⟩
structure UFix (d : List Int) (time : Int) (v : Value) (l : List V.Comp) (c : Int) (X O : Nat) (w : World) : Prop where
 m : zm w
 len : d.length = 32
 dig : ∀ n ∈ d, (Lit.int .u8 n).wf = true
 comps : Comps w v l
 lt : l.length ≤ 100000
 inv : w.heap[X]? = some (.cells (icells d time v) 29 (0, 0))
 cmp : w.heap[O]? = some (.cells #[.int .i64 c] 3 (0, 0))
theorem UFix.below {d : List Int} {time : Int} {v : Value} {l : List V.Comp} {c : Int} {X O : Nat} {w w' : World} (h : UFix d time v l c X O w) (hb : Below w.heap.size w w') : UFix d time v l c X O w' :=
 ⟨h.m.below hb, h.len, h.dig, h.comps.below hb, h.lt, (hb.block _ (Array.getElem?_eq_some_iff.1 h.inv).1).trans h.inv, (hb.block _ (Array.getElem?_eq_some_iff.1 h.cmp).1).trans h.cmp⟩
def outP (ok : Bool) (l : List V.Comp) (c : Int) (p : V.Hit × Sd) : Bool := !decide (c ∈ V.pathOf ok l p.1.comp)
theorem UFix.call {d : List Int} {time : Int} {v : Value} {l : List V.Comp} {c : Int} {X O : Nat} {w : World} (h : UFix d time v l c X O w) (p : V.Hit × Sd) :
  Calls Tryz.prog 41 #[.agg (hE p).toArray, .pointer (some ⟨X, 0, none⟩), .pointer (some ⟨O, 0, none⟩)] w fun e w' => e = .returned (.bool (outP (V.qc d time l) l c p)) /\ Below w.heap.size w w' :=
 zkv d time v l c X O p.1 p.2 w h.m h.len h.dig h.comps h.lt h.inv h.cmp
theorem hidx_any (d : List Int) (time : Int) (v : Value) (l : List V.Comp) (c : Int) (X O : Nat) (hv : Value) (us : List (V.Hit × Sd)) (w : World) (hf : UFix d time v l c X O w) (hr : GSl 4 hE w hv us) (hl : us.length ≤ 1000000) :
  Calls Tryz.prog 78 #[hv, .func (.func 41) #[] #[.pointer (some ⟨X, 0, none⟩), .pointer (some ⟨O, 0, none⟩)]] w fun e w' => ∃ i : Int, e = .returned (.int .i64 i) /\ Below w.heap.size w w' /\
   ((i = -1 /\ ∀ x ∈ us, outP (V.qc d time l) l c x = false) ∨ ∃ (j : Nat) (h : j < us.length), i = j /\ (∀ x ∈ us.take j, outP (V.qc d time l) l c x = false) /\ outP (V.qc d time l) l c us[j] = true) := by
 have HF := zpa hf
 have HR := zpa hr
 obtain ⟨va, vc, rfl⟩ := hr.slice
 generalize hok : V.qc d time l = ok at *
 have HOK := zpa hok
 clear hf hr hok
 go_enter Tryz.func78, Tryz.ntmps78
 go_wp2
 go_loopw [8] (fun jv wx => ∃ j : Nat, j ≤ us.length /\ jv = .int .i64 j /\ (∀ x ∈ us.take j, outP ok l c x = false) /\ Below w.heap.size w wx) (fun jv _ => us.length - (intOf jv).toNat)
 case atStart => exact ⟨0, Nat.zero_le _, rfl, by simp, zpd _ _⟩
 case round =>
  obtain ⟨j, hj, rfl, hnm, hbx⟩ := hrel
  have HBX := zpa hbx
  have HNM := zpa hnm
  clear hnm
  by_cases hlt : j < us.length
  ·obtain ⟨g, off, rfl, hg, hc⟩ := HR.out.at j hlt
   have HLT := zpa hlt
   obtain ⟨p, hp⟩ : ∃ p : V.Hit × Sd, p = us[j] := ⟨_, rfl⟩
   have HRA : Hid (wr.rangeAt g (off + j * 4) (hE p)) := zpa (by rw [hp]; exact zh (fun i u hu => hc i u hu) hbx)
   have HFW := zpa (HF.out.below hbx)
   have HTS : Hid (outP ok l c p = false -> ∀ x ∈ us.take (j + 1), outP ok l c x = false) := zpa (fun h2 x hx => by
     rw [List.take_succ_eq_append_getElem hlt, List.mem_append, List.mem_singleton] at hx
     rcases hx with hx | hx
     · exact HNM.out x hx
     · exact (congrArg (outP ok l c) (hx.trans hp.symm)).trans h2)
   have HEQ : Hid (outP ok l c p = true -> ∃ (i : Nat) (h : i < us.length), (j : Int) = i /\ (∀ x ∈ us.take i, outP ok l c x = false) /\ outP ok l c us[i] = true) := zpa (fun h2 => ⟨j, hlt, rfl, HNM.out, (congrArg (outP ok l c) hp.symm).trans h2⟩)
   have i1 : (0 : Int) ≤ (j : Int) := by omega
   have i2 : (j : Int) < (us.length : Int) := by omega
   clear hbx hc hp
   go_wp2_with (first | (refine wl_loadT xk zhm Tryz.underlying63 rfl rfl _ rfl g (off + j * 4) rfl p HRA.out ?_) | fail)
   refine (HFW.out.call p).mono ?_
   rw [HOK.out]
   rintro e w1 ⟨rfl, hb1⟩
   have HB1 := zpb HBX hb1
   clear hb1
   rcases hq : outP ok l c p with _ | _
   ·have HQ := zpa (HTS.out hq)
    clear hq
    go_wp2
    go_roundw
    case rel => exact ⟨j + 1, by omega, by go_num, HQ.out, HB1.out⟩
    case measure => simp [intOf]; omega
   ·have HQ := zpa (HEQ.out hq)
    clear hq
    go_wp2
    go_ret
    exact ⟨j, rfl, HB1.out, .inr HQ.out⟩
  ·obtain rfl : j = us.length := by omega
   have HN : Hid (∀ x ∈ us, outP ok l c x = false) := zpa (by have := HNM.out; rwa [List.take_length] at this)
   clear hbx
   go_wp2
   go_ret
   exact ⟨-1, rfl, HBX.out, .inl ⟨rfl, HN.out⟩⟩
theorem zop {ops : Array Oper} {rest : List Oper} {o : Oper} {a : Act} {w : World} {Q : Exit -> Act -> World -> Prop} (hgd : o.guard = none) (x : Operand) (ho : o.op = .call { callee := .builtin .clear, args := #[x], argTypes := #[35] })
  (g cap n m : Nat) (l : List (V.Hit × Sd)) (hr : ERow 63 4 hE w g l) (hn : n + m = l.length) (hn0 : 0 < n) (hx : a.eval x = .slice (some ⟨g, m * 4, none⟩) n cap)
  (h : ∀ W, ERow 63 4 hE W g (l.take m) -> w.grownBy W (some g) -> wpList Tryz.prog ops Q rest (a.put o.dst (.tuple #[])) W) : wpList Tryz.prog ops Q (o :: rest) a w := by
 obtain ⟨z, hz⟩ : ∃ z : Array Value, z = (hE (⟨0, [], 0, []⟩, ⟨none, 0, 0⟩)).toArray := ⟨_, rfl⟩
 have hzv : ∀ w, (zeroValue 63).run Tryz.prog w = .ok (.agg z) w := by
  intro w; rw [hz]; exact Tryz.zeroValue63 w
 have hone : ∀ v ∈ (Builtin.zeroCells z n).toList, v.oneCell' = true := fun v hv => by
  unfold Builtin.zeroCells at hv
  rw [Array.mem_toList_iff, Array.mem_map] at hv
  obtain ⟨i, _, rfl⟩ := hv
  have hs : z.size = 4 := by rw [hz]; rfl
  rw [getElem!_pos _ _ (by rw [hs]; omega)]
  subst hz
  exact zc3 (⟨0, [], 0, []⟩, ⟨none, 0, 0⟩) _ (by simp)
 have hlen : (Builtin.zeroCells z n).toList.length = n * 4 := by
  unfold Builtin.zeroCells
  rw [hz]; simp [hE]
 have hrun : (Builtin.clear_ #[35] o.type #[.slice (some ⟨g, m * 4, none⟩) n cap]).run Tryz.prog w = .ok (.tuple #[]) (w.setCells g (m * 4) (Builtin.zeroCells z n).toList) := by
  have hth : ∀ j, j < n * 4 -> (w.cell? ⟨g, m * 4 + j, none⟩).isSome = true /\ w.frozen? ⟨g, m * 4 + j, none⟩ = false := fun j hj => by
   obtain ⟨cs, hg, hs, _⟩ := hr
   exact zra
  have hst := run_storeCells_cells (P := Tryz.prog) g (m * 4) (Builtin.zeroCells z n).toList 0 w (fun j hj => (hth j (by rw [hlen] at hj; exact hj)).1) (fun j hj => (hth j (by rw [hlen] at hj; exact hj)).2) hone
  simp only [Nat.add_zero] at hst
  obtain ⟨n', rfl⟩ : ∃ n', n = n' + 1 := ⟨n - 1, by omega⟩
  simp [Builtin.clear_, run_underlying Tryz.underlying35, hzv, hst, Value.cells]
 refine wpList_plain hgd fun K hK => ?_
 unfold Oper.wp execOp
 simp only [ho, resolve, invoke, builtin, Sem.run_bind, Sem.run_pure, Result.andThen_ok, List.map_toArray, List.map_cons, List.map_nil, hx, hrun]
 exact hK _ _ (h _ (hr.tail xk (by omega) _) (kz g _ _ w))
theorem zdr {α : Type} {p : α -> Bool} {us : List α} {j : Nat} (h : j < us.length) : (us.take (j + 1)).filter p = (us.take j).filter p ++ if p us[j] = true then [us[j]] else [] := by
 rw [List.take_succ_eq_append_getElem h, List.filter_append]
 congr 1
 by_cases e : p us[j] = true
 ·rw [if_pos e, List.filter_cons, if_pos e]; rfl
 ·rw [if_neg e, List.filter_cons, if_neg e]; rfl
theorem hdel_any (d : List Int) (time : Int) (v : Value) (l : List V.Comp) (c : Int) (X O : Nat) (hv : Value) (us : List (V.Hit × Sd)) (W0 w : World) (hf : UFix d time v l c X O W0) (hb : Below W0.heap.size W0 w) (hr : HRow W0.heap.size w hv us) (hl : us.length ≤ 1000000) :
  Calls Tryz.prog 44 #[hv, .func (.func 41) #[] #[.pointer (some ⟨X, 0, none⟩), .pointer (some ⟨O, 0, none⟩)]] w fun e w' => ∃ v', e = .returned v' /\ zcc w' v' (us.filter fun x => !outP (V.qc d time l) l c x) /\ Below W0.heap.size W0 w' := by
 have HF := zpa hf
 have HB := zpa hb
 have HR := zpa hr
 obtain ⟨va, vc, rfl⟩ := hr.row.slice
 generalize hok : V.qc d time l = ok at *
 have HOK := zpa hok
 clear hf hb hr hok
 go_enter Tryz.func44, Tryz.ntmps44
 go_wp2_with fail
 refine (hidx_any d time v l c X O _ us w (HF.out.below HB.out) (GRow.gsl xk HR.out.row) hl).mono ?_
 rw [HOK.out]
 rintro e w1 ⟨i, rfl, hb1, hi⟩
 have HB1 := zpb HB hb1
 have HR1 := zpa (HR.out.below hb1)
 clear hb1
 rcases hi with ⟨rfl, hi⟩ | ⟨j0, hj0, rfl, hi, hp⟩
 ·have HE : Hid ((us.filter fun x => !outP ok l c x) = us) := zpa (List.filter_eq_self.2 (fun x hx => by rw [hi x hx]; rfl))
  clear hi
  go_wp2
  go_ret
  exact ⟨_, rfl, by rw [HE.out]; exact HR1.out.list, HB1.out⟩
 ·rcases GRow.row xk HR1.out.row with ⟨_, e⟩ | ⟨g, cap, hve, hN, hcap, hrow⟩
  ·subst e; simp at hj0
  ·obtain ⟨e1, _, e3⟩ := Value.slice.inj hve
   subst e1 e3
   have HROW := zpa hrow
   have HK0 : Hid ((us.take (j0 + 1)).filter (fun x => !outP ok l c x) = us.take j0) := zpa (by
     rw [zdr hj0, if_neg (by rw [hp]; simp), List.append_nil]
     exact List.filter_eq_self.2 (fun x hx => by rw [hi x hx]; rfl))
   have HN := zpa hN
   have HT1 : Hid (∃ cs, w1.heap[g]? = some (.cells cs 63 (0, 0))) := zpa (by obtain ⟨cs, h1, _⟩ := hrow; exact ⟨cs, h1⟩)
   have hj9 : j0 < 1000000 := by omega
   have j1 : ((j0 : Int) == -1) = false := by rw [zpe]; omega
   clear hve hi hp hrow hN
   go_wp2_with fail
   go_loopw [5, 6] (fun iv jv wx => ∃ (q j : Nat) (cur : List (V.Hit × Sd)), q < j /\ j ≤ us.length /\ iv = .int .i64 q /\ jv = .int .i64 j /\ cur.length = us.length /\ ERow 63 4 hE wx g cur /\ cur.take q = (us.take j).filter (fun x => !outP ok l c x) /\ (∀ i (h : i < cur.length) (h' : i < us.length), j ≤ i -> cur[i] = us[i]) /\ w1.grownBy wx (some g)) (fun _ jv _ => us.length - (intOf jv).toNat)
   case atStart => exact ⟨j0, j0 + 1, us, Nat.lt_succ_self _, hj0, rfl, by go_num, rfl, HROW.out, HK0.out.symm, fun _ _ _ _ => rfl, vp _ _⟩
   case round =>
    clear HK0 HROW
    obtain ⟨q, j, cur, hqj, hj, rfl, rfl, hcl, hrow, htk, hsame, hgr⟩ := hrel
    have HROW := zpa hrow
    have HTK := zpa htk
    have HCL := zpa hcl
    have HSAME := zpa hsame
    have HGR := zpa hgr
    have HBR : Hid (Below W0.heap.size W0 wr) := zpa (HB1.out.grown hgr HB1.out.size (fun b e => by cases e; exact HN.out))
    clear hrow htk hcl hsame hgr
    by_cases hlt : j < us.length
    ·have hjc : j < cur.length := by rw [HCL.out]; exact hlt
     obtain ⟨p, hp⟩ : ∃ p : V.Hit × Sd, p = us[j] := ⟨_, rfl⟩
     have hpc : cur[j] = p := (HSAME.out j hjc hlt (zpc _)).trans hp.symm
     have hra : wr.rangeAt g (j * 4) (hE p) := by rw [← hpc]; exact HROW.out.at xk hjc
     have hqc : q < cur.length := by omega
     have HQC := zpa hqc
     have HTS : Hid ((us.take (j + 1)).filter (fun x => !outP ok l c x) = cur.take q ++ if (!outP ok l c p) = true then [p] else []) := zpa (by rw [zdr hlt, HTK.out, hp])
     have HTK2 : Hid ((cur.set q p).take (q + 1) = cur.take q ++ [p]) := zpa (by
       rw [List.take_succ_eq_append_getElem (by rw [List.length_set]; exact hqc), List.take_set_of_le (zpc _), List.getElem_set_self])
     have HSM : Hid (∀ i (h : i < (cur.set q p).length) (h' : i < us.length), j + 1 ≤ i -> (cur.set q p)[i] = us[i]) := zpa (fun i h h' hi => by
       rw [List.getElem_set_ne (by omega)]
       exact HSAME.out i (by rw [List.length_set] at h; exact h) h' (by omega))
     have HSM2 : Hid (∀ i (h : i < cur.length) (h' : i < us.length), j + 1 ≤ i -> cur[i] = us[i]) := zpa (fun i h h' hi => HSAME.out i h h' (by omega))
     have HCL2 : Hid ((cur.set q p).length = us.length) := zpa (by rw [List.length_set]; exact HCL.out)
     clear hp hpc hqc
     obtain ⟨⟨a0, b0, s0, dc⟩, ⟨sa, sn, sc⟩⟩ := p
     have e0 : wr.cell? ⟨g, j * 4, none⟩ = some (.int .i64 a0) := hra 0 _ rfl
     have e1 : wr.cell? ⟨g, j * 4 + 1, none⟩ = some (.string ⟨b0.toArray⟩) := hra 1 _ rfl
     have e2 : wr.cell? ⟨g, j * 4 + 2, none⟩ = some (.int .i64 s0) := hra 2 _ rfl
     have e3 : wr.cell? ⟨g, j * 4 + 3, none⟩ = some (.slice sa sn sc) := hra 3 _ rfl
     have hb2 : Below wr.heap.size wr (wr.alloc (.cells #[.int .i64 a0, .string ⟨b0.toArray⟩, .int .i64 s0, .slice sa sn sc] 63)) := (zpd _ wr).alloc (zpc _) _
     have HB2 := zpb HBR hb2
     have HROW2 := zpa (HROW.out.below hb2)
     have HG2 := zpa (HGR.out.trans (jp hb2 (some g)))
     have HY2 : Hid ((wr.alloc (.cells #[.int .i64 a0, .string ⟨b0.toArray⟩, .int .i64 s0, .slice sa sn sc] 63)).heap[wr.heap.size]? = some (.cells #[.int .i64 a0, .string ⟨b0.toArray⟩, .int .i64 s0, .slice sa sn sc] 63 (0, 0))) := zpa (heap_alloc_new wr _)
     have HFW := zpa (HF.out.below HB2.out)
     have j1 : (0 : Int) ≤ (j : Int) := by omega
     have j2 : (j : Int) < (us.length : Int) := by omega
     have j3 : (0 : Int) ≤ (q : Int) := by omega
     have j4 : (q : Int) < (us.length : Int) := by omega
     clear hb2 hra hjc
     go_wp2_with fail
     clear e0 e1 e2 e3
     generalize wr.alloc (.cells #[.int .i64 a0, .string ⟨b0.toArray⟩, .int .i64 s0, .slice sa sn sc] 63) = w2 at *
     generalize wr.heap.size = Y at *
     refine (HFW.out.call (⟨a0, b0, s0, dc⟩, ⟨sa, sn, sc⟩)).mono ?_
     rw [HOK.out]
     rintro e w3 ⟨rfl, hb3⟩
     have HB3 := zpb HB2 hb3
     have HROW3 := zpa (HROW2.out.below hb3)
     have HG3 := zpa (HG2.out.trans (jp hb3 (some g)))
     have HY3 := zpa ((hb3.block _ (Array.getElem?_eq_some_iff.1 HY2.out).1).trans HY2.out)
     clear hb3
     have y0 : w3.cell? ⟨Y, 0, none⟩ = some (.int .i64 a0) := by rw [cell_of_row _ _ _ _ _ _ HY3.out]; rfl
     have y1 : w3.cell? ⟨Y, 1, none⟩ = some (.string ⟨b0.toArray⟩) := by rw [cell_of_row _ _ _ _ _ _ HY3.out]; rfl
     have y2 : w3.cell? ⟨Y, 2, none⟩ = some (.int .i64 s0) := by rw [cell_of_row _ _ _ _ _ _ HY3.out]; rfl
     have y3 : w3.cell? ⟨Y, 3, none⟩ = some (.slice sa sn sc) := by rw [cell_of_row _ _ _ _ _ _ HY3.out]; rfl
     rcases hq : outP ok l c (⟨a0, b0, s0, dc⟩, ⟨sa, sn, sc⟩) with _ | _
     ·have HT9 : Hid ((cur.set q (⟨a0, b0, s0, dc⟩, ⟨sa, sn, sc⟩)).take (q + 1) = (us.take (j + 1)).filter (fun x => !outP ok l c x)) := zpa (by rw [HTS.out, hq, HTK2.out]; rfl)
      clear hq
      go_wp2_with (first
        | (refine znf xk zc3 zhm rfl _ _ rfl g cur HROW3.out q HQC.out rfl (⟨a0, b0, s0, dc⟩, ⟨sa, sn, sc⟩) rfl ?_; intro w9 hr9 hg9; clear y0 y1 y2 y3)
        | fail)
      have HR9 := zpa hr9
      have HG9 := zpa (HG3.out.trans hg9)
      clear hr9 hg9
      go_wp2
      go_roundw
      case rel => exact ⟨q + 1, j + 1, _, by omega, by omega, by go_num, by go_num, HCL2.out, HR9.out, HT9.out, HSM.out, HG9.out⟩
      case measure => simp [intOf]; omega
     ·have HT9 : Hid (cur.take q = (us.take (j + 1)).filter (fun x => !outP ok l c x)) := zpa (by rw [HTS.out, hq, if_neg (by decide), List.append_nil])
      clear hq
      go_wp2
      go_roundw
      case rel => exact ⟨q, j + 1, cur, by omega, by omega, rfl, by go_num, HCL.out, HROW3.out, HT9.out, HSM2.out, HG3.out⟩
      case measure => simp [intOf]; omega
    ·obtain rfl : j = us.length := by omega
     have HKE : Hid (cur.take q = us.filter (fun x => !outP ok l c x)) := zpa (by rw [HTK.out, List.take_length])
     have HLQ : Hid ((us.filter (fun x => !outP ok l c x)).length = q) := zpa (by rw [← HKE.out, List.length_take, HCL.out]; omega)
     have hnq : ((us.length : Int) - (q : Int)) = ((us.length - q : Nat) : Int) := by omega
     have hcq : vc ≠ q := by omega
     have hq1 : (0 : Int) ≤ (q : Int) := by omega
     have hq2 : (q : Int) ≤ (us.length : Int) := by omega
     have hq3 : (q : Int) ≤ (vc : Int) := by omega
     go_wp2_with (first | (refine zop rfl _ rfl g (vc - q) (us.length - q) q cur HROW.out (by rw [HCL.out]; omega) (by omega) rfl ?_; intro w9 hr9 hg9) | fail)
     rw [HKE.out] at hr9
     have HR9 := zpa hr9
     have HG9 := zpa (HGR.out.trans hg9)
     have HB9 : Hid (Below W0.heap.size W0 w9) := zpa (HB1.out.grown HG9.out HB1.out.size (fun b e => by cases e; exact HN.out))
     clear hr9 hg9
     go_wp2
     go_ret
     refine ⟨_, rfl, ⟨?_, fun x hx => ?_⟩, HB9.out⟩
     ·have := HR9.out.gsl xk (cap := vc)
      rw [HLQ.out] at this
      exact this
     ·exact (HR1.out.each x (List.mem_filter.1 hx).1).grow HG9.out (fun b e => by
        cases e
        obtain ⟨cs, hcs⟩ := HT1.out
        exact ⟨cs, _, _, hcs, by decide⟩)
def zht (ok : Bool) (ys : List V.Note) (l : List V.Comp) (c : Int) (w : World) (e : Ending) (w' : World) : Prop := ∃ v' us, e = .returned v' /\ zcc w' v' us /\ us.map (·.1) = V.uf l (V.jq ok ys l) c /\ Below w.heap.size w w'
theorem zeo {ok : Bool} {ys : List V.Note} {l : List V.Comp} {h : V.Hit} (hh : h ∈ V.jq ok ys l) : ok = true /\ 0 ≤ h.comp /\ h.comp < l.length := by
 unfold V.jq at hh
 split at hh
 ·rename_i q
  have := V.zd3 h hh
  exact ⟨q, this.1, this.2.2⟩
 ·simp at hh
theorem zny {ok : Bool} {ys : List V.Note} {l : List V.Comp} (c : Int) {us : List (V.Hit × Sd)} (h : us.map (·.1) = V.jq ok ys l) : (us.filter fun x => !outP ok l c x).map (·.1) = V.uf l (V.jq ok ys l) c := by
 have e : (us.filter fun x => !outP ok l c x) = us.filter ((fun h : V.Hit => decide (c ∈ V.pathOf ok l h.comp)) ∘ (·.1)) := by
  congr 1
  funext x
  unfold outP
  simp
 rw [e, ← List.filter_map, h]
 unfold V.uf
 refine List.filter_congr fun x hx => ?_
 obtain ⟨h1, h2, h3⟩ := zeo hx
 unfold V.pathOf
 rw [if_pos ⟨h1, h2, h3⟩]
 simp only [List.mem_reverse]
theorem zbf {ok : Bool} {ys : List V.Note} {l : List V.Comp} : (V.jq ok ys l).length ≤ l.length * ys.length := by
 unfold V.jq
 split
 ·exact V.wj ys l l.length
 ·simp
theorem zho (d : List Int) (time : Int) (v : Value) (l : List V.Comp) (nv : Value) (xs : List NV) (c : Int) (w : World) (hm : zm w) (hd : d.length = 32) (hdw : ∀ n ∈ d, (Lit.int .u8 n).wf = true) (hv : Comps w v l) (hl : l.length ≤ 100) (hn : Notes w nv xs) (hx : xs.length ≤ 900) :
  Calls Tryz.prog 19 #[.agg (icells d time v), nv, .int .i64 c] w (zht (V.qc d time l) (xs.map (·.n)) l c w) := by
 have HD := zpa hd
 have HDW := zpa hdw
 have HX := zpa hx
 have HLL := zpa hl
 have HSZ := zpa (qo hd time v)
 obtain ⟨W0, hW0⟩ : ∃ W0, W0 = (w.alloc (.cells (icells d time v) 29)).alloc (.cells #[.int .i64 c] 3) := ⟨_, rfl⟩
 have hb0 : Below w.heap.size w W0 := by rw [hW0]; exact ((zpd w.heap.size w).alloc (zpc _) _).alloc (by simp) _
 have HB0 := zpa hb0
 have HNV := zpa (hn.below hb0)
 have HF : Hid (UFix d time v l c w.heap.size (w.heap.size + 1) W0) := zpa ⟨hm.below hb0, hd, hdw, hv.below hb0, by omega, by rw [hW0, heap_alloc, if_neg (by simp), heap_alloc, if_pos rfl], by rw [hW0, heap_alloc, if_pos (by simp)]⟩
 have HW := zpa hW0
 clear hd hdw hm hv hn hb0 hW0
 go_enter Tryz.func19, Tryz.ntmps19
 go_wp2_with (first | (rw [← HW.out]; refine wpList_load_row rfl _ _ rfl w.heap.size rfl _ (icells d time v) (0, 0) _ HF.out.inv Tryz.underlying29 rfl (by rw [jg, HSZ.out]) ?_) | fail)
 refine (ze5 d time v l nv xs W0 HF.out.m HD.out HDW.out HF.out.comps HLL.out HNV.out (by have := HX.out; omega)).mono ?_
 rintro e w1 ⟨hv1, us, rfl, hrow, hsaid, hb1⟩
 have HROW := zpa hrow
 have HSD := zpa hsaid
 have HB1 := zpa hb1
 have HUL : Hid (us.length ≤ 1000000) := zpa (by
   have h1 := zbf (ok := V.qc d time l) (ys := xs.map (·.n)) (l := l)
   rw [← hsaid, List.length_map, List.length_map] at h1
   have h2 : l.length * xs.length ≤ 100 * 900 := Nat.mul_le_mul HLL.out HX.out
   omega)
 clear hrow hsaid hb1
 go_wp2_with fail
 refine (hdel_any d time v l c w.heap.size (w.heap.size + 1) hv1 us W0 w1 HF.out HB1.out HROW.out HUL.out).mono ?_
 rintro e w2 ⟨v2, rfl, hlist, hb2⟩
 have HLI := zpa hlist
 have HB2 := zpb HB0 hb2
 clear hlist hb2
 go_wp2
 go_ret
 exact ⟨_, _, rfl, HLI.out, zny c HSD.out, HB2.out⟩
theorem zfl (c : V.Comp) (w : World) (hm : zm w) (hc : CompWf c) :
  Calls Tryz.prog 58 #[cval c] w fun e w' => e = .returned (.bool (V.yd c)) /\ Below w.heap.size w w' := by
 have HM := zpa hm
 have HC := zpa hc
 have h1 := zfv c
 have h2 := zf7 c
 have h3 := zfr c
 have HD : Hid (V.yd c = (V.valid c.sch c.ver && V.jj c.name)) := zpa (Bool.and_comm _ _)
 have hn := zpa hc.name
 have hv := zpa hc.ver
 clear hm hc
 unfold cval
 generalize ccells c = cs at *
 generalize V.yd c = r at *
 obtain ⟨par, sch, name, ver, dig⟩ := c
 simp only at *
 go_enter Tryz.func58, Tryz.ntmps58
 go_wp2_with fail
 refine (zb1 _ _ _ (HM.out.below ((zpd _ w).alloc (zpc _) _)) (by show ver.toArray.size ≤ _; simpa using hv.out)).mono ?_
 rintro e w1 ⟨rfl, hb1⟩
 have hb0 := (zpd w.heap.size w).alloc (zpc _) (.cells cs 60)
 have HB1 := zpa (hb0.trans (hb1.mono hb0.size))
 have hc2 : w1.cell? ⟨w.heap.size, 2, none⟩ = some (.string ⟨name.toArray⟩) := by rw [hb1.cell (p := ⟨w.heap.size, 2, none⟩) (by simp), World.cell?_alloc_new]; exact h2
 clear hb0 hb1 h1 h2 h3
 rw [ja]
 rcases hp : V.valid sch ver with _ | _
 ·rw [hp] at HD
  clear hp
  go_wp2
  go_ret
  exact ⟨zf HD.out.symm, HB1.out⟩
 ·rw [hp] at HD
  clear hp
  go_wp2_with fail
  refine (zh1 _ _ (HM.out.below HB1.out) (by show name.toArray.size ≤ _; simpa using hn.out)).mono ?_
  exact zr4
open Go.RowKit
theorem vv (t : Int) (w : World) :
  Calls Tryz.prog 57 #[.int .i64 t] w fun e w' => e = .returned (.bool (decide (0 ≤ t) && decide (t ≤ 1099511627776))) /\ w' = w := by
 go_enter Tryz.func57, Tryz.ntmps57
 by_cases h1 : 0 ≤ t
 ·have e1 : decide (0 ≤ t) = true := decide_eq_true h1
  rw [e1]
  go_wp2
  go_ret
  exact ⟨rfl, rfl⟩
 ·have e1 : decide (0 ≤ t) = false := decide_eq_false h1
  rw [e1]
  go_wp2
  go_ret
  exact ⟨rfl, rfl⟩
end Go.Proofs.YtbikeahmldobkaaGreatDoor
