/-
  Lemmas for the law.
-/
import Derived.Test.YtiloljoancdcbaaGreatDoorC40x03
import Derived.Test.YtiloljoancdcbaaGreatDoorC40x27
import Derived.Test.YtiloljoancdcbaaGreatDoorC40x40
import Derived.RangeFuncLeaves
import Derived.WalkMore
set_option linter.all false
set_option maxRecDepth 100000
set_option maxHeartbeats 1000000
namespace Go.Proofs.YtiloljoancdcbaaGreatDoor
open Go.RowKit Go.Shelf
attribute [local go_sem] Oper.semAt_some
theorem zey {c : UInt8} {r : V.Bs} {i : Nat} (h : Lib.indexByte r c = i) : V.zd c r = r.take i :: V.zd c (r.drop (i + 1)) /\ i < r.length := by
 have hm : c ∈ r := by
  have := V.xx r c
  rw [h] at this
  simpa using this.symm
 have hi : ((r.takeWhile (· != c)).length) = i := by
  have h1 : Lib.index r [c] = Lib.indexByte r c := Lib.index_one r c
  rw [V.index_one, if_pos hm, h] at h1
  omega
 have hlt := V.tw_lt hm
 refine ⟨?_, by omega⟩
 have h2 := V.zji r (· != c)
 rw [hi] at h2
 rw [V.vr hm, hi, h2]
theorem zqy {c : UInt8} {r : V.Bs} (h : Lib.indexByte r c = -1) : V.zd c r = [r] := by
 refine V.jy fun e => ?_
 have := V.xx r c
 rw [h] at this
 simp [e] at this
theorem zra (r : V.Bs) : Lib.bytesOf (r.map fun b => (b.toNat : Int)) = r := by
 unfold Lib.bytesOf
 rw [List.map_map]
 conv => rhs; rw [← List.map_id r]
 apply List.map_congr_left
 intro b _
 simp
theorem zjs (c : UInt8) (g o cap b2 d : Nat) (r : V.Bs) (W : World) (hc : ∀ j (h : j < r.length), W.cell? ⟨g, o + j, none⟩ = some (.int .u8 (r[j]).toNat)) (h2 : W.cell? ⟨b2, 0, none⟩ = some (.int .u8 c.toNat)) :
  Calls Tryz.prog 96 #[.slice (some ⟨g, o, none⟩) r.length cap, .slice (some ⟨b2, 0, none⟩) 1 d] W fun e w' => e = .returned (.int .i64 (Lib.indexByte r c)) /\ w' = W := by
 have := Tryz.bytes_Index_one_at ⟨g, o, none⟩ r.length cap b2 0 d (r.map fun b => (b.toNat : Int)) c.toNat W (by simp) (fun i hi => by
   rw [Addr.add_mid, hc i hi, List.getD_eq_getElem?_getD, List.getElem?_map, List.getElem?_eq_getElem hi]
   rfl) h2
 rw [zra] at this
 have e : ((c.toNat : Int)).toNat.toUInt8 = c := by simp
 rwa [e] at this
def slLen : Option Value -> Nat
 | some (.slice _ n _) => n
 | _ => 0
def zec (off : Nat) (r0 : V.Bs) (x : Nat × V.Bs) : Prop := ∃ p, ∃ h : p + x.2.length ≤ r0.length, (0 < x.2.length -> x.1 = off + p) /\ ∀ j (hj : j < x.2.length), x.2[j] = r0[p + j]'(by omega)
theorem zec.cells {off : Nat} {r0 : V.Bs} {x : Nat × V.Bs} (h : zec off r0 x) {W : World} {g : Nat} (hc : ∀ j (h : j < r0.length), W.cell? ⟨g, off + j, none⟩ = some (.int .u8 (r0[j]).toNat)) : ∀ j (hj : j < x.2.length), W.cell? ⟨g, x.1 + j, none⟩ = some (.int .u8 (x.2[j]).toNat) := fun j hj => by
 obtain ⟨p, hl, ho, hx⟩ := h
 rw [ho (by omega), hx j hj, Nat.add_assoc]
 exact hc (p + j) (by omega)
def KpO (B O : Nat) (W W' : World) : Prop := W.heap.size ≤ W'.heap.size /\ ∀ q, q < B -> q ≠ O -> W'.heap[q]? = W.heap[q]?
theorem KpO.cell {B O : Nat} {W W' : World} (h : KpO B O W W') {q o : Nat} (hq : q < B) (hO : q ≠ O) : W'.cell? ⟨q, o, none⟩ = W.cell? ⟨q, o, none⟩ := by
 unfold World.cell?
 rw [h.2 q hq hO]
theorem KpO.frozen {B O : Nat} {W W' : World} (h : KpO B O W W') {q o : Nat} (hq : q < B) (hO : q ≠ O) : W'.frozen? ⟨q, o, none⟩ = W.frozen? ⟨q, o, none⟩ := by
 unfold World.frozen?
 rw [h.2 q hq hO]
theorem KpO.trans {B O : Nat} {A C D : World} (h : KpO B O A C) (k : KpO B O C D) : KpO B O A D := ⟨Nat.le_trans h.1 k.1, fun q hq hO => (k.2 q hq hO).trans (h.2 q hq hO)⟩
theorem KpO.put {B O : Nat} {w : World} (hB : B ≤ w.heap.size) (W : World) (l : Nat) (o o' : Obj) (hl : w.heap.size ≤ l) (h : W.heap[l]? = some o) (_ : o.isCells = false) (_ : o.isWalk = false) : KpO B O W (W.putObj l o') :=
 ⟨(grownBy_putObj' W l o').size, fun q hq _ => World.putObj_heap_other (by omega)⟩
theorem zr4 (n : Nat) (hn : 1 ≤ n) (l bS g off cap0 b2 O : Nat) (hO : O < bS) (hOg : g ≠ O) (hO2 : b2 ≠ O) (c : UInt8) (r0 : V.Bs) (hs : r0.length ≤ 1000000) (hcap0 : r0.length ≤ cap0) (hg : g < bS + 3) (hgS : g ≠ bS) (hb2 : b2 < bS + 3) (hb2S : b2 ≠ bS) (J Jx : List (Nat × V.Bs) -> World -> Prop)
  (hJ : ∀ s A v, J s A -> J s (A.setCell ⟨bS, 0, none⟩ v))
  (hY : ∀ pre x W, J pre W -> (zec off r0 x /\ pre.length ≤ r0.length + 1) -> YieldAt Fence.wide (n - 1) Tryz.prog l #[.slice (some ⟨g, x.1, none⟩) x.2.length x.2.length] W fun e W' =>
    (e = .returned (.bool true) /\ J (pre ++ [x]) W' /\ KpO (bS + 3) O W W') ∨ (e = .returned (.bool false) /\ Jx (pre ++ [x]) W'))
  (W : World) (hS : W.cell? ⟨bS, 0, none⟩ = some (.slice (some ⟨g, off, none⟩) r0.length cap0)) (hF : W.frozen? ⟨bS, 0, none⟩ = false) (hP : W.cell? ⟨bS + 1, 0, none⟩ = some (.slice (some ⟨b2, 0, none⟩) 1 1)) (hV : W.cell? ⟨bS + 2, 0, none⟩ = some (.int .i64 0))
  (hC : ∀ j (h : j < r0.length), W.cell? ⟨g, off + j, none⟩ = some (.int .u8 (r0[j]).toNat)) (h2 : W.cell? ⟨b2, 0, none⟩ = some (.int .u8 c.toNat)) (h0 : J [] W) :
  CallsIn Fence.wide n Tryz.prog 123 #[.func (.yield l) #[] #[], .pointer (some ⟨bS + 1, 0, none⟩), .pointer (some ⟨bS, 0, none⟩), .pointer (some ⟨bS + 2, 0, none⟩)] W fun e W' => (∃ v, e = .returned v) /\
   ((∃ ys, ys.map Prod.snd = V.zd c r0 /\ J ys W') ∨ (∃ pre, pre.map Prod.snd <+: V.zd c r0 /\ Jx pre W')) := by
 have HJ := zvq hJ
 have HY := zvq hY
 clear hJ hY
 refine callsIn_of_wp Tryz.func123 rfl trivial ?_ rfl
 simp only [Tryz.ntmps123, List.size_toArray, List.length_cons, List.length_nil, Nat.reduceAdd, Nat.reduceSub, Array.replicate_succ, Array.replicate_zero, List.push_toArray, List.append_toArray, List.nil_append, List.cons_append]
 have HC := zvq hC
 clear hC
 gi_wp2
 gi_loopw [7, 8] (fun _ _ wr => ∃ (pre : List (Nat × V.Bs)) (p o cap : Nat) (r : V.Bs), wr.cell? ⟨bS, 0, none⟩ = some (.slice (some ⟨g, o, none⟩) r.length cap) /\ wr.frozen? ⟨bS, 0, none⟩ = false /\ wr.cell? ⟨bS + 1, 0, none⟩ = some (.slice (some ⟨b2, 0, none⟩) 1 1) /\ wr.cell? ⟨bS + 2, 0, none⟩ = some (.int .i64 0) /\
     (r = r0.drop p /\ p + r.length = r0.length /\ (0 < r.length -> o = off + p)) /\ r.length ≤ cap /\ pre.map Prod.snd ++ V.zd c r = V.zd c r0 /\ (∀ j (h : j < r0.length), wr.cell? ⟨g, off + j, none⟩ = some (.int .u8 (r0[j]).toNat)) /\ wr.cell? ⟨b2, 0, none⟩ = some (.int .u8 c.toNat) /\ J pre wr)
  (fun _ _ wr => slLen (wr.cell? ⟨bS, 0, none⟩))
 case atStart => exact ⟨[], 0, off, cap0, r0, hS, hF, hP, hV, ⟨rfl, by omega, fun _ => rfl⟩, hcap0, rfl, HC.out, h2, h0⟩
 case round =>
  clear hS hF hP hV h2 h0 HC
  obtain ⟨pre, p, o, cap, r, hS, hF, hP, hV, ⟨hr, hpl, ho⟩, hrc, hpc, hC, h2, hj⟩ := hrel
  have HPC := zvq hpc
  have HJS := zvq hj
  have HC := zvq hC
  have H2 := zvq h2
  have HR := zvq hr
  have HO := zvq ho
  have hCr : ∀ j (h : j < r.length), wr.cell? ⟨g, o + j, none⟩ = some (.int .u8 (r[j]).toNat) := fun j h => by
   have := hC (p + j) (by omega)
   rw [ho (by omega), Nat.add_assoc, this]
   subst hr
   simp
  have HCR := zvq hCr
  clear hj hC h2 hr hCr ho
  have hpn : pre.length ≤ r0.length + 1 := by
   have h1 := congrArg List.length hpc
   have h2 := V.zfu c r0
   simp at h1
   omega
  have HPN := zvq hpn
  clear hpn hpc
  have hcase : (Lib.indexByte r c = -1 /\ V.zd c r = [r]) ∨ ∃ i : Nat, Lib.indexByte r c = i /\ i < r.length /\ V.zd c r = r.take i :: V.zd c (r.drop (i + 1)) := by
   have hge := Lib.indexByte_ge r c
   by_cases hm : Lib.indexByte r c = -1
   ·exact .inl ⟨hm, zqy hm⟩
   ·obtain ⟨i, hi⟩ := Int.eq_ofNat_of_zero_le (show 0 ≤ Lib.indexByte r c by omega)
    exact .inr ⟨i, hi, (zey hi).2, (zey hi).1⟩
  rcases hcase with ⟨hi, hp⟩ | ⟨i, hi, hlt, hp⟩
  ·have HI := zvq hi
   have HPP := zvq hp
   clear hi hp
   have hk1 : (r.length : Int) ≤ (cap : Int) := by omega
   have hpo : zec off r0 (o, r) := ⟨p, Nat.le_of_eq hpl, HO.out, fun j hj => by
     have e := HR.out
     subst e
     simp⟩
   obtain ⟨fn, tmps, assign, body, hy, hRR⟩ := HY.out pre (o, r) wr HJS.out ⟨hpo, HPN.out⟩
   gi_wp2_with fail
   refine ⟨trivial, (callsIn_wide.2 (zjs c g o cap b2 1 r wr HCR.out H2.out)).mono ?_⟩
   rintro e w' ⟨rfl, rfl⟩
   simp only [HI.out]
   gi_wp2
   refine hRR.mono ?_
   rintro e W3 (⟨rfl, hJ3, hk3⟩ | ⟨rfl, hJx3⟩)
   ·gi_wp2
    go_end0
    exact ⟨⟨_, rfl⟩, .inl ⟨_, by rw [← HPC.out, HPP.out, List.map_append]; rfl, hJ3⟩⟩
   ·gi_wp2
    go_end0
    exact ⟨⟨_, rfl⟩, .inr ⟨_, by rw [← HPC.out, HPP.out, List.map_append]; exact List.prefix_refl _, hJx3⟩⟩
  ·have HI := zvq hi
   have HPP := zvq hp
   clear hi hp
   have hoe := HO.out (by omega)
   have hk1 : (i : Int) ≤ (cap : Int) := by omega
   have hk2 : (0 : Int) ≤ (i : Int) := by omega
   have hk3 : ¬ ((i : Int) < 0) := by omega
   have hk4 : IntKind.i64.wrap (i : Int) = (i : Int) := by unfold IntKind.wrap; simp [IntKind.signed, IntKind.bits]; omega
   have hk5 : IntKind.i64.wrap ((i : Int) + 1) = (i : Int) + 1 := by unfold IntKind.wrap; simp [IntKind.signed, IntKind.bits]; omega
   have hk6 : (i : Int) + 1 ≤ (r.length : Int) := by omega
   have hk7 : (r.length : Int) ≤ (cap : Int) := by omega
   have hk8 : (0 : Int) ≤ (i : Int) + 1 := by omega
   have htl : (r.take i).length = i := by rw [List.length_take]; omega
   have hpo : zec off r0 (o, r.take i) := ⟨p, by simp only [htl]; omega, fun _ => hoe, fun j hj => by
     have e := HR.out
     subst e
     simp⟩
   have HOE := zvq hoe
   clear hoe
   obtain ⟨fn, tmps, assign, body, hy, hRR⟩ := HY.out pre (o, r.take i) wr HJS.out ⟨hpo, HPN.out⟩
   simp only [htl] at hy
   obtain ⟨ad, had⟩ : ∃ ad, ad = (if cap = i + 1 then (o : Nat) else o + (i + 1)) := ⟨_, rfl⟩
   have hadv : (if cap = i + 1 then some (⟨g, o, none⟩ : Addr) else some ⟨g, o + (i + 1), none⟩) = some ⟨g, ad, none⟩ := by
    rw [had]; split <;> rfl
   have HAD := zvq had
   clear had
   gi_wp2_with fail
   refine ⟨trivial, (callsIn_wide.2 (zjs c g o cap b2 1 r wr HCR.out H2.out)).mono ?_⟩
   rintro e w' ⟨rfl, rfl⟩
   simp only [HI.out]
   gi_wp2
   refine hRR.mono ?_
   rintro e W3 (⟨rfl, hJ3, hk3⟩ | ⟨rfl, hJx3⟩)
   ·have hS3 := (hk3.cell (q := bS) (o := 0) (by omega) (by omega)).trans hS
    have hF3 := (hk3.frozen (q := bS) (o := 0) (by omega) (by omega)).trans hF
    have hP3 := (hk3.cell (q := bS + 1) (o := 0) (by omega) (by omega)).trans hP
    have hV3 := (hk3.cell (q := bS + 2) (o := 0) (by omega) (by omega)).trans hV
    gi_wp2
    go_roundw
    case rel =>
     have hdl : (r.drop (i + 1)).length = r.length - (i + 1) := List.length_drop
     refine ⟨pre ++ [(o, r.take i)], p + (i + 1), ad, cap - (i + 1), r.drop (i + 1), ?_, ?_, ?_, ?_, ⟨?_, ?_, ?_⟩, ?_, ?_, ?_, ?_, HJ.out _ _ _ hJ3⟩
     ·rw [hdl]
      refine (World.cell?_setCell_same _ _ _ hS3).trans ?_
      first | rfl | rw [hadv]
     ·rw [World.frozen?_setCell]; exact hF3
     ·rw [World.cell?_setCell_other _ _ _ _ (by simp)]; exact hP3
     ·rw [World.cell?_setCell_other _ _ _ _ (by simp)]; exact hV3
     ·rw [HR.out, List.drop_drop]
     ·rw [hdl]; omega
     ·intro h
      rw [hdl] at h
      rw [HAD.out, if_neg (by omega), HOE.out]
      omega
     ·rw [hdl]; omega
     ·rw [← HPC.out, HPP.out, List.map_append]; simp
     ·intro j h
      rw [World.cell?_setCell_other _ _ _ _ (by simp [hgS])]
      exact (hk3.cell (q := g) (o := off + j) hg hOg).trans (HC.out j h)
     ·rw [World.cell?_setCell_other _ _ _ _ (by simp [hb2S])]
      exact (hk3.cell (q := b2) (o := 0) hb2 hO2).trans H2.out
    case measure =>
     rw [World.cell?_setCell_same _ _ _ hS3, hS]
     simp [slLen]; omega
   ·gi_wp2
    refine bodyPost_ret (results_none rfl _ _ _) rfl ?_
    exact ⟨⟨_, rfl⟩, .inr ⟨_, by rw [← HPC.out, HPP.out, List.map_append]; exact ⟨V.zd c (r.drop (i + 1)), by simp⟩, hJx3⟩⟩
theorem zq0 (n : Nat) (hn : 1 ≤ n) (bS g off cap0 b2 O : Nat) (hO : O < bS) (hOg : g ≠ O) (hO2 : b2 ≠ O) (c : UInt8) (r0 : V.Bs) (hs : r0.length ≤ 1000000) (hcap0 : r0.length ≤ cap0) (hg : g < bS) (hb2 : b2 < bS) (w : World) (hb : bS + 2 < w.heap.size)
  (hS : w.cell? ⟨bS, 0, none⟩ = some (.slice (some ⟨g, off, none⟩) r0.length cap0)) (hF : w.frozen? ⟨bS, 0, none⟩ = false) (hP : w.cell? ⟨bS + 1, 0, none⟩ = some (.slice (some ⟨b2, 0, none⟩) 1 1)) (hV : w.cell? ⟨bS + 2, 0, none⟩ = some (.int .i64 0))
  (hC : ∀ j (h : j < r0.length), w.cell? ⟨g, off + j, none⟩ = some (.int .u8 (r0[j]).toNat)) (h2 : w.cell? ⟨b2, 0, none⟩ = some (.int .u8 c.toNat)) :
  HandsP Fence.wide n Tryz.prog 123 #[.pointer (some ⟨bS + 1, 0, none⟩), .pointer (some ⟨bS, 0, none⟩), .pointer (some ⟨bS + 2, 0, none⟩)] (fun x : Nat × V.Bs => #[.slice (some ⟨g, x.1, none⟩) x.2.length x.2.length]) (KpO (bS + 3) O) (fun ys => ys.map Prod.snd = V.zd c r0) (fun pre => pre.map Prod.snd <+: V.zd c r0) (fun pre x => zec off r0 x /\ pre.length ≤ r0.length + 1) w bS := by
 intro l J Jx W hW hJ hY h0
 have hk := fun b o (hb : b < w.heap.size) => hW.cell (p := ⟨b, o, none⟩) hb
 exact zr4 n hn l bS g off cap0 b2 O hO hOg hO2 c r0 hs hcap0 (by omega) (by omega) (by omega) (by omega) J Jx hJ hY W ((hk bS 0 (by omega)).trans hS) ((hW.frozen (p := ⟨bS, 0, none⟩) (show bS < w.heap.size by omega)).trans hF) ((hk (bS + 1) 0 (by omega)).trans hP) ((hk (bS + 2) 0 (by omega)).trans hV)
  (fun j h => (hk g _ (by omega)).trans (hC j h)) ((hk b2 0 (by omega)).trans h2) h0
theorem zk9 (a a2 : Option Addr) (n n2 c c2 : Nat) (w : World) :
  Calls Tryz.prog 97 #[.slice a n c, .slice a2 n2 c2, .int .i64 0] w fun e w' =>
   e = .returned (.func (.func 123) #[] #[.pointer (some ⟨w.heap.size + 1, 0, none⟩), .pointer (some ⟨w.heap.size, 0, none⟩), .pointer (some ⟨w.heap.size + 2, 0, none⟩)]) /\
   w' = ((w.alloc (.cells #[.slice a n c] 36)).alloc (.cells #[.slice a2 n2 c2] 36)).alloc (.cells #[.int .i64 0] 3) := by
 go_enter Tryz.func97, Tryz.ntmps97
 go_wp2
 go_ret
 exact ⟨rfl, rfl⟩
theorem zmb (a a2 : Option Addr) (n n2 c c2 : Nat) (w : World) :
  Calls Tryz.prog 66 #[.slice a n c, .slice a2 n2 c2] w fun e w' =>
   e = .returned (.func (.func 123) #[] #[.pointer (some ⟨w.heap.size + 1, 0, none⟩), .pointer (some ⟨w.heap.size, 0, none⟩), .pointer (some ⟨w.heap.size + 2, 0, none⟩)]) /\
   w' = ((w.alloc (.cells #[.slice a n c] 36)).alloc (.cells #[.slice a2 n2 c2] 36)).alloc (.cells #[.int .i64 0] 3) := by
 go_enter Tryz.func66, Tryz.ntmps66
 go_wp2_with fail
 refine (zk9 a a2 n n2 c c2 w).mono ?_
 rintro e w' ⟨rfl, rfl⟩
 go_wp2
 go_ret
 exact ⟨rfl, rfl⟩
open Go.RowKit Go.Shelf
def ztt (Ds : List Nat) : List Deferred := Ds.map fun D => { target := .collected D, args := #[] }
def Marked (B : Nat) (Ds : List Nat) (W : World) : Prop := Ds.Nodup /\ ∀ D ∈ Ds, B ≤ D /\ W.heap[D]? = some (.deferred (some []))
theorem yx {F : Fence} {n : Nat} {P : Program} {fn : Func} {tmps : Array Value} {R : Ending -> World -> Prop} {T : World -> Prop} {B : Nat} (hT : ∀ D W, B ≤ D -> W.heap[D]? = some (.deferred (some [])) -> T W -> T (W.putObj D (.deferred none)))
  (hend : ∀ W, T W -> ∃ v, (results fn tmps).run P W = .ok v W /\ R (.returned v) W) : ∀ (Ds : List Nat) (W : World), Marked B Ds W -> T W -> LeavesInM F n P fn tmps R (ztt Ds) .returning W
 | [], W, _, h => hend W h
 | D :: Ds, W, hm, h => by
  obtain ⟨hnd, hd⟩ := hm
  obtain ⟨hB, hD⟩ := hd D (List.mem_cons_self ..)
  rw [List.nodup_cons] at hnd
  refine ⟨by simp, .inl ⟨D, _, rfl, run_takeDeferred hD, yx hT hend Ds _ ⟨hnd.2, fun D' h' => ?_⟩ (hT D W hB hD h)⟩⟩
  rw [World.putObj_heap_other (fun e => hnd.1 (by rw [← e]; exact h'))]
  exact hd D' (List.mem_cons_of_mem _ h')
theorem Marked.below {B : Nat} {Ds : List Nat} {w w' : World} (h : Marked B Ds w) (hb : Below w.heap.size w w') : Marked B Ds w' :=
 ⟨h.1, fun D hD => ⟨(h.2 D hD).1, (hb.block D (Array.getElem?_eq_some_iff.1 (h.2 D hD).2).1).trans (h.2 D hD).2⟩⟩
theorem Marked.cons {B : Nat} {Ds : List Nat} {w w' : World} {D : Nat} (h : Marked B Ds w) (hb : Below w.heap.size w w') (hB : B ≤ w.heap.size) (hD : w.heap.size ≤ D) (hd : w'.heap[D]? = some (.deferred (some []))) : Marked B (D :: Ds) w' := by
 have h2 := h.below hb
 refine ⟨List.nodup_cons.2 ⟨fun hm => ?_, h2.1⟩, fun D' h' => ?_⟩
 ·have := (Array.getElem?_eq_some_iff.1 (h.2 D hm).2).1
  omega
 ·rcases List.mem_cons.1 h' with rfl | h'
  ·exact ⟨Nat.le_trans hB hD, hd⟩
  ·exact h2.2 D' h'
theorem znc {W : World} {D : Nat} (hD : W.heap[D]? = some (.deferred (some []))) {b o : Nat} {v : Value} (h : W.cell? ⟨b, o, none⟩ = some v) : (W.putObj D (.deferred none)).cell? ⟨b, o, none⟩ = some v :=
 cell_kept h (grownBy_putObj' _ D (.deferred none)) (fun r e => by cases e; exact ⟨_, hD, rfl⟩)
theorem znu (W : World) (D : Nat) (o : Obj) : (W.putObj D o).heap.size = W.heap.size := by simp [World.putObj]
theorem Lines.mark {W : World} {D : Nat} (hD : W.heap[D]? = some (.deferred (some []))) {v : Value} {ls : List (List V.Bs)} (h : Lines W v ls) : Lines (W.putObj D (.deferred none)) v ls := by
 obtain ⟨a, cap, e, hc⟩ := h
 refine ⟨a, cap, e, fun j hj => ?_⟩
 obtain ⟨b, off, u, ea, hlt, hr, ⟨a2, cap2, e2, hc2⟩⟩ := hc j hj
 refine ⟨b, off, u, ea, by rw [znu]; exact hlt, znc hD hr, ⟨a2, cap2, e2, fun i hi => ?_⟩⟩
 obtain ⟨b2, off2, ea2, hlt2, hr2⟩ := hc2 i hi
 exact ⟨b2, off2, ea2, by rw [znu]; exact hlt2, znc hD hr2⟩
theorem cutB_any (c : UInt8) (g o cap b2 : Nat) (r : V.Bs) (w : World) (hm : zg w) (hl : r.length ≤ 1000000) (hcap : r.length ≤ cap) (h0 : 0 < r.length) (hc : ∀ j (h : j < r.length), w.cell? ⟨g, o + j, none⟩ = some (.int .u8 (r[j]).toNat)) (h2 : w.cell? ⟨b2, 0, none⟩ = some (.int .u8 c.toNat)) :
  Calls Tryz.prog 65 #[.slice (some ⟨g, o, none⟩) r.length cap, .slice (some ⟨b2, 0, none⟩) 1 1] w fun e w' => e = .returned (Lib.cutV (some ⟨g, o, none⟩) r.length cap 1 (Lib.indexByte r c)) /\ Below w.heap.size w w' := by
 have hge := Lib.indexByte_ge r c
 refine (Tryz.bytes_Cut_of (some ⟨g, o, none⟩) (some ⟨b2, 0, none⟩) r.length cap 1 1 (Lib.indexByte r c) w hcap (by omega) (fun h => ?_) (by omega) ((zjs c g o cap b2 1 r w hc h2).mono ?_)).mono ?_
 ·obtain ⟨i, hi⟩ := Int.eq_ofNat_of_zero_le h
  have := (zey hi).2
  omega
 ·rintro e w' ⟨rfl, rfl⟩
  exact ⟨rfl, 0, rfl⟩
 ·rintro e w' ⟨rfl, q, rfl⟩
  exact ⟨rfl, below_drewN (zvt _ _) q⟩
attribute [local go_sem] Oper.semAt_some
theorem zos (y : V.Bs) (w : World) (hs : y.length ≤ 1000000) : Calls Tryz.prog 67 #[.string ⟨y.toArray⟩] w fun e w' => e = .returned (.tuple #[.string ⟨(V.unwP y).1.toArray⟩, .bool (V.unwP y).2]) /\ Below w.heap.size w w' := by
 have := zl9 ⟨y.toArray⟩ w (by rw [yi]; exact hs)
 rwa [kk] at this
theorem zbm {w W : World} {D : Nat} (hB : w.heap.size ≤ D) (hD : W.heap[D]? = some (.deferred (some []))) (h : Below w.heap.size w W) : Below w.heap.size w (W.putObj D (.deferred none)) :=
 h.trans (belowK_b (w := w) (zvs _) W D _ _ hB hD rfl rfl)
theorem zbz (w : World) (b o : Nat) (u : Value) : w.grownBy (w.setCell ⟨b, o, none⟩ u) (some b) :=
 ⟨rfl, rfl, rfl, by simp [World.setCell], fun k _ hk => Below.heap_setCell _ _ _ _ (fun e => hk (by rw [e]))⟩
section
variable {α : Type} {enc : α -> List Value} {k : Nat} {T : TypeId}
theorem GRow.cellsAt {w : World} {N : Nat} {v : Value} {l : List α} (h : GRow T k enc w N v l) {b : Nat} (hb : v.ownBlock = some b) : ∃ cur, w.heap[b]? = some (.cells cur T (0, 0)) := by
 rcases h.2 with ⟨rfl, _⟩ | ⟨g, cap, cur, rfl, _, hg, _⟩
 ·cases hb
 ·simp [Value.ownBlock] at hb
  subst hb
  exact ⟨cur, hg⟩
theorem GRow.own {w w' : World} {N : Nat} {v : Value} {l : List α} (h : GRow T k enc w N v l) {row : Option Nat} (hg : w.grownBy w' row) (hr : ∀ r, row = some r -> ∃ o : Obj, w.heap[r]? = some o /\ o.isCells = false) : GRow T k enc w' N v l := by
 have hc := fun b (hb : v.ownBlock = some b) => h.cellsAt hb
 refine ⟨h.1, ?_⟩
 rcases h.2 with h2 | ⟨g, cap, cur, rfl, hb, hgg, rest⟩
 ·exact .inl h2
 ·refine .inr ⟨g, cap, cur, rfl, hb, ?_, rest⟩
  rw [hg.block g (Array.getElem?_eq_some_iff.1 hgg).1 (fun e => ?_)]
  ·exact hgg
  ·obtain ⟨o, ho, hoc⟩ := hr g e.symm
   rw [hgg] at ho
   cases ho
   cases hoc
theorem GRow.keepsO {w w' : World} {N : Nat} {v : Value} {l : List α} (h : GRow T k enc w N v l) (hg : w.grownBy w' v.ownBlock) : KeepsOthers w w' :=
 ⟨hg.size, fun i o ho hc => (hg.block i (Array.getElem?_eq_some_iff.1 ho).1 (fun e => by
   obtain ⟨cur, hcur⟩ := h.cellsAt e.symm
   rw [ho] at hcur
   cases hcur
   cases hc)).trans ho⟩
end
theorem zht {w w' : World} (h : Below w.heap.size w w') : KeepsOthers w w' := ⟨h.size, fun i _ ho _ => (h.block i (Array.getElem?_eq_some_iff.1 ho).1).trans ho⟩
theorem znr {B O : Nat} {w w' : World} (hB : B ≤ w.heap.size) (h : Below w.heap.size w w') : KpO B O w w' := ⟨h.size, fun q hq _ => h.block q (by omega)⟩
theorem kpO_own {β : Type} {B O C : Nat} {w₀ : World} (hB : B ≤ w₀.heap.size) (hC : B ≤ C) : OwnFrom C (fun (_ : β) W => KpO B O w₀ W) := fun _ W W' _ hs hg hr =>
 ⟨Nat.le_trans hs.1 hg.size, fun q hq hO => (hg.block q (by have := hs.1; omega) (fun e => by have := (hr q e.symm).1; omega)).trans (hs.2 q hq hO)⟩
theorem zsa {F : Fence} {n : Nat} {ops : Array Oper} {rest : List Oper} {o : Oper} {a : Act} {w : World} {Q : Exit -> Act -> World -> Prop} (hgd : o.guard = none) (s x : Operand)
  (ho : o.op = .call { callee := .builtin .append, args := #[s, x], argTypes := #[47, 47] })
  (N : Nat) (v : Value) (l : List V.Bs) (hs : a.eval s = v) (hown : GRow 9 1 wrdE w N v l) (b : Nat) (c : V.Bs) (hx : a.eval x = .slice (some ⟨b, 0, none⟩) 1 1) (hr : ∀ j u, (wrdE c)[j]? = some u -> w.cell? ⟨b, j, none⟩ = some u) (hl : l.length ≤ 1000000) (hN : N ≤ w.heap.size)
  (h : ∀ v' w', GRow 9 1 wrdE w' N v' (l ++ [c]) -> w.grownBy w' v.ownBlock -> wpListIn F n Tryz.prog ops Q rest (a.put o.dst v') w') : wpListIn F n Tryz.prog ops Q (o :: rest) a w := by
 obtain ⟨ie, z, hie, hz, h1, h2, h3⟩ := zub
 refine wpListIn_append_own w hgd s x 47 ho N 9 ie z 1 16 Tryz.underlying47 hie hz h1 h2 h3 (by decide) v l.length (l.flatMap wrdE) hs hown ⟨b, 0, none⟩ 1 1 (wrdE c) hx rfl ?_ (zrb c) (by unfold maxLen; omega) (by omega) hN ?_
 ·exact z05
 ·intro v' w' ho' hg _
  refine h v' w' ?_ hg
  exact zz2
theorem zs2 {α : Type} {enc : α -> List Value} {k : Nat} {T : TypeId} {F : Fence} {n : Nat} {ops : Array Oper} {rest : List Oper} {o : Oper} {a : Act} {w : World} {Q : Exit -> Act -> World -> Prop} (hk : ∀ x, (enc x).length = k) (hk0 : 0 < k) (h1c : ∀ x, ∀ u ∈ enc x, u.oneCell' = true) {bytes : Nat} (hi : ye T k bytes) (hby : bytes ≤ 1000) (hgd : o.guard = none) (s x : Operand) (S : TypeId)
  (ho : o.op = .call { callee := .builtin .append, args := #[s, x], argTypes := #[S, S] }) (hu : Tryz.prog.underlying S = some (.slice T))
  (N : Nat) (v : Value) (l : List α) (hs : a.eval s = v) (hown : GRow T k enc w N v l) (b : Nat) (c : α) (hx : a.eval x = .slice (some ⟨b, 0, none⟩) 1 1) (hr : ∀ j u, (enc c)[j]? = some u -> w.cell? ⟨b, j, none⟩ = some u) (hl : l.length ≤ 1000000) (hN : N ≤ w.heap.size)
  (h : ∀ v' w', GRow T k enc w' N v' (l ++ [c]) -> w.grownBy w' v.ownBlock -> (v'.ownBlock = v.ownBlock ∨ v'.ownBlock = some w.heap.size) -> wpListIn F n Tryz.prog ops Q rest (a.put o.dst v') w') : wpListIn F n Tryz.prog ops Q (o :: rest) a w := by
 obtain ⟨ie, z, hie, hz, h1, h2, h3⟩ := hi
 refine wpListIn_plain hgd fun K hK' => ?_
 obtain ⟨v', w', hrun, r1, r2, _, r4⟩ := run_append_own_at (P := Tryz.prog) w N S o.type T ie z k bytes hu hie hz h1 h2 h3 hk0 v l.length (l.flatMap enc) hown ⟨b, 0, none⟩ 1 1 (enc c) (by rw [hk]; omega) (fun j u hj => by
   rw [Addr.add_mid, Nat.zero_add]
   exact hr j u hj) (h1c c) (by unfold maxLen; omega) (by
     have : (l.length + 1) * bytes ≤ 1000001 * 1000 := Nat.mul_le_mul (by omega) hby
     omega) hN
 unfold Oper.wpIn
 refine ⟨?_, ?_⟩
 ·simp [Oper.about, ho, resolve, Target.leads, Sem.run_pure]
 ·rw [Oper.semAt_plain F _ _ (by rw [ho]; intro c hc'; cases hc')]
  simp [execOp, ho, resolve, invoke, builtin, hs, hx, hrun, Result.andThen]
  refine hK' _ _ (h v' w' ?_ r2 r4)
  unfold GRow
  rw [List.length_append, List.flatMap_append]
  simpa using r1
theorem Marked.setCell {B : Nat} {Ds : List Nat} {W : World} (h : Marked B Ds W) {b o : Nat} {v : Value} (hc : W.cell? ⟨b, o, none⟩ = some v) (u : Value) : Marked B Ds (W.setCell ⟨b, o, none⟩ u) :=
 ⟨h.1, fun D hD => ⟨(h.2 D hD).1, by
   rw [Below.heap_setCell _ _ _ _ (fun e => ?_)]
   · exact (h.2 D hD).2
   · have e : D = b := e
     subst e
     have hd := (h.2 D hD).2
     unfold World.cell? at hc
     rw [hd] at hc
     cases hc⟩⟩
theorem Marked.keeps {B : Nat} {Ds : List Nat} {W W' : World} (h : Marked B Ds W) (k : KeepsOthers W W') : Marked B Ds W' :=
 ⟨h.1, fun D hD => ⟨(h.2 D hD).1, k.same D _ (h.2 D hD).2 rfl⟩⟩
theorem zs3 (w : World) (u : Lsl) : ∀ j v, (lslE u)[j]? = some v -> (w.alloc (.cells #[u.v] 47)).cell? ⟨w.heap.size, j, none⟩ = some v := fun j v h => by
 rw [World.cell?_alloc_new]
 simpa [lslE] using h
theorem zko : ∀ {xs l : List V.Bs} {x w : V.Bs}, V.qg xs = some l -> V.unwP x = (w, true) -> V.qg (xs ++ [x]) = some (l ++ [w])
 | [], l, x, w, h, hu => by
  cases h
  rcases V.zfk x with e | ⟨w', e, e2⟩
  ·rw [hu] at e; cases e
  ·rw [hu] at e
   cases e
   simp [V.qg, e2]
 | y :: xs, l, x, w, h, hu => by
  rw [V.qg] at h
  cases hy : V.unwR y with
  | none => rw [hy] at h; cases h
  | some wy =>
   rw [hy] at h
   simp only at h
   cases hr : V.qg xs with
   | none => rw [hr] at h; cases h
   | some l' =>
    rw [hr] at h
    cases h
    rw [List.cons_append, V.qg, hy, zko hr hu]
    rfl
theorem zkn : ∀ {xs : List V.Bs} {x : V.Bs} {S : List V.Bs}, V.unwP x = ([], false) -> (xs ++ [x]) <+: S -> V.qg S = none
 | [], x, S, hu, hp => by
  obtain ⟨t, rfl⟩ := hp
  have e : V.unwR x = none := by
   unfold V.unwP at hu
   cases h : V.unwR x with
   | none => rfl
   | some w => rw [h] at hu; simp at hu
  simp [V.qg, e]
 | y :: xs, x, S, hu, hp => by
  obtain ⟨t, rfl⟩ := hp
  rw [List.cons_append, List.cons_append, V.qg, zkn (xs := xs) hu ⟨t, rfl⟩]
  cases V.unwR y <;> rfl
def Rest (g off : Nat) (bs : V.Bs) (bv : Value) (r : V.Bs) : Prop := ∃ p ra rc, bv = .slice ra r.length rc /\ r = bs.drop p /\ p + r.length = bs.length /\ (0 < r.length -> ra = some ⟨g, off + p, none⟩ /\ r.length ≤ rc)
theorem cut_rest {g off : Nat} {bs r : V.Bs} {p rc : Nat} (hr : r = bs.drop p) (hp : p + r.length = bs.length) (hc : r.length ≤ rc) :
  ∃ L c1 ra n c fb, Lib.cutV (some ⟨g, off + p, none⟩) r.length rc 1 (Lib.indexByte r 10) = .tuple #[.slice (some ⟨g, off + p, none⟩) L.length c1, .slice ra n c, .bool fb] /\ L.length ≤ c1 /\ L.length ≤ r.length /\ (∀ j (h : j < L.length), bs[p + j]? = some L[j]) /\
   (fb = true -> ∃ r', Rest g off bs (.slice ra n c) r' /\ V.zd 10 r = L :: V.zd 10 r' /\ r'.length < r.length) /\ (fb = false -> V.zd 10 r = [L] /\ L = r) := by
 have hge := Lib.indexByte_ge r 10
 by_cases hm : Lib.indexByte r 10 = -1
 ·refine ⟨r, rc, none, 0, 0, false, by rw [hm]; rfl, hc, zvs _, fun j h => ?_, fun e => (by cases e), fun _ => ⟨zqy hm, rfl⟩⟩
  subst hr
  rw [List.getElem_drop, List.getElem?_eq_getElem]
 ·obtain ⟨i, hi⟩ := Int.eq_ofNat_of_zero_le (show 0 ≤ Lib.indexByte r 10 by omega)
  obtain ⟨hs, hlt⟩ := zey hi
  have htl : (r.take i).length = i := by rw [List.length_take]; omega
  have hdl : (r.drop (i + 1)).length = r.length - (i + 1) := List.length_drop
  refine ⟨r.take i, rc, if rc = i + 1 then some ⟨g, off + p, none⟩ else some (Addr.add ⟨g, off + p, none⟩ (i + 1)), r.length - (i + 1), rc - (i + 1), true, ?_, by omega, by omega, fun j h => ?_, fun _ => ⟨r.drop (i + 1), ⟨p + (i + 1), _, rc - (i + 1), by rw [hdl], by rw [hr, List.drop_drop], by omega, fun h => ?_⟩, hs, by omega⟩, fun e => (by cases e)⟩
  ·rw [hi, htl]
   unfold Lib.cutV Lib.fromV
   rw [if_pos (by omega)]
   simp only [Option.map_some]
   rfl
  ·have hj : j < r.length := by omega
   rw [List.getElem_take]
   subst hr
   rw [List.getElem_drop, List.getElem?_eq_getElem]
  ·rw [hdl] at h
   refine ⟨?_, by omega⟩
   rw [if_neg (by omega), Addr.add_mid, Nat.add_assoc]
theorem zp3 {S : List V.Bs} {ls : List (List V.Bs)} {r r' L : V.Bs} (h : V.jn S = (V.jn (V.zd 10 r)).map (ls ++ ·)) (hs : V.zd 10 r = L :: V.zd 10 r') :
  (V.qg (V.zd 32 L) = none -> V.jn S = none) /\ (∀ l, V.qg (V.zd 32 L) = some l -> ¬ V.chk l = 0 -> V.jn S = none) /\
  (∀ l, V.qg (V.zd 32 L) = some l -> V.chk l = 0 -> V.jn S = (V.jn (V.zd 10 r')).map ((ls ++ [l]) ++ ·)) := by
 rw [hs, V.zb6 (V.zby 10 r')] at h
 refine ⟨fun e => by rw [h, e]; rfl, fun l e hc => by rw [h, e]; simp [hc], fun l e hc => ?_⟩
 rw [h, e]
 simp only [hc, if_true]
 cases V.jn (V.zd 10 r') <;> simp
theorem znl {S : List V.Bs} {ls : List (List V.Bs)} {r L : V.Bs} (h : V.jn S = (V.jn (V.zd 10 r)).map (ls ++ ·)) (hs : V.zd 10 r = [L]) (h0 : L ≠ []) : V.jn S = none := by
 rw [h, hs]
 simp [V.jn, h0]
end Go.Proofs.YtiloljoancdcbaaGreatDoor
