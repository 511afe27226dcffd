import Derived.Test.YtcfbkcapbbhmpaaGreatDoorC39x02
import Derived.Test.YtcfbkcapbbhmpaaGreatDoorC39x03
import Derived.Test.YtcfbkcapbbhmpaaGreatDoorC39x24
import Derived.RangeFuncLeaves
import Derived.WalkMore
set_option linter.all false
set_option maxRecDepth 100000
set_option maxHeartbeats 12800000
namespace Go.Proofs.YtcfbkcapbbhmpaaGreatDoor
open Go.RowKit
variable {F : Fence} {n : Nat} {P : Program}
def HandsP {α : Type} (F : Fence) (n : Nat) (P : Program) (g : Nat) (lb : Array Value) (encs : α -> Array Value) (Kp : World -> World -> Prop) (S Sp : List α -> Prop) (Ok : List α -> α -> Prop) (w : World) (b : Nat) : Prop :=
 ∀ (l : Nat) (J Jx : List α -> World -> Prop) (W : World), Below w.heap.size w W -> (∀ s A v, J s A -> J s (A.setCell ⟨b, 0, none⟩ v)) ->
  (∀ pre x W1, J pre W1 -> Ok pre x -> YieldAt F (n - 1) P l (encs x) W1 fun e W' =>
    (e = .returned (.bool true) /\ J (pre ++ [x]) W' /\ Kp W1 W') ∨ (e = .returned (.bool false) /\ Jx (pre ++ [x]) W')) ->
  J [] W ->
  CallsIn F n P g (#[.func (.yield l) #[] #[]] ++ lb) W fun e W' => (∃ v, e = .returned v) /\ ((∃ xs, S xs /\ J xs W') ∨ (∃ pre, Sp pre /\ Jx pre W'))
structure RoundP {α : Type} (F : Fence) (n : Nat) (P : Program) (B b : Nat) (ps : Array Tmp) (t : Array Value) (assign body : Code) (encs : α -> Array Value) (Kp : World -> World -> Prop) (Ok : List α -> α -> Prop) (I : List α -> World -> Prop) (Ix : Code -> List α -> World -> Prop) (act : α -> Act) : Prop where
 own : OwnFrom B I
 ownx : ∀ c, OwnFrom B (Ix c)
 state : ∀ s A v, I s A -> I s (A.setCell ⟨b, 0, none⟩ v)
 assigned : ∀ (l : Nat) (x : α) (W : World) (K : Act -> World -> Prop), K (act x) W ->
  assign.wpIn (F.inRound l) (n - 1 - 1) P (Exit.then K (fun _ _ _ => False)) { tmps := (ps.zip (encs x)).foldl (fun t (p, v) => t.setIfInBounds p v) t, defers := [] } W
 run : ∀ (l : Nat) (pre : List α) (x : α) (W : World), I pre W -> Ok pre x -> body.wpIn (F.inRound l) (n - 1 - 1) P (ownPostK Kp I Ix (pre ++ [x]) W) (act x) W
theorem RoundP.yields {α : Type} {B b : Nat} {ps : Array Tmp} {t : Array Value} {assign body : Code} {encs : α -> Array Value} {Kp : World -> World -> Prop} {Ok : List α -> α -> Prop} {I : List α -> World -> Prop} {Ix : Code -> List α -> World -> Prop} {act : α -> Act}
  (h : RoundP F n P B b ps t assign body encs Kp Ok I Ix act) {fn : FuncId} (hfn : F.fn fn) (hps : ∀ x, (encs x).size = ps.size)
  (hKt : ∀ {A C D : World}, Kp A C -> Kp C D -> Kp A D) (hKb : ∀ (W : World) (l : Nat) (o o' : Obj), B ≤ l -> W.heap[l]? = some o -> o.isCells = false -> o.isWalk = false -> Kp W (W.putObj l o'))
  {pre : List α} {x : α} {W : World} (hi : I pre W) (hB : Booked B (recd fn t ps assign body B .ready none) W) (hx : Ok pre x) :
  YieldAt F (n - 1 - 1) P (B + 1) (encs x) W fun e W' =>
   (e = .returned (.bool true) /\ (I (pre ++ [x]) W' /\ Booked B (recd fn t ps assign body B .ready none) W') /\ Kp W W') ∨
   (e = .returned (.bool false) /\ ∃ c, Ix c (pre ++ [x]) W' /\ Booked B (recd fn t ps assign body B .done (some c)) W') := by
 have hbusy := hB.turn (recd fn t ps assign body B .busy none)
 have hk0 := hKb W (B + 1) _ (.loop (recd fn t ps assign body B .busy none)) (Nat.le_succ B) hB.at1 rfl rfl
 refine ⟨fn, _, assign, body, run_yield (P := P) (args := encs x) hB.at1 (hps x), roundIn_of_wpIn hfn (h.assigned _ x W _ ⟨_, run_beginRound hB.at1 rfl, ?_⟩)⟩
 refine wpIn_mono (h.run _ pre x _ (hB.own h.own hi _) hx) fun e a3 W3 hp => ?_
 have left : ∀ c, KeepsOthers (W.putObj (B + 1) (.loop (recd fn t ps assign body B .busy none))) W3 -> Ix c (pre ++ [x]) W3 ->
   ∃ c', Ix c' (pre ++ [x]) (W3.putObj (B + 1) (.loop (recd fn t ps assign body B .done (some c)))) /\ Booked B (recd fn t ps assign body B .done (some c')) (W3.putObj (B + 1) (.loop (recd fn t ps assign body B .done (some c)))) :=
  fun c k hx => ⟨c, (hbusy.keep k).own (h.ownx c) hx _, (hbusy.keep k).turn _⟩
 cases e with
 | normal => exact ⟨_, _, (hbusy.keep hp.1).ends none, .inl ⟨rfl, ⟨(hbusy.keep hp.1).own h.own hp.2.2 _, (hbusy.keep hp.1).turn _⟩, hKt (hKt hk0 hp.2.1) (hKb _ _ _ _ (Nat.le_succ B) (hbusy.keep hp.1).at1 rfl rfl)⟩⟩
 | ret => exact ⟨_, _, (hbusy.keep hp.1).ends (some .ret), .inr ⟨rfl, left _ hp.1 hp.2⟩⟩
 | exit id => exact ⟨_, _, (hbusy.keep hp.1).ends (some (.exit id)), .inr ⟨rfl, left _ hp.1 hp.2⟩⟩
 | goto c => exact ⟨_, _, (hbusy.keep hp.1).ends (some (.goto c)), .inr ⟨rfl, left _ hp.1 hp.2⟩⟩
 | panic ch => exact hp.elim
 | outgrown => exact hp.elim
theorem zgn {α : Type} {g : Operand} {ps : Array Tmp} {assign body : Code} {Q : Exit -> Act -> World -> Prop} {a : Act} {w : World}
  (hro : F.round = none) (h1 : 1 ≤ n) {gf : Nat} {lb : Array Value} (hg : a.eval g = .func (.func gf) #[] lb) (hFg : F.fn gf) (eg : ∀ args w, (callFunc gf args).run P w = .ok (.enter gf args) w)
  {encs : α -> Array Value} {Kp : World -> World -> Prop} {S Sp : List α -> Prop} {Ok : List α -> α -> Prop} {b : Nat} (hb : b < w.heap.size) (hseq : HandsP F (n - 1) P gf lb encs Kp S Sp Ok w b)
  (hKt : ∀ {A B C : World}, Kp A B -> Kp B C -> Kp A C) (hKb : ∀ (W : World) (l : Nat) (o o' : Obj), w.heap.size ≤ l -> W.heap[l]? = some o -> o.isCells = false -> o.isWalk = false -> Kp W (W.putObj l o')) (hps : ∀ x, (encs x).size = ps.size)
  {I : List α -> World -> Prop} {Ix : Code -> List α -> World -> Prop} {act : α -> Act} (hr : RoundP F n P w.heap.size b ps a.tmps assign body encs Kp Ok I Ix act) (h0 : I [] w)
  (hdone : ∀ (D : Nat) (xs : List α) (W : World), w.heap.size ≤ D -> S xs -> I xs W -> W.heap[D]? = some (.deferred (some [])) -> Q .normal { a with defers := { target := .collected D, args := #[] } :: a.defers } W)
  (hstop : ∀ (D : Nat) (c : Code) (pre : List α) (W : World), w.heap.size ≤ D -> Sp pre -> Ix c pre W -> W.heap[D]? = some (.deferred (some [])) -> c.wpIn F n P Q { a with defers := { target := .collected D, args := #[] } :: a.defers } W) :
  (Code.rangeFunc g ps assign body).wpIn F n P Q a w := by
 refine wpIn_rangeFunc fun fn hfn => ?_
 have hbk := Booked.fresh w (recd fn a.tmps ps assign body w.heap.size .ready none)
 have hbel : Below w.heap.size w ((w.alloc (.deferred (some []))).alloc (.loop (recd fn a.tmps ps assign body w.heap.size .ready none))) := ((zwh _ w).alloc (zwg _) _).alloc (by simp) _
 have hI1 := hr.own.alloc (.loop (recd fn a.tmps ps assign body w.heap.size .ready none)) (hr.own.alloc (.deferred (some [])) h0)
 rw [hro]
 have hent := run_enterLoop_outer (P := P) (w := w) fn a.tmps ps assign body
 obtain ⟨W1, hW1⟩ : ∃ W1, W1 = (w.alloc (.deferred (some []))).alloc (.loop (recd fn a.tmps ps assign body w.heap.size .ready none)) := ⟨_, rfl⟩
 rw [← hW1] at hbk hbel hI1
 refine ⟨w.heap.size + 1, [{ target := .collected w.heap.size, args := #[] }], W1, { target := .fn (.func gf) lb, args := #[.func (.yield (w.heap.size + 1)) #[] #[]] }, W1, gf,
   #[.func (.yield (w.heap.size + 1)) #[] #[]] ++ lb, W1, by rw [hW1]; exact hent, ?called, ?led, ?entered, fun _ => h1, ?it⟩
 case called => simp only [resolve, hg]; simp [go_sem]
 case led => intro f' hf'; simp [Target.leads] at hf'; exact hf' ▸ hFg
 case entered => simp [invoke, go_sem, eg]
 case it =>
  exact zxp
open Go.RowKit Go.Shelf
attribute [local go_sem] Oper.semAt_some
theorem ze9 {c : UInt8} {r : V.Bs} {i : Nat} (h : Lib.indexByte r c = i) : V.zd c r = r.take i :: V.zd c (r.drop (i + 1)) /\ i < r.length := by
 have hm : c ∈ r := by
  have := V.yg r c
  rw [h] at this
  simpa using this.symm
 have hi : ((r.takeWhile (· != c)).length) = i := by
  have h1 : Lib.index r [c] = Lib.indexByte r c := Lib.index_one r c
  rw [V.index_one, if_pos hm, h] at h1
  omega
 have hlt := V.tw_lt hm
 refine ⟨?_, by omega⟩
 have h2 := V.zjy r (· != c)
 rw [hi] at h2
 rw [V.vz hm, hi, h2]
theorem zrp {c : UInt8} {r : V.Bs} (h : Lib.indexByte r c = -1) : V.zd c r = [r] := by
 refine V.ka fun e => ?_
 have := V.yg r c
 rw [h] at this
 simp [e] at this
theorem zr1 (r : V.Bs) : Lib.bytesOf (r.map fun b => (b.toNat : Int)) = r := by
 unfold Lib.bytesOf
 rw [List.map_map]
 conv => rhs; rw [← List.map_id r]
 apply List.map_congr_left
 intro b _
 simp
theorem zj8 (c : UInt8) (g o cap b2 d : Nat) (r : V.Bs) (W : World) (hc : ∀ j (h : j < r.length), W.cell? ⟨g, o + j, none⟩ = some (.int .u8 (r[j]).toNat)) (h2 : W.cell? ⟨b2, 0, none⟩ = some (.int .u8 c.toNat)) :
  Calls Tryz.prog 76 #[.slice (some ⟨g, o, none⟩) r.length cap, .slice (some ⟨b2, 0, none⟩) 1 d] W fun e w' => e = .returned (.int .i64 (Lib.indexByte r c)) /\ w' = W := by
 have := Tryz.bytes_Index_one_at ⟨g, o, none⟩ r.length cap b2 0 d (r.map fun b => (b.toNat : Int)) c.toNat W (by simp) (fun i hi => by
   rw [Addr.add_mid, hc i hi, List.getD_eq_getElem?_getD, List.getElem?_map, List.getElem?_eq_getElem hi]
   rfl) h2
 rw [zr1] at this
 have e : ((c.toNat : Int)).toNat.toUInt8 = c := by simp
 rwa [e] at this
def slLen : Option Value -> Nat
 | some (.slice _ n _) => n
 | _ => 0
def zeq (off : Nat) (r0 : V.Bs) (x : Nat × V.Bs) : Prop := ∃ p, ∃ h : p + x.2.length ≤ r0.length, (0 < x.2.length -> x.1 = off + p) /\ ∀ j (hj : j < x.2.length), x.2[j] = r0[p + j]'(by omega)
theorem zeq.cells {off : Nat} {r0 : V.Bs} {x : Nat × V.Bs} (h : zeq off r0 x) {W : World} {g : Nat} (hc : ∀ j (h : j < r0.length), W.cell? ⟨g, off + j, none⟩ = some (.int .u8 (r0[j]).toNat)) : ∀ j (hj : j < x.2.length), W.cell? ⟨g, x.1 + j, none⟩ = some (.int .u8 (x.2[j]).toNat) := fun j hj => by
 obtain ⟨p, hl, ho, hx⟩ := h
 rw [ho (by omega), hx j hj, Nat.add_assoc]
 exact hc (p + j) (by omega)
def KpO (B O : Nat) (W W' : World) : Prop := W.heap.size ≤ W'.heap.size /\ ∀ q, q < B -> q ≠ O -> W'.heap[q]? = W.heap[q]?
theorem KpO.cell {B O : Nat} {W W' : World} (h : KpO B O W W') {q o : Nat} (hq : q < B) (hO : q ≠ O) : W'.cell? ⟨q, o, none⟩ = W.cell? ⟨q, o, none⟩ := by
 unfold World.cell?
 rw [h.2 q hq hO]
theorem KpO.frozen {B O : Nat} {W W' : World} (h : KpO B O W W') {q o : Nat} (hq : q < B) (hO : q ≠ O) : W'.frozen? ⟨q, o, none⟩ = W.frozen? ⟨q, o, none⟩ := by
 unfold World.frozen?
 rw [h.2 q hq hO]
theorem KpO.trans {B O : Nat} {A C D : World} (h : KpO B O A C) (k : KpO B O C D) : KpO B O A D := ⟨Nat.le_trans h.1 k.1, fun q hq hO => (k.2 q hq hO).trans (h.2 q hq hO)⟩
theorem KpO.put {B O : Nat} {w : World} (hB : B ≤ w.heap.size) (W : World) (l : Nat) (o o' : Obj) (hl : w.heap.size ≤ l) (h : W.heap[l]? = some o) (_ : o.isCells = false) (_ : o.isWalk = false) : KpO B O W (W.putObj l o') :=
 ⟨(grownBy_putObj' W l o').size, fun q hq _ => World.putObj_heap_other (by omega)⟩
theorem zsx (n : Nat) (hn : 1 ≤ n) (l bS g off cap0 b2 O : Nat) (hO : O < bS) (hOg : g ≠ O) (hO2 : b2 ≠ O) (c : UInt8) (r0 : V.Bs) (hs : r0.length ≤ 1000000) (hcap0 : r0.length ≤ cap0) (hg : g < bS + 3) (hgS : g ≠ bS) (hb2 : b2 < bS + 3) (hb2S : b2 ≠ bS) (J Jx : List (Nat × V.Bs) -> World -> Prop)
  (hJ : ∀ s A v, J s A -> J s (A.setCell ⟨bS, 0, none⟩ v))
  (hY : ∀ pre x W, J pre W -> (zeq off r0 x /\ pre.length ≤ r0.length + 1) -> YieldAt Fence.wide (n - 1) Tryz.prog l #[.slice (some ⟨g, x.1, none⟩) x.2.length x.2.length] W fun e W' =>
    (e = .returned (.bool true) /\ J (pre ++ [x]) W' /\ KpO (bS + 3) O W W') ∨ (e = .returned (.bool false) /\ Jx (pre ++ [x]) W'))
  (W : World) (hS : W.cell? ⟨bS, 0, none⟩ = some (.slice (some ⟨g, off, none⟩) r0.length cap0)) (hF : W.frozen? ⟨bS, 0, none⟩ = false) (hP : W.cell? ⟨bS + 1, 0, none⟩ = some (.slice (some ⟨b2, 0, none⟩) 1 1)) (hV : W.cell? ⟨bS + 2, 0, none⟩ = some (.int .i64 0))
  (hC : ∀ j (h : j < r0.length), W.cell? ⟨g, off + j, none⟩ = some (.int .u8 (r0[j]).toNat)) (h2 : W.cell? ⟨b2, 0, none⟩ = some (.int .u8 c.toNat)) (h0 : J [] W) :
  CallsIn Fence.wide n Tryz.prog 107 #[.func (.yield l) #[] #[], .pointer (some ⟨bS + 1, 0, none⟩), .pointer (some ⟨bS, 0, none⟩), .pointer (some ⟨bS + 2, 0, none⟩)] W fun e W' => (∃ v, e = .returned v) /\
   ((∃ ys, ys.map Prod.snd = V.zd c r0 /\ J ys W') ∨ (∃ pre, pre.map Prod.snd <+: V.zd c r0 /\ Jx pre W')) := by
 have HJ := zwe hJ
 have HY := zwe hY
 clear hJ hY
 refine callsIn_of_wp Tryz.func107 rfl trivial ?_ rfl
 simp only [Tryz.ntmps107, List.size_toArray, List.length_cons, List.length_nil, Nat.reduceAdd, Nat.reduceSub, Array.replicate_succ, Array.replicate_zero, List.push_toArray, List.append_toArray, List.nil_append, List.cons_append]
 have HC := zwe hC
 clear hC
 gi_wp2
 gi_loopw [7, 8] (fun _ _ wr => ∃ (pre : List (Nat × V.Bs)) (p o cap : Nat) (r : V.Bs), wr.cell? ⟨bS, 0, none⟩ = some (.slice (some ⟨g, o, none⟩) r.length cap) /\ wr.frozen? ⟨bS, 0, none⟩ = false /\ wr.cell? ⟨bS + 1, 0, none⟩ = some (.slice (some ⟨b2, 0, none⟩) 1 1) /\ wr.cell? ⟨bS + 2, 0, none⟩ = some (.int .i64 0) /\
     (r = r0.drop p /\ p + r.length = r0.length /\ (0 < r.length -> o = off + p)) /\ r.length ≤ cap /\ pre.map Prod.snd ++ V.zd c r = V.zd c r0 /\ (∀ j (h : j < r0.length), wr.cell? ⟨g, off + j, none⟩ = some (.int .u8 (r0[j]).toNat)) /\ wr.cell? ⟨b2, 0, none⟩ = some (.int .u8 c.toNat) /\ J pre wr)
  (fun _ _ wr => slLen (wr.cell? ⟨bS, 0, none⟩))
 case atStart => exact ⟨[], 0, off, cap0, r0, hS, hF, hP, hV, ⟨rfl, by omega, fun _ => rfl⟩, hcap0, rfl, HC.out, h2, h0⟩
 case round =>
  clear hS hF hP hV h2 h0 HC
  obtain ⟨pre, p, o, cap, r, hS, hF, hP, hV, ⟨hr, hpl, ho⟩, hrc, hpc, hC, h2, hj⟩ := hrel
  have HPC := zwe hpc
  have HJS := zwe hj
  have HC := zwe hC
  have H2 := zwe h2
  have HR := zwe hr
  have HO := zwe ho
  have hCr : ∀ j (h : j < r.length), wr.cell? ⟨g, o + j, none⟩ = some (.int .u8 (r[j]).toNat) := fun j h => by
   have := hC (p + j) (by omega)
   rw [ho (by omega), Nat.add_assoc, this]
   subst hr
   simp
  have HCR := zwe hCr
  clear hj hC h2 hr hCr ho
  have hpn : pre.length ≤ r0.length + 1 := by
   have h1 := congrArg List.length hpc
   have h2 := V.zf9 c r0
   simp at h1
   omega
  have HPN := zwe hpn
  clear hpn hpc
  have hcase : (Lib.indexByte r c = -1 /\ V.zd c r = [r]) ∨ ∃ i : Nat, Lib.indexByte r c = i /\ i < r.length /\ V.zd c r = r.take i :: V.zd c (r.drop (i + 1)) := by
   have hge := Lib.indexByte_ge r c
   by_cases hm : Lib.indexByte r c = -1
   ·exact .inl ⟨hm, zrp hm⟩
   ·obtain ⟨i, hi⟩ := Int.eq_ofNat_of_zero_le (show 0 ≤ Lib.indexByte r c by omega)
    exact .inr ⟨i, hi, (ze9 hi).2, (ze9 hi).1⟩
  rcases hcase with ⟨hi, hp⟩ | ⟨i, hi, hlt, hp⟩
  ·have HI := zwe hi
   have HPP := zwe hp
   clear hi hp
   have hk1 : (r.length : Int) ≤ (cap : Int) := by omega
   have hpo : zeq off r0 (o, r) := ⟨p, Nat.le_of_eq hpl, HO.out, fun j hj => by
     have e := HR.out
     subst e
     simp⟩
   obtain ⟨fn, tmps, assign, body, hy, hRR⟩ := HY.out pre (o, r) wr HJS.out ⟨hpo, HPN.out⟩
   gi_wp2_with fail
   refine ⟨trivial, (callsIn_wide.2 (zj8 c g o cap b2 1 r wr HCR.out H2.out)).mono ?_⟩
   rintro e w' ⟨rfl, rfl⟩
   simp only [HI.out]
   gi_wp2
   refine hRR.mono ?_
   rintro e W3 (⟨rfl, hJ3, hk3⟩ | ⟨rfl, hJx3⟩)
   ·gi_wp2
    go_end0
    exact ⟨⟨_, rfl⟩, .inl ⟨_, by rw [← HPC.out, HPP.out, List.map_append]; rfl, hJ3⟩⟩
   ·gi_wp2
    go_end0
    exact ⟨⟨_, rfl⟩, .inr ⟨_, by rw [← HPC.out, HPP.out, List.map_append]; exact List.prefix_refl _, hJx3⟩⟩
  ·have HI := zwe hi
   have HPP := zwe hp
   clear hi hp
   have hoe := HO.out (by omega)
   have hk1 : (i : Int) ≤ (cap : Int) := by omega
   have hk2 : (0 : Int) ≤ (i : Int) := by omega
   have hk3 : ¬ ((i : Int) < 0) := by omega
   have hk4 : IntKind.i64.wrap (i : Int) = (i : Int) := by unfold IntKind.wrap; simp [IntKind.signed, IntKind.bits]; omega
   have hk5 : IntKind.i64.wrap ((i : Int) + 1) = (i : Int) + 1 := by unfold IntKind.wrap; simp [IntKind.signed, IntKind.bits]; omega
   have hk6 : (i : Int) + 1 ≤ (r.length : Int) := by omega
   have hk7 : (r.length : Int) ≤ (cap : Int) := by omega
   have hk8 : (0 : Int) ≤ (i : Int) + 1 := by omega
   have htl : (r.take i).length = i := by rw [List.length_take]; omega
   have hpo : zeq off r0 (o, r.take i) := ⟨p, by simp only [htl]; omega, fun _ => hoe, fun j hj => by
     have e := HR.out
     subst e
     simp⟩
   have HOE := zwe hoe
   clear hoe
   obtain ⟨fn, tmps, assign, body, hy, hRR⟩ := HY.out pre (o, r.take i) wr HJS.out ⟨hpo, HPN.out⟩
   simp only [htl] at hy
   obtain ⟨ad, had⟩ : ∃ ad, ad = (if cap = i + 1 then (o : Nat) else o + (i + 1)) := ⟨_, rfl⟩
   have hadv : (if cap = i + 1 then some (⟨g, o, none⟩ : Addr) else some ⟨g, o + (i + 1), none⟩) = some ⟨g, ad, none⟩ := by
    rw [had]; split <;> rfl
   have HAD := zwe had
   clear had
   gi_wp2_with fail
   refine ⟨trivial, (callsIn_wide.2 (zj8 c g o cap b2 1 r wr HCR.out H2.out)).mono ?_⟩
   rintro e w' ⟨rfl, rfl⟩
   simp only [HI.out]
   gi_wp2
   refine hRR.mono ?_
   rintro e W3 (⟨rfl, hJ3, hk3⟩ | ⟨rfl, hJx3⟩)
   ·have hS3 := (hk3.cell (q := bS) (o := 0) (by omega) (by omega)).trans hS
    have hF3 := (hk3.frozen (q := bS) (o := 0) (by omega) (by omega)).trans hF
    have hP3 := (hk3.cell (q := bS + 1) (o := 0) (by omega) (by omega)).trans hP
    have hV3 := (hk3.cell (q := bS + 2) (o := 0) (by omega) (by omega)).trans hV
    gi_wp2
    go_roundw
    case rel =>
     have hdl : (r.drop (i + 1)).length = r.length - (i + 1) := List.length_drop
     refine ⟨pre ++ [(o, r.take i)], p + (i + 1), ad, cap - (i + 1), r.drop (i + 1), ?_, ?_, ?_, ?_, ⟨?_, ?_, ?_⟩, ?_, ?_, ?_, ?_, HJ.out _ _ _ hJ3⟩
     ·rw [hdl]
      refine (World.cell?_setCell_same _ _ _ hS3).trans ?_
      first | rfl | rw [hadv]
     ·rw [World.frozen?_setCell]; exact hF3
     ·rw [World.cell?_setCell_other _ _ _ _ (by simp)]; exact hP3
     ·rw [World.cell?_setCell_other _ _ _ _ (by simp)]; exact hV3
     ·rw [HR.out, List.drop_drop]
     ·rw [hdl]; omega
     ·intro h
      rw [hdl] at h
      rw [HAD.out, if_neg (by omega), HOE.out]
      omega
     ·rw [hdl]; omega
     ·rw [← HPC.out, HPP.out, List.map_append]; simp
     ·intro j h
      rw [World.cell?_setCell_other _ _ _ _ (by simp [hgS])]
      exact (hk3.cell (q := g) (o := off + j) hg hOg).trans (HC.out j h)
     ·rw [World.cell?_setCell_other _ _ _ _ (by simp [hb2S])]
      exact (hk3.cell (q := b2) (o := 0) hb2 hO2).trans H2.out
    case measure =>
     rw [World.cell?_setCell_same _ _ _ hS3, hS]
     simp [slLen]; omega
   ·gi_wp2
    refine bodyPost_ret (results_none rfl _ _ _) rfl ?_
    exact ⟨⟨_, rfl⟩, .inr ⟨_, by rw [← HPC.out, HPP.out, List.map_append]; exact ⟨V.zd c (r.drop (i + 1)), by simp⟩, hJx3⟩⟩
theorem zrr (n : Nat) (hn : 1 ≤ n) (bS g off cap0 b2 O : Nat) (hO : O < bS) (hOg : g ≠ O) (hO2 : b2 ≠ O) (c : UInt8) (r0 : V.Bs) (hs : r0.length ≤ 1000000) (hcap0 : r0.length ≤ cap0) (hg : g < bS) (hb2 : b2 < bS) (w : World) (hb : bS + 2 < w.heap.size)
  (hS : w.cell? ⟨bS, 0, none⟩ = some (.slice (some ⟨g, off, none⟩) r0.length cap0)) (hF : w.frozen? ⟨bS, 0, none⟩ = false) (hP : w.cell? ⟨bS + 1, 0, none⟩ = some (.slice (some ⟨b2, 0, none⟩) 1 1)) (hV : w.cell? ⟨bS + 2, 0, none⟩ = some (.int .i64 0))
  (hC : ∀ j (h : j < r0.length), w.cell? ⟨g, off + j, none⟩ = some (.int .u8 (r0[j]).toNat)) (h2 : w.cell? ⟨b2, 0, none⟩ = some (.int .u8 c.toNat)) :
  HandsP Fence.wide n Tryz.prog 107 #[.pointer (some ⟨bS + 1, 0, none⟩), .pointer (some ⟨bS, 0, none⟩), .pointer (some ⟨bS + 2, 0, none⟩)] (fun x : Nat × V.Bs => #[.slice (some ⟨g, x.1, none⟩) x.2.length x.2.length]) (KpO (bS + 3) O) (fun ys => ys.map Prod.snd = V.zd c r0) (fun pre => pre.map Prod.snd <+: V.zd c r0) (fun pre x => zeq off r0 x /\ pre.length ≤ r0.length + 1) w bS := by
 intro l J Jx W hW hJ hY h0
 have hk := fun b o (hb : b < w.heap.size) => hW.cell (p := ⟨b, o, none⟩) hb
 exact zsx n hn l bS g off cap0 b2 O hO hOg hO2 c r0 hs hcap0 (by omega) (by omega) (by omega) (by omega) J Jx hJ hY W ((hk bS 0 (by omega)).trans hS) ((hW.frozen (p := ⟨bS, 0, none⟩) (show bS < w.heap.size by omega)).trans hF) ((hk (bS + 1) 0 (by omega)).trans hP) ((hk (bS + 2) 0 (by omega)).trans hV)
  (fun j h => (hk g _ (by omega)).trans (hC j h)) ((hk b2 0 (by omega)).trans h2) h0
theorem zls (a a2 : Option Addr) (n n2 c c2 : Nat) (w : World) :
  Calls Tryz.prog 77 #[.slice a n c, .slice a2 n2 c2, .int .i64 0] w fun e w' =>
   e = .returned (.func (.func 107) #[] #[.pointer (some ⟨w.heap.size + 1, 0, none⟩), .pointer (some ⟨w.heap.size, 0, none⟩), .pointer (some ⟨w.heap.size + 2, 0, none⟩)]) /\
   w' = ((w.alloc (.cells #[.slice a n c] 23)).alloc (.cells #[.slice a2 n2 c2] 23)).alloc (.cells #[.int .i64 0] 3) := by
 go_enter Tryz.func77, Tryz.ntmps77
 go_wp2
 go_ret
 exact ⟨rfl, rfl⟩
theorem zmu (a a2 : Option Addr) (n n2 c c2 : Nat) (w : World) :
  Calls Tryz.prog 49 #[.slice a n c, .slice a2 n2 c2] w fun e w' =>
   e = .returned (.func (.func 107) #[] #[.pointer (some ⟨w.heap.size + 1, 0, none⟩), .pointer (some ⟨w.heap.size, 0, none⟩), .pointer (some ⟨w.heap.size + 2, 0, none⟩)]) /\
   w' = ((w.alloc (.cells #[.slice a n c] 23)).alloc (.cells #[.slice a2 n2 c2] 23)).alloc (.cells #[.int .i64 0] 3) := by
 go_enter Tryz.func49, Tryz.ntmps49
 go_wp2_with fail
 refine (zls a a2 n n2 c c2 w).mono ?_
 rintro e w' ⟨rfl, rfl⟩
 go_wp2
 go_ret
 exact ⟨rfl, rfl⟩
open Go.RowKit Go.Shelf
def zui (Ds : List Nat) : List Deferred := Ds.map fun D => { target := .collected D, args := #[] }
def Marked (B : Nat) (Ds : List Nat) (W : World) : Prop := Ds.Nodup /\ ∀ D ∈ Ds, B ≤ D /\ W.heap[D]? = some (.deferred (some []))
theorem ug {F : Fence} {n : Nat} {P : Program} {fn : Func} {tmps : Array Value} {R : Ending -> World -> Prop} {T : World -> Prop} {B : Nat} (hT : ∀ D W, B ≤ D -> W.heap[D]? = some (.deferred (some [])) -> T W -> T (W.putObj D (.deferred none)))
  (hend : ∀ W, T W -> ∃ v, (results fn tmps).run P W = .ok v W /\ R (.returned v) W) : ∀ (Ds : List Nat) (W : World), Marked B Ds W -> T W -> LeavesInM F n P fn tmps R (zui Ds) .returning W
 | [], W, _, h => hend W h
 | D :: Ds, W, hm, h => by
  obtain ⟨hnd, hd⟩ := hm
  obtain ⟨hB, hD⟩ := hd D (List.mem_cons_self ..)
  rw [List.nodup_cons] at hnd
  refine ⟨by simp, .inl ⟨D, _, rfl, run_takeDeferred hD, ug hT hend Ds _ ⟨hnd.2, fun D' h' => ?_⟩ (hT D W hB hD h)⟩⟩
  rw [World.putObj_heap_other (fun e => hnd.1 (by rw [← e]; exact h'))]
  exact hd D' (List.mem_cons_of_mem _ h')
theorem Marked.below {B : Nat} {Ds : List Nat} {w w' : World} (h : Marked B Ds w) (hb : Below w.heap.size w w') : Marked B Ds w' :=
 ⟨h.1, fun D hD => ⟨(h.2 D hD).1, (hb.block D (Array.getElem?_eq_some_iff.1 (h.2 D hD).2).1).trans (h.2 D hD).2⟩⟩
theorem Marked.cons {B : Nat} {Ds : List Nat} {w w' : World} {D : Nat} (h : Marked B Ds w) (hb : Below w.heap.size w w') (hB : B ≤ w.heap.size) (hD : w.heap.size ≤ D) (hd : w'.heap[D]? = some (.deferred (some []))) : Marked B (D :: Ds) w' := by
 have h2 := h.below hb
 refine ⟨List.nodup_cons.2 ⟨fun hm => ?_, h2.1⟩, fun D' h' => ?_⟩
 ·have := (Array.getElem?_eq_some_iff.1 (h.2 D hm).2).1
  omega
 ·rcases List.mem_cons.1 h' with rfl | h'
  ·exact ⟨Nat.le_trans hB hD, hd⟩
  ·exact h2.2 D' h'
theorem znv {W : World} {D : Nat} (hD : W.heap[D]? = some (.deferred (some []))) {b o : Nat} {v : Value} (h : W.cell? ⟨b, o, none⟩ = some v) : (W.putObj D (.deferred none)).cell? ⟨b, o, none⟩ = some v :=
 cell_kept h (grownBy_putObj' _ D (.deferred none)) (fun r e => by cases e; exact ⟨_, hD, rfl⟩)
theorem zoe (W : World) (D : Nat) (o : Obj) : (W.putObj D o).heap.size = W.heap.size := by simp [World.putObj]
theorem Lines.mark {W : World} {D : Nat} (hD : W.heap[D]? = some (.deferred (some []))) {v : Value} {ls : List (List V.Bs)} (h : Lines W v ls) : Lines (W.putObj D (.deferred none)) v ls := by
 obtain ⟨a, cap, e, hc⟩ := h
 refine ⟨a, cap, e, fun j hj => ?_⟩
 obtain ⟨b, off, u, ea, hlt, hr, ⟨a2, cap2, e2, hc2⟩⟩ := hc j hj
 refine ⟨b, off, u, ea, by rw [zoe]; exact hlt, znv hD hr, ⟨a2, cap2, e2, fun i hi => ?_⟩⟩
 obtain ⟨b2, off2, ea2, hlt2, hr2⟩ := hc2 i hi
 exact ⟨b2, off2, ea2, by rw [zoe]; exact hlt2, znv hD hr2⟩
theorem cutB_any (c : UInt8) (g o cap b2 : Nat) (r : V.Bs) (w : World) (hm : zg w) (hl : r.length ≤ 1000000) (hcap : r.length ≤ cap) (h0 : 0 < r.length) (hc : ∀ j (h : j < r.length), w.cell? ⟨g, o + j, none⟩ = some (.int .u8 (r[j]).toNat)) (h2 : w.cell? ⟨b2, 0, none⟩ = some (.int .u8 c.toNat)) :
  Calls Tryz.prog 48 #[.slice (some ⟨g, o, none⟩) r.length cap, .slice (some ⟨b2, 0, none⟩) 1 1] w fun e w' => e = .returned (Lib.cutV (some ⟨g, o, none⟩) r.length cap 1 (Lib.indexByte r c)) /\ Below w.heap.size w w' := by
 have hge := Lib.indexByte_ge r c
 refine (Tryz.bytes_Cut_of (some ⟨g, o, none⟩) (some ⟨b2, 0, none⟩) r.length cap 1 1 (Lib.indexByte r c) w hcap (by omega) (fun h => ?_) (by omega) ((zj8 c g o cap b2 1 r w hc h2).mono ?_)).mono ?_
 ·obtain ⟨i, hi⟩ := Int.eq_ofNat_of_zero_le h
  have := (ze9 hi).2
  omega
 ·rintro e w' ⟨rfl, rfl⟩
  exact ⟨rfl, 0, rfl⟩
 ·rintro e w' ⟨rfl, q, rfl⟩
  exact ⟨rfl, below_drewN (zwh _ _) q⟩
attribute [local go_sem] Oper.semAt_some
theorem zpg (y : V.Bs) (w : World) (hs : y.length ≤ 1000000) : Calls Tryz.prog 50 #[.string ⟨y.toArray⟩] w fun e w' => e = .returned (.tuple #[.string ⟨(V.unwP y).1.toArray⟩, .bool (V.unwP y).2]) /\ Below w.heap.size w w' := by
 have := zms ⟨y.toArray⟩ w (by rw [yo]; exact hs)
 rwa [kn] at this
theorem zbv {w W : World} {D : Nat} (hB : w.heap.size ≤ D) (hD : W.heap[D]? = some (.deferred (some []))) (h : Below w.heap.size w W) : Below w.heap.size w (W.putObj D (.deferred none)) :=
 h.trans (belowK_b (w := w) (zwg _) W D _ _ hB hD rfl rfl)
theorem zb6 (w : World) (b o : Nat) (u : Value) : w.grownBy (w.setCell ⟨b, o, none⟩ u) (some b) :=
 ⟨rfl, rfl, rfl, by simp [World.setCell], fun k _ hk => Below.heap_setCell _ _ _ _ (fun e => hk (by rw [e]))⟩
section
variable {α : Type} {enc : α -> List Value} {k : Nat} {T : TypeId}
theorem GRow.cellsAt {w : World} {N : Nat} {v : Value} {l : List α} (h : GRow T k enc w N v l) {b : Nat} (hb : v.ownBlock = some b) : ∃ cur, w.heap[b]? = some (.cells cur T (0, 0)) := by
 rcases h.2 with ⟨rfl, _⟩ | ⟨g, cap, cur, rfl, _, hg, _⟩
 ·cases hb
 ·simp [Value.ownBlock] at hb
  subst hb
  exact ⟨cur, hg⟩
theorem GRow.own {w w' : World} {N : Nat} {v : Value} {l : List α} (h : GRow T k enc w N v l) {row : Option Nat} (hg : w.grownBy w' row) (hr : ∀ r, row = some r -> ∃ o : Obj, w.heap[r]? = some o /\ o.isCells = false) : GRow T k enc w' N v l := by
 have hc := fun b (hb : v.ownBlock = some b) => h.cellsAt hb
 refine ⟨h.1, ?_⟩
 rcases h.2 with h2 | ⟨g, cap, cur, rfl, hb, hgg, rest⟩
 ·exact .inl h2
 ·refine .inr ⟨g, cap, cur, rfl, hb, ?_, rest⟩
  rw [hg.block g (Array.getElem?_eq_some_iff.1 hgg).1 (fun e => ?_)]
  ·exact hgg
  ·obtain ⟨o, ho, hoc⟩ := hr g e.symm
   rw [hgg] at ho
   cases ho
   cases hoc
theorem GRow.keepsO {w w' : World} {N : Nat} {v : Value} {l : List α} (h : GRow T k enc w N v l) (hg : w.grownBy w' v.ownBlock) : KeepsOthers w w' :=
 ⟨hg.size, fun i o ho hc => (hg.block i (Array.getElem?_eq_some_iff.1 ho).1 (fun e => by
   obtain ⟨cur, hcur⟩ := h.cellsAt e.symm
   rw [ho] at hcur
   cases hcur
   cases hc)).trans ho⟩
end
theorem zh5 {w w' : World} (h : Below w.heap.size w w') : KeepsOthers w w' := ⟨h.size, fun i _ ho _ => (h.block i (Array.getElem?_eq_some_iff.1 ho).1).trans ho⟩
theorem zoa {B O : Nat} {w w' : World} (hB : B ≤ w.heap.size) (h : Below w.heap.size w w') : KpO B O w w' := ⟨h.size, fun q hq _ => h.block q (by omega)⟩
theorem kpO_own {β : Type} {B O C : Nat} {w₀ : World} (hB : B ≤ w₀.heap.size) (hC : B ≤ C) : OwnFrom C (fun (_ : β) W => KpO B O w₀ W) := fun _ W W' _ hs hg hr =>
 ⟨Nat.le_trans hs.1 hg.size, fun q hq hO => (hg.block q (by have := hs.1; omega) (fun e => by have := (hr q e.symm).1; omega)).trans (hs.2 q hq hO)⟩
theorem zs3 {F : Fence} {n : Nat} {ops : Array Oper} {rest : List Oper} {o : Oper} {a : Act} {w : World} {Q : Exit -> Act -> World -> Prop} (hgd : o.guard = none) (s x : Operand)
  (ho : o.op = .call { callee := .builtin .append, args := #[s, x], argTypes := #[41, 41] })
  (N : Nat) (v : Value) (l : List V.Bs) (hs : a.eval s = v) (hown : GRow 9 1 wrdE w N v l) (b : Nat) (c : V.Bs) (hx : a.eval x = .slice (some ⟨b, 0, none⟩) 1 1) (hr : ∀ j u, (wrdE c)[j]? = some u -> w.cell? ⟨b, j, none⟩ = some u) (hl : l.length ≤ 1000000) (hN : N ≤ w.heap.size)
  (h : ∀ v' w', GRow 9 1 wrdE w' N v' (l ++ [c]) -> w.grownBy w' v.ownBlock -> wpListIn F n Tryz.prog ops Q rest (a.put o.dst v') w') : wpListIn F n Tryz.prog ops Q (o :: rest) a w := by
 obtain ⟨ie, z, hie, hz, h1, h2, h3⟩ := zu0
 refine wpListIn_append_own w hgd s x 41 ho N 9 ie z 1 16 Tryz.underlying41 hie hz h1 h2 h3 (by decide) v l.length (l.flatMap wrdE) hs hown ⟨b, 0, none⟩ 1 1 (wrdE c) hx rfl ?_ (zr3 c) (by unfold maxLen; omega) (by omega) hN ?_
 ·exact z1o
 ·intro v' w' ho' hg _
  refine h v' w' ?_ hg
  exact z0l
theorem ztt {α : Type} {enc : α -> List Value} {k : Nat} {T : TypeId} {F : Fence} {n : Nat} {ops : Array Oper} {rest : List Oper} {o : Oper} {a : Act} {w : World} {Q : Exit -> Act -> World -> Prop} (hk : ∀ x, (enc x).length = k) (hk0 : 0 < k) (h1c : ∀ x, ∀ u ∈ enc x, u.oneCell' = true) {bytes : Nat} (hi : xq T k bytes) (hby : bytes ≤ 1000) (hgd : o.guard = none) (s x : Operand) (S : TypeId)
  (ho : o.op = .call { callee := .builtin .append, args := #[s, x], argTypes := #[S, S] }) (hu : Tryz.prog.underlying S = some (.slice T))
  (N : Nat) (v : Value) (l : List α) (hs : a.eval s = v) (hown : GRow T k enc w N v l) (b : Nat) (c : α) (hx : a.eval x = .slice (some ⟨b, 0, none⟩) 1 1) (hr : ∀ j u, (enc c)[j]? = some u -> w.cell? ⟨b, j, none⟩ = some u) (hl : l.length ≤ 1000000) (hN : N ≤ w.heap.size)
  (h : ∀ v' w', GRow T k enc w' N v' (l ++ [c]) -> w.grownBy w' v.ownBlock -> (v'.ownBlock = v.ownBlock ∨ v'.ownBlock = some w.heap.size) -> wpListIn F n Tryz.prog ops Q rest (a.put o.dst v') w') : wpListIn F n Tryz.prog ops Q (o :: rest) a w := by
 obtain ⟨ie, z, hie, hz, h1, h2, h3⟩ := hi
 refine wpListIn_plain hgd fun K hK' => ?_
 obtain ⟨v', w', hrun, r1, r2, _, r4⟩ := run_append_own_at (P := Tryz.prog) w N S o.type T ie z k bytes hu hie hz h1 h2 h3 hk0 v l.length (l.flatMap enc) hown ⟨b, 0, none⟩ 1 1 (enc c) (by rw [hk]; omega) (fun j u hj => by
   rw [Addr.add_mid, Nat.zero_add]
   exact hr j u hj) (h1c c) (by unfold maxLen; omega) (by
     have : (l.length + 1) * bytes ≤ 1000001 * 1000 := Nat.mul_le_mul (by omega) hby
     omega) hN
 unfold Oper.wpIn
 refine ⟨?_, ?_⟩
 ·simp [Oper.about, ho, resolve, Target.leads, Sem.run_pure]
 ·rw [Oper.semAt_plain F _ _ (by rw [ho]; intro c hc'; cases hc')]
  simp [execOp, ho, resolve, invoke, builtin, hs, hx, hrun, Result.andThen]
  refine hK' _ _ (h v' w' ?_ r2 r4)
  unfold GRow
  rw [List.length_append, List.flatMap_append]
  simpa using r1
theorem Marked.setCell {B : Nat} {Ds : List Nat} {W : World} (h : Marked B Ds W) {b o : Nat} {v : Value} (hc : W.cell? ⟨b, o, none⟩ = some v) (u : Value) : Marked B Ds (W.setCell ⟨b, o, none⟩ u) :=
 ⟨h.1, fun D hD => ⟨(h.2 D hD).1, by
   rw [Below.heap_setCell _ _ _ _ (fun e => ?_)]
   · exact (h.2 D hD).2
   · have e : D = b := e
     subst e
     have hd := (h.2 D hD).2
     unfold World.cell? at hc
     rw [hd] at hc
     cases hc⟩⟩
theorem Marked.keeps {B : Nat} {Ds : List Nat} {W W' : World} (h : Marked B Ds W) (k : KeepsOthers W W') : Marked B Ds W' :=
 ⟨h.1, fun D hD => ⟨(h.2 D hD).1, k.same D _ (h.2 D hD).2 rfl⟩⟩
theorem ztu (w : World) (u : Lsl) : ∀ j v, (lslE u)[j]? = some v -> (w.alloc (.cells #[u.v] 41)).cell? ⟨w.heap.size, j, none⟩ = some v := fun j v h => by
 rw [World.cell?_alloc_new]
 simpa [lslE] using h
theorem zk7 : ∀ {xs l : List V.Bs} {x w : V.Bs}, V.qg xs = some l -> V.unwP x = (w, true) -> V.qg (xs ++ [x]) = some (l ++ [w])
 | [], l, x, w, h, hu => by
  cases h
  rcases V.zfw x with e | ⟨w', e, e2⟩
  ·rw [hu] at e; cases e
  ·rw [hu] at e
   cases e
   simp [V.qg, e2]
 | y :: xs, l, x, w, h, hu => by
  rw [V.qg] at h
  cases hy : V.unwR y with
  | none => rw [hy] at h; cases h
  | some wy =>
   rw [hy] at h
   simp only at h
   cases hr : V.qg xs with
   | none => rw [hr] at h; cases h
   | some l' =>
    rw [hr] at h
    cases h
    rw [List.cons_append, V.qg, hy, zk7 hr hu]
    rfl
theorem zk6 : ∀ {xs : List V.Bs} {x : V.Bs} {S : List V.Bs}, V.unwP x = ([], false) -> (xs ++ [x]) <+: S -> V.qg S = none
 | [], x, S, hu, hp => by
  obtain ⟨t, rfl⟩ := hp
  have e : V.unwR x = none := by
   unfold V.unwP at hu
   cases h : V.unwR x with
   | none => rfl
   | some w => rw [h] at hu; simp at hu
  simp [V.qg, e]
 | y :: xs, x, S, hu, hp => by
  obtain ⟨t, rfl⟩ := hp
  rw [List.cons_append, List.cons_append, V.qg, zk6 (xs := xs) hu ⟨t, rfl⟩]
  cases V.unwR y <;> rfl
def Rest (g off : Nat) (bs : V.Bs) (bv : Value) (r : V.Bs) : Prop := ∃ p ra rc, bv = .slice ra r.length rc /\ r = bs.drop p /\ p + r.length = bs.length /\ (0 < r.length -> ra = some ⟨g, off + p, none⟩ /\ r.length ≤ rc)
theorem cut_rest {g off : Nat} {bs r : V.Bs} {p rc : Nat} (hr : r = bs.drop p) (hp : p + r.length = bs.length) (hc : r.length ≤ rc) :
  ∃ L c1 ra n c fb, Lib.cutV (some ⟨g, off + p, none⟩) r.length rc 1 (Lib.indexByte r 10) = .tuple #[.slice (some ⟨g, off + p, none⟩) L.length c1, .slice ra n c, .bool fb] /\ L.length ≤ c1 /\ L.length ≤ r.length /\ (∀ j (h : j < L.length), bs[p + j]? = some L[j]) /\
   (fb = true -> ∃ r', Rest g off bs (.slice ra n c) r' /\ V.zd 10 r = L :: V.zd 10 r' /\ r'.length < r.length) /\ (fb = false -> V.zd 10 r = [L] /\ L = r) := by
 have hge := Lib.indexByte_ge r 10
 by_cases hm : Lib.indexByte r 10 = -1
 ·refine ⟨r, rc, none, 0, 0, false, by rw [hm]; rfl, hc, zwg _, fun j h => ?_, fun e => (by cases e), fun _ => ⟨zrp hm, rfl⟩⟩
  subst hr
  rw [List.getElem_drop, List.getElem?_eq_getElem]
 ·obtain ⟨i, hi⟩ := Int.eq_ofNat_of_zero_le (show 0 ≤ Lib.indexByte r 10 by omega)
  obtain ⟨hs, hlt⟩ := ze9 hi
  have htl : (r.take i).length = i := by rw [List.length_take]; omega
  have hdl : (r.drop (i + 1)).length = r.length - (i + 1) := List.length_drop
  refine ⟨r.take i, rc, if rc = i + 1 then some ⟨g, off + p, none⟩ else some (Addr.add ⟨g, off + p, none⟩ (i + 1)), r.length - (i + 1), rc - (i + 1), true, ?_, by omega, by omega, fun j h => ?_, fun _ => ⟨r.drop (i + 1), ⟨p + (i + 1), _, rc - (i + 1), by rw [hdl], by rw [hr, List.drop_drop], by omega, fun h => ?_⟩, hs, by omega⟩, fun e => (by cases e)⟩
  ·rw [hi, htl]
   unfold Lib.cutV Lib.fromV
   rw [if_pos (by omega)]
   simp only [Option.map_some]
   rfl
  ·have hj : j < r.length := by omega
   rw [List.getElem_take]
   subst hr
   rw [List.getElem_drop, List.getElem?_eq_getElem]
  ·rw [hdl] at h
   refine ⟨?_, by omega⟩
   rw [if_neg (by omega), Addr.add_mid, Nat.add_assoc]
theorem zqr {S : List V.Bs} {ls : List (List V.Bs)} {r r' L : V.Bs} (h : V.jo S = (V.jo (V.zd 10 r)).map (ls ++ ·)) (hs : V.zd 10 r = L :: V.zd 10 r') :
  (V.qg (V.zd 32 L) = none -> V.jo S = none) /\ (∀ l, V.qg (V.zd 32 L) = some l -> ¬ V.chk l = 0 -> V.jo S = none) /\
  (∀ l, V.qg (V.zd 32 L) = some l -> V.chk l = 0 -> V.jo S = (V.jo (V.zd 10 r')).map ((ls ++ [l]) ++ ·)) := by
 rw [hs, V.zcd (V.zb5 10 r')] at h
 refine ⟨fun e => by rw [h, e]; rfl, fun l e hc => by rw [h, e]; simp [hc], fun l e hc => ?_⟩
 rw [h, e]
 simp only [hc, if_true]
 cases V.jo (V.zd 10 r') <;> simp
theorem zn4 {S : List V.Bs} {ls : List (List V.Bs)} {r L : V.Bs} (h : V.jo S = (V.jo (V.zd 10 r)).map (ls ++ ·)) (hs : V.zd 10 r = [L]) (h0 : L ≠ []) : V.jo S = none := by
 rw [h, hs]
 simp [V.jo, h0]
open Go.RowKit Go.Shelf
attribute [local go_sem] Oper.semAt_some
theorem zya {P : Prop} (h : P := by
 gi_wp2
 exact ug (T := fun W => Below w.heap.size w W) (fun D W hB hD h => zbv hB hD h) (fun W h => ⟨.tuple #[.slice none 0 0, .int .i64 2], by simp [results, Tryz.f24, go_sem], xx.err HN.out h⟩) (D :: Ds) _ HMS.out HBS.out) : P := h
theorem zyi {P : Prop} (h : P := by
 rw [hW0, hO]; simp only [ze, World.size_alloc]; repeat (first | rw [if_pos (by omega)] | rw [if_neg (by omega)])
 rfl) : P := h
theorem z1t {P : Prop} (h : P := by
 rw [hW0, hO]; simp only [zz, World.size_alloc]; repeat (first | rw [if_pos (by omega)] | rw [if_neg (by omega)])
 rfl) : P := h
theorem zqo (v : Value) (bs : V.Bs) (w : World) (hm : zg w) (hv : wl w v bs) (hl : bs.length ≤ maxLen) :
  CallsIn Fence.wide 12 Tryz.prog 24 #[v] w (xx bs w) := by
 obtain ⟨va, vc, rfl, hcap, hat⟩ := hv
 unfold maxLen at hl
 have HM := zwe hm
 clear hm
 refine callsIn_of_wp_marks Tryz.func24 rfl trivial ?_ rfl
 simp only [Tryz.ntmps24, List.size_toArray, List.length_cons, List.length_nil, Nat.reduceAdd, Nat.reduceSub, Array.replicate_succ, Array.replicate_zero, List.push_toArray, List.append_toArray, List.nil_append, List.cons_append]
 by_cases hbig : 262144 < bs.length
 ·have HP : Hid (V.decP bs = ([], 3)) := zwe (by unfold V.decP; rw [if_pos hbig])
  have hn : (262144 : Int) < (bs.length : Int) := by omega
  clear hat
  gi_wp2
  refine wpIn_wide.2 (wp_scope_straight ((wpIn_wide (n := 12)).1 ?_))
  gi_wp2
  exact ⟨_, by simp [results, Tryz.f24, go_sem], xx.err HP.out (zwh _ _)⟩
 have hn : ¬ (262144 : Int) < (bs.length : Int) := by omega
 obtain ⟨g, off, hva, HCB⟩ : ∃ g off, (0 < bs.length -> va = some ⟨g, off, none⟩ /\ g < w.heap.size) /\ Hid (∀ j (h : j < bs.length), w.cell? ⟨g, off + j, none⟩ = some (.int .u8 (bs[j]).toNat)) := by
  by_cases h : 0 < bs.length
  ·obtain ⟨b, o, e, hb, _⟩ := hat 0 h
   refine ⟨b, o, fun _ => ⟨e, hb⟩, zwe (fun j hj => ?_)⟩
   obtain ⟨b2, o2, e2, _, hc⟩ := hat j hj
   rw [e] at e2
   cases e2
   exact hc
  ·exact ⟨0, 0, fun e => absurd e h, zwe (fun j hj => absurd hj (by omega))⟩
 have HVA := zwe hva
 have HR0 : Hid (Rest g off bs (.slice va bs.length vc) bs) := zwe ⟨0, va, vc, rfl, rfl, by omega, fun h => ⟨(hva h).1, hcap⟩⟩
 have HDN : Hid (V.jo (V.zd 10 bs) = none -> V.decP bs = ([], 2)) := zwe (fun h => by unfold V.decP; rw [if_neg hbig, h])
 have HDS : Hid (∀ ls, V.jo (V.zd 10 bs) = some ls -> V.decP bs = if ls.length ≤ 1000 then (ls, 0) else ([], 2)) := zwe (fun ls h => by unfold V.decP; rw [if_neg hbig, h])
 have hbl : bs.length ≤ 262144 := by omega
 clear hat hbig hva hcap hl
 gi_wp2
 refine wpIn_wide.2 (wp_scope_straight ((wpIn_wide (n := 12)).1 ?_))
 gi_wp2
 apply wpIn_label
 gi_wp2
 obtain ⟨W1, hW1⟩ : ∃ W1, W1 = w.alloc (.cells #[.bool true] 4) := ⟨_, rfl⟩
 have hz1 : W1.heap.size = w.heap.size + 1 := by rw [hW1]; simp
 have hb1 : Below w.heap.size w W1 := by rw [hW1]; exact (zwh _ w).alloc (zwg _) _
 have hc5 : W1.cell? ⟨w.heap.size, 0, none⟩ = some (.bool true) := by rw [hW1, World.cell?_alloc_new]; rfl
 have hf5 : W1.frozen? ⟨w.heap.size, 0, none⟩ = false := by rw [hW1, zz, if_pos rfl]
 rw [← hW1]
 clear hW1
 have HB1 := zwe hb1
 have HC5 := zwe hc5
 have HF5 := zwe hf5
 have HMK0 : Hid (Marked w.heap.size [] W1) := zwe ⟨List.nodup_nil, fun D h => by cases h⟩
 clear hb1 hc5 hf5
 refine wpIn_loop (fun a' w' => ∃ (bv ov u6 u7 u8 u9 u10 u11 u12 u16 u17 u18 u19 u20 u21 u22 u23 u24 u25 u26 u27 u28 u29 u30 u31 u32 u33 u34 u35 u36 u37 u38 u39 u40 u41 u42 u43 u44 u45 u46 u47 u48 u49 u50 u51 u52 u53 : Value) (Ds : List Nat) (us : List Lsl) (ls : List (List V.Bs)) (r : V.Bs), (Rest g off bs bv r /\ LRow (w.heap.size + 1) w' ov us ls /\ V.jo (V.zd 10 bs) = (V.jo (V.zd 10 r)).map (ls ++ ·) /\ Marked w.heap.size Ds w' /\ Below (w.heap.size + 1) W1 w' /\ ls.length + r.length ≤ bs.length) /\ a' = { tmps := #[bv, undef, .slice none 0 0, .int .i64 0, ov, .pointer (some ⟨w.heap.size, 0, none⟩), u6, u7, u8, u9, u10, u11, u12, .slice va bs.length vc, .int .i64 bs.length, .bool (decide ((262144 : Int) < (bs.length : Int))), u16, u17, u18, u19, u20, u21, u22, u23, u24, u25, u26, u27, u28, u29, u30, u31, u32, u33, u34, u35, u36, u37, u38, u39, u40, u41, u42, u43, u44, u45, u46, u47, u48, u49, u50, u51, u52, u53, undef, undef, undef, undef, undef, undef, undef, undef], defers := zui Ds }) (fun a' _ => slLen (a'.tmps[0]?)) ⟨.slice va bs.length vc, .slice none 0 0, undef, undef, undef, undef, undef, undef, undef, undef, undef, undef, undef, undef, undef, undef, undef, undef, undef, undef, undef, undef, undef, undef, undef, undef, undef, undef, undef, undef, undef, undef, undef, undef, undef, undef, undef, undef, undef, undef, undef, undef, undef, undef, undef, undef, undef, [], [], [], bs, ⟨HR0.out, LRow.nil _ _, by simp, HMK0.out, zwh _ _, by simp⟩, rfl⟩ ?_
 rintro a wr ⟨bv, ov, u6, u7, u8, u9, u10, u11, u12, u16, u17, u18, u19, u20, u21, u22, u23, u24, u25, u26, u27, u28, u29, u30, u31, u32, u33, u34, u35, u36, u37, u38, u39, u40, u41, u42, u43, u44, u45, u46, u47, u48, u49, u50, u51, u52, u53, Ds, us, ls, r, ⟨hrest, hrow, hlin, hmk, hbel, hlen⟩, rfl⟩
 try dsimp only
 obtain ⟨p, ra, rc, rfl, hr, hp, hra⟩ := hrest
 obtain ⟨oa, oc, rfl⟩ := hrow.slice
 have HLR := zwe hrow
 have HLIN := zwe hlin
 have HMK := zwe hmk
 have HBE := zwe hbel
 have hzr : w.heap.size + 1 ≤ wr.heap.size := by have := hbel.size; omega
 have c5 : wr.cell? ⟨w.heap.size, 0, none⟩ = some (.bool true) := (hbel.cell (p := ⟨w.heap.size, 0, none⟩) (Nat.lt_succ_self _)).trans HC5.out
 have HBW := zwe (HB1.out.trans (hbel.mono (Nat.le_succ _)))
 have HRR := zwe hr
 clear hrow hlin hmk hbel HR0 hr
 by_cases h0 : r.length = 0
 ·have h00 : ¬ (0 : Int) < (r.length : Int) := by omega
  have HS : Hid (V.jo (V.zd 10 bs) = some ls) := zwe (by
    rw [HLIN.out, List.length_eq_zero_iff.1 h0]
    simp [V.zd, V.jo])
  have HLN := zwe HLR.out.lines
  have HCP := zwe HLR.out.cap
  have HD2 := zwe (HDS.out ls HS.out)
  by_cases hk : 1000 < ls.length
  ·have hk2 : (1000 : Int) < (ls.length : Int) := by omega
   have HP : Hid (V.decP bs = ([], 2)) := zwe (by rw [HD2.out, if_neg (by omega)])
   gi_wp2
   exact ug (T := fun W => Below w.heap.size w W) (fun D W hB hD h => zbv hB hD h) (fun W h => ⟨.tuple #[.slice none 0 0, .int .i64 2], by simp [results, Tryz.f24, go_sem], xx.err HP.out h⟩) Ds wr HMK.out HBW.out
  ·have hk2 : ¬ (1000 : Int) < (ls.length : Int) := by omega
   have HP : Hid (V.decP bs = (ls, 0)) := zwe (by rw [HD2.out, if_pos (by omega)])
   gi_wp2
   exact ug (T := fun W => Below w.heap.size w W /\ Lines W (.slice oa ls.length oc) ls) (fun D W hB hD h => ⟨zbv hB hD h.1, h.2.mark hD⟩) (fun W h => ⟨.tuple #[.slice oa ls.length oc, .int .i64 0], by simp [results, Tryz.f24, go_sem], ⟨_, by rw [HP.out], by rw [HP.out]; exact h.2, HCP.out, h.1⟩⟩) Ds wr HMK.out ⟨HBW.out, HLN.out⟩
 ·obtain ⟨hra1, hrc⟩ := hra (by omega)
  subst hra1
  have hgw := (HVA.out (by omega)).2
  have h01 : (0 : Int) < (r.length : Int) := by omega
  obtain ⟨L, c1, ra2, n2, c2, fb, hcut, hLc, hLr, hLb, hft, hff⟩ := cut_rest (g := g) (off := off) HRR.out hp hrc
  have HCUT := zwe hcut
  have HLB := zwe hLb
  have HFT := zwe hft
  have HFF := zwe hff
  clear hcut hLb hft hff hra
  have hbA : Below wr.heap.size wr (wr.alloc (.cells #[.int .u8 10] 5)) := (zwh _ wr).alloc (zwg _) _
  have HCR : Hid (∀ j (h : j < r.length), (wr.alloc (.cells #[.int .u8 10] 5)).cell? ⟨g, off + p + j, none⟩ = some (.int .u8 (r[j]).toNat)) := zwe (fun j h => by
    refine (hbA.cell (p := ⟨g, off + p + j, none⟩) (by show g < wr.heap.size; omega)).trans ?_
    rw [Nat.add_assoc]
    refine (HBW.out.cell (p := ⟨g, off + (p + j), none⟩) hgw).trans ?_
    rw [HCB.out (p + j) (by omega)]
    have e := HRR.out
    subst e
    simp)
  have HSP : Hid ((wr.alloc (.cells #[.int .u8 10] 5)).cell? ⟨wr.heap.size, 0, none⟩ = some (.int .u8 ((10 : UInt8).toNat : Int))) := zwe (by rw [World.cell?_alloc_new]; rfl)
  have HMA := zwe (HM.out.below (HBW.out.trans (hbA.mono HBW.out.size)))
  have HBA := zwe hbA
  clear hbA
  gi_wp2_with fail
  refine ⟨trivial, (callsIn_wide.2 (cutB_any 10 g (off + p) rc wr.heap.size r _ HMA.out (by omega) hrc (by omega) HCR.out HSP.out)).mono ?_⟩
  rintro e wB ⟨rfl, hbB⟩
  rw [HCUT.out]
  have HBB := zwf HBA hbB
  clear hbB HCR HSP HMA HBA HCUT
  gi_wp2_with fail
  refine ⟨trivial, (callsIn_wide.2 (zmu _ _ _ _ _ _ _)).mono ?_⟩
  rintro e w' ⟨rfl, rfl⟩
  gi_wp2
  obtain ⟨W0, hW0⟩ : ∃ W0, W0 = (((((wB.alloc (.cells #[.slice none 0 0] 41)).alloc (.cells #[.int .u8 32] 5)).alloc (.cells #[.slice (some ⟨g, off + p, none⟩) L.length c1] 23)).alloc (.cells #[.slice (some ⟨wB.heap.size + 1, 0, none⟩) 1 1] 23)).alloc (.cells #[.int .i64 0] 3)) := ⟨_, rfl⟩
  rw [← hW0]
  obtain ⟨O, hO⟩ : ∃ O, O = wB.heap.size := ⟨_, rfl⟩
  have hsz : W0.heap.size = O + 5 := by rw [hW0, hO]; simp
  have hB0 : Below wB.heap.size wB W0 := by
   rw [hW0]
   exact (((((zwh _ wB).alloc (zwg _) _).alloc (by simp) _).alloc (by simp; omega) _).alloc (by simp; omega) _).alloc (by simp; omega) _
  have c9 : W0.cell? ⟨O, 0, none⟩ = some (.slice none 0 0) := by
   exact zyi
  have f9 : W0.frozen? ⟨O, 0, none⟩ = false := by
   exact z1t
  have cb2 : W0.cell? ⟨O + 1, 0, none⟩ = some (.int .u8 ((32 : UInt8).toNat : Int)) := by
   exact zyi
  have cS : W0.cell? ⟨O + 1 + 1, 0, none⟩ = some (.slice (some ⟨g, off + p, none⟩) L.length c1) := by
   exact zyi
  have fS : W0.frozen? ⟨O + 1 + 1, 0, none⟩ = false := by
   exact z1t
  have cP : W0.cell? ⟨O + 1 + 1 + 1, 0, none⟩ = some (.slice (some ⟨O + 1, 0, none⟩) 1 1) := by
   exact zyi
  have cV : W0.cell? ⟨O + 1 + 1 + 2, 0, none⟩ = some (.int .i64 0) := by
   exact zyi
  rw [← hO] at hB0 ⊢
  have hOw : w.heap.size < O := by have := HBB.out.size; omega
  have HBO := zwe (HBW.out.trans (HBB.out.mono HBW.out.size))
  have HLC : Hid (∀ j (h : j < L.length), wB.cell? ⟨g, off + p + j, none⟩ = some (.int .u8 (L[j]).toNat)) := zwe (fun j h => by
    refine (HBO.out.cell (p := ⟨g, off + p + j, none⟩) hgw).trans ?_
    have e := HLB.out j h
    have hj := (List.getElem?_eq_some_iff.1 e).1
    rw [Nat.add_assoc, HCB.out (p + j) hj, (List.getElem?_eq_some_iff.1 e).2])
  have HLC0 : Hid (∀ j (h : j < L.length), W0.cell? ⟨g, off + p + j, none⟩ = some (.int .u8 (L[j]).toNat)) := zwe (fun j h => (hB0.cell (p := ⟨g, off + p + j, none⟩) (by show g < O; omega)).trans (HLC.out j h))
  have HB0 := zwe hB0
  have HC9 := zwe (And.intro c9 f9)
  have HCB2 := zwe cb2
  have HCS := zwe (And.intro cS (And.intro fS (And.intro cP cV)))
  have hL9 : L.length ≤ 262144 := by omega
  have hOb : wB.heap.size = O := hO.symm
  clear hW0 hO hB0 c9 f9 cb2 cS fS cP cV c5
  refine zgn (b := O + 1 + 1) rfl (by omega) (gf := 107)
   (lb := #[.pointer (some ⟨O + 1 + 1 + 1, 0, none⟩), .pointer (some ⟨O + 1 + 1, 0, none⟩), .pointer (some ⟨O + 1 + 1 + 2, 0, none⟩)])
   rfl trivial (enters_of Tryz.func107 (by kernel_rfl) rfl) (by omega)
   (zrr 11 (by omega) (O + 1 + 1) g (off + p) c1 (O + 1) O (by omega) (by omega) (by omega) 32 L (by omega) hLc (by omega) (by omega) W0 (by omega) HCS.out.1 HCS.out.2.1 HCS.out.2.2.1 HCS.out.2.2.2 HLC0.out HCB2.out)
   (fun h k => h.trans k) (KpO.put (by omega)) (fun _ => rfl)
   (I := fun pre W => (∃ ov2 l, W.cell? ⟨O, 0, none⟩ = some ov2 /\ W.frozen? ⟨O, 0, none⟩ = false /\ O + 5 ≤ W.heap.size /\ GRow 9 1 wrdE W (O + 5) ov2 l /\ V.qg (pre.map Prod.snd) = some l) /\ Below O wB W)
   (Ix := fun c pre W => ((c = .exit 0 /\ W.cell? ⟨w.heap.size, 0, none⟩ = some (.bool false) /\ (∀ S, pre.map Prod.snd <+: S -> V.qg S = none)) /\ KpO O w.heap.size wB W) /\ Below w.heap.size w W)
   (act := fun x => { tmps := #[.slice (some ⟨g, off + p, none⟩) r.length rc, undef, .slice none 0 0, .int .i64 0, .slice oa ls.length oc, .pointer (some ⟨w.heap.size, 0, none⟩), .slice (some ⟨g, off + p, none⟩) L.length c1, .slice ra2 n2 c2, .bool fb, .pointer (some ⟨O, 0, none⟩), .slice (some ⟨g, x.1, none⟩) x.2.length x.2.length, u11, u12, .slice va bs.length vc, .int .i64 bs.length, .bool (decide ((262144 : Int) < (bs.length : Int))), .slice (some ⟨g, off + p, none⟩) r.length rc, .int .i64 r.length, .bool true, .tuple #[.slice (some ⟨g, off + p, none⟩) L.length c1, .slice ra2 n2 c2, .bool fb], .slice (some ⟨g, off + p, none⟩) r.length rc, .slice (some ⟨wr.heap.size, 0, none⟩) 1 1, .tuple #[.slice (some ⟨g, off + p, none⟩) L.length c1, .slice ra2 n2 c2, .bool fb], .slice (some ⟨g, off + p, none⟩) L.length c1, .slice ra2 n2 c2, .bool fb, .slice (some ⟨g, off + p, none⟩) L.length c1, .slice (some ⟨O + 1, 0, none⟩) 1 1, .func (.func 107) #[] #[.pointer (some ⟨O + 1 + 1 + 1, 0, none⟩), .pointer (some ⟨O + 1 + 1, 0, none⟩), .pointer (some ⟨O + 1 + 1 + 2, 0, none⟩)], .slice (some ⟨g, x.1, none⟩) x.2.length x.2.length, u30, u31, u32, u33, u34, u35, u36, u37, u38, u39, u40, u41, u42, u43, u44, u45, u46, u47, u48, u49, u50, u51, u52, u53, undef, undef, undef, undef, undef, undef, undef, undef], defers := [] })
   ⟨?own, ?ownx, ?state, ?assign, ?body⟩ ⟨⟨_, [], HC9.out.1, HC9.out.2, by omega, GRow.nil _ _, rfl⟩, HB0.out⟩ ?done ?stop
  case own =>
   refine OwnFrom.and (Own.from (fun s A B row hs hg hr => ?_) _) (ownFrom_below (by omega) (by omega))
   obtain ⟨ov2, l, h1, h2, h4, h3, h5⟩ := hs
   exact ⟨ov2, l, cell_kept h1 hg hr, (frozen_kept h1 hg hr).trans h2, Nat.le_trans h4 hg.size, h3.own hg hr, h5⟩
  case ownx =>
   intro c
   exact OwnFrom.and (OwnFrom.and (Own.from (fun s A B row hs hg hr => ⟨hs.1, cell_kept hs.2.1 hg hr, hs.2.2⟩) _) (kpO_own (by omega) (by omega))) (ownFrom_below (zwg _) (by omega))
  case state =>
   rintro s A u ⟨⟨ov2, l, h1, h2, h4, h3, h5⟩, hB⟩
   exact ⟨⟨ov2, l, by rw [World.cell?_setCell_other _ _ _ _ (by simp)]; exact h1, by rw [World.frozen?_setCell]; exact h2, Nat.le_trans h4 (zb6 A (O + 1 + 1) 0 u).size, h3.kept (zb6 A (O + 1 + 1) 0 u) (fun b hb => by cases hb; omega), h5⟩, hB.setCell (p := ⟨O + 1 + 1, 0, none⟩) (by show O ≤ O + 1 + 1; omega) _⟩
  case assign =>
   intro l x W K hK
   gi_wp2
   exact hK
  case body =>
   rintro lp pre x W ⟨⟨ov2, l, h1, h2, h4, h3, h5⟩, hB⟩ ⟨hx, hpn⟩
   obtain ⟨oa2, oc2, rfl⟩ := GRow.slice h3
   have HBw := zwe hB
   have H3 := zwe h3
   have H5 := zwe h5
   have hxl : x.2.length ≤ 262144 := by
    obtain ⟨_, hh, _⟩ := hx
    omega
   have hcv := zf5 W g x.1 x.2.length x.2.length x.2 rfl (hx.cells (fun j h => (HBw.out.cell (p := ⟨g, off + p + j, none⟩) (by show g < O; omega)).trans (HLC.out j h)))
   have hll : l.length ≤ 262145 := by
    have h1 := (V.zlw h5).1
    rw [List.length_map] at h1
    omega
   clear h3 hB h5
   gi_wp2_with fail
   refine ⟨trivial, (CallsIn.inRound lp (callsIn_wide.2 (zpg x.2 W (by omega)))).mono ?_⟩
   rintro e W2 ⟨rfl, hb2⟩
   have hkb := zh5 hb2
   have HKB := zwe hkb
   have HKP := zwe (zoa (O := O) h4 hb2)
   have HB2 := zwe (HBw.out.trans (hb2.mono (by rw [← hOb]; exact HBw.out.size)))
   have H32 := zwe (H3.out.below hb2)
   have k1 : W2.cell? ⟨O, 0, none⟩ = some (.slice oa2 l.length oc2) := (hb2.cell (p := ⟨O, 0, none⟩) (by show O < W.heap.size; omega)).trans h1
   have k2 : W2.frozen? ⟨O, 0, none⟩ = false := (hb2.frozen (p := ⟨O, 0, none⟩) (by show O < W.heap.size; omega)).trans h2
   have k4 : O + 5 ≤ W2.heap.size := Nat.le_trans h4 hb2.size
   clear hkb hb2 hcv h1 h2 H3
   rcases V.zfw x.2 with hu | ⟨wd, hu, _⟩
   ·have HU := zwe hu
    rw [hu]
    clear hu
    have q5 : W2.cell? ⟨w.heap.size, 0, none⟩ = some (.bool true) := (HB2.out.cell (p := ⟨w.heap.size, 0, none⟩) (by show w.heap.size < O; omega)).trans ((HBB.out.cell (p := ⟨w.heap.size, 0, none⟩) (by show w.heap.size < wr.heap.size; omega)).trans ((HBE.out.cell (p := ⟨w.heap.size, 0, none⟩) (Nat.lt_succ_self _)).trans HC5.out))
    have qf : W2.frozen? ⟨w.heap.size, 0, none⟩ = false := (HB2.out.frozen (p := ⟨w.heap.size, 0, none⟩) (by show w.heap.size < O; omega)).trans ((HBB.out.frozen (p := ⟨w.heap.size, 0, none⟩) (by show w.heap.size < wr.heap.size; omega)).trans ((HBE.out.frozen (p := ⟨w.heap.size, 0, none⟩) (Nat.lt_succ_self _)).trans HF5.out))
    gi_wp2
    refine ⟨HKB.out.trans (KeepsOthers.setCell _ _ _), ⟨⟨rfl, World.cell?_setCell_same' _ _ _ (by rw [q5]; rfl), fun S hS => zk6 HU.out (by simpa using hS)⟩, ?_⟩, ?_⟩
    ·refine ⟨Nat.le_trans HB2.out.size (zb6 W2 w.heap.size 0 _).size, fun q hq hqo => ?_⟩
     rw [Below.heap_setCell _ _ _ _ (by show q ≠ w.heap.size; exact hqo)]
     exact HB2.out.block q hq
    ·exact (HBO.out.trans (HB2.out.mono (by omega))).setCell (p := ⟨w.heap.size, 0, none⟩) (zwg _) _
   ·have HU := zwe hu
    rw [hu]
    clear hu
    have hb5 : Below W2.heap.size W2 (W2.alloc (.cells #[.string ⟨wd.toArray⟩] 9)) := (zwh _ W2).alloc (zwg _) _
    have HR5 := zwe (H32.out.below hb5)
    have HNW : Hid (∀ i u, (wrdE wd)[i]? = some u -> (W2.alloc (.cells #[.string ⟨wd.toArray⟩] 9)).cell? ⟨W2.heap.size, i, none⟩ = some u) := zwe (fun i u hu => by
      rw [World.cell?_alloc_new]
      simpa [wrdE] using hu)
    have HK5 := zwe (HKB.out.trans (zh5 hb5))
    have HP5 := zwe (HKP.out.trans (zoa (O := O) k4 hb5))
    have HB5 := zwe (HB2.out.trans (hb5.mono (by rw [← hOb]; exact HB2.out.size)))
    have j1 : (W2.alloc (.cells #[.string ⟨wd.toArray⟩] 9)).cell? ⟨O, 0, none⟩ = some (.slice oa2 l.length oc2) := (hb5.cell (p := ⟨O, 0, none⟩) (by show O < W2.heap.size; omega)).trans k1
    have j2 : (W2.alloc (.cells #[.string ⟨wd.toArray⟩] 9)).frozen? ⟨O, 0, none⟩ = false := (hb5.frozen (p := ⟨O, 0, none⟩) (by show O < W2.heap.size; omega)).trans k2
    have j4 : O + 5 ≤ (W2.alloc (.cells #[.string ⟨wd.toArray⟩] 9)).heap.size := Nat.le_trans k4 hb5.size
    have J1 := zwe (And.intro j1 j2)
    clear hb5 HKB HKP HB2 H32 j1 j2
    gi_wp2_with (first | (refine zs3 rfl _ _ rfl (O + 5) (.slice oa2 l.length oc2) l rfl HR5.out W2.heap.size wd rfl HNW.out (by omega) j4 ?_
                          intro v' w3 hi3 hg3
                          have c3 : w3.cell? ⟨O, 0, none⟩ = some (.slice oa2 l.length oc2) := hg3.cell J1.out.1 (fun e => by have := HR5.out.block _ e.symm; simp at this; omega)
                          have f3 : w3.frozen? ⟨O, 0, none⟩ = false := by
                            rw [← J1.out.2]
                            unfold World.frozen?
                            rw [hg3.block O (by omega) (fun e => by have := HR5.out.block _ e.symm; omega)]
                          obtain ⟨va', vc', hv'⟩ := GRow.slice hi3
                          subst hv'
                          have hL3 : (l ++ [wd]).length = l.length + 1 := by simp
                          rw [hL3] at hi3
                          have HI3 := zwe hi3
                          have HG3 := zwe hg3
                          clear hi3 hg3) | fail)
    refine ⟨HK5.out.trans ((HR5.out.keepsO HG3.out).trans (KeepsOthers.setCell _ _ _)), HP5.out.trans ⟨Nat.le_trans HG3.out.size (zb6 w3 O 0 _).size, fun q hq hqo => ?_⟩, ⟨_, l ++ [wd], World.cell?_setCell_same _ _ _ c3, by rw [World.frozen?_setCell]; exact f3, ?_, ?_, ?_⟩, ?_⟩
    ·rw [Below.heap_setCell _ _ _ _ (by show q ≠ O; exact hqo)]
     exact HG3.out.block q (by omega) (fun e => by have := HR5.out.block _ e.symm; omega)
    ·have := HG3.out.size
     simp only [World.setCell, Array.size_modify]
     omega
    ·exact HI3.out.kept (zb6 w3 O 0 _) (fun b hb => by cases hb; omega)
    ·rw [List.map_append]
     exact zk7 H5.out HU.out
    ·exact (HB5.out.trans (zk HG3.out HR5.out.block (by omega) j4)).setCell (p := ⟨O, 0, none⟩) (zwg _) _
  case done =>
   rintro D ys W hD hys ⟨⟨ov2, l, h1, h2, h4, h3, h5⟩, hB⟩ hK
   rw [hys] at h5
   obtain ⟨oa2, oc2, rfl⟩ := GRow.slice h3
   have HBw := zwe hB
   have H3 := zwe h3
   have H5 := zwe h5
   have hBO : Below O wB W := hB
   have HMW := zwe (Marked.cons (HMK.out.below HBB.out) (by rw [hOb]; exact hBO) (by omega) (by omega) hK)
   have q5 : W.cell? ⟨w.heap.size, 0, none⟩ = some (.bool true) := (hBO.cell (p := ⟨w.heap.size, 0, none⟩) (by show w.heap.size < O; omega)).trans ((HBB.out.cell (p := ⟨w.heap.size, 0, none⟩) (by show w.heap.size < wr.heap.size; omega)).trans ((HBE.out.cell (p := ⟨w.heap.size, 0, none⟩) (Nat.lt_succ_self _)).trans HC5.out))
   have qf : W.frozen? ⟨w.heap.size, 0, none⟩ = false := (hBO.frozen (p := ⟨w.heap.size, 0, none⟩) (by show w.heap.size < O; omega)).trans ((HBB.out.frozen (p := ⟨w.heap.size, 0, none⟩) (by show w.heap.size < wr.heap.size; omega)).trans ((HBE.out.frozen (p := ⟨w.heap.size, 0, none⟩) (Nat.lt_succ_self _)).trans HF5.out))
   have HBV := zwe (HBO.out.trans (hBO.mono (by omega)))
   have q5s := World.cell?_setCell_same W ⟨w.heap.size, 0, none⟩ (.bool false) q5
   have HMS := zwe (HMW.out.setCell q5 (.bool false))
   have HBS := zwe (HBV.out.setCell (p := ⟨w.heap.size, 0, none⟩) (zwg _) (.bool false))
   clear h3 hB h5 hK hys hBO
   cases fb with
   | false =>
    have HN : Hid (V.decP bs = ([], 2)) := zwe (HDN.out (zn4 HLIN.out (HFF.out rfl).1 (by
      intro e
      have := (HFF.out rfl).2
      rw [e] at this
      rw [← this] at h01
      simp at h01)))
    gi_wp2
    refine ⟨trivial, ?_⟩
    exact zya
   | true =>
    obtain ⟨r', hrest', hsp, hlt'⟩ := HFT.out rfl
    have HAT := zwe (zqr HLIN.out hsp)
    have HRST := zwe hrest'
    have hwl : ∀ x ∈ l, x.length ≤ 262144 := V.zhq H5.out (fun s hs => by have := V.zdl 32 hs; omega)
    have HWL := zwe hwl
    have HWS := zwe (zr6 H3.out)
    have h1c := h1
    clear hrest' hsp hwl
    gi_wp2_with fail
    refine ⟨trivial, (callsIn_wide.2 (zov _ l W HWS.out (fun x hx => by have := HWL.out x hx; unfold maxLen; omega))).mono ?_⟩
    rintro e w' ⟨rfl, rfl⟩
    by_cases hck : V.chk l = 0
    ·have HNX := zwe (HAT.out.2.2 l H5.out hck)
     rw [hck]
     clear hck HAT
     have hBO : Below wB.heap.size wB w' := by
      rw [hOb]
      exact HBw.out
     have hb5 : Below w'.heap.size w' (w'.alloc (.cells #[(⟨oa2, l.length, oc2⟩ : Lsl).v] 41)) := (zwh _ w').alloc (zwg _) _
     have HRW5 := zwe (((HLR.out.later HBB.out).later hBO).later hb5)
     have HU5 := zwe (xt HWS.out hb5)
     have HCL := zwe (ztu w' ⟨oa2, l.length, oc2⟩)
     have hsB := HBB.out.size
     have hsW := hBO.size
     have hs5 := hb5.size
     have hN1 : w.heap.size + 1 ≤ (w'.alloc (.cells #[(⟨oa2, l.length, oc2⟩ : Lsl).v] 41)).heap.size := by omega
     have hul : us.length ≤ 1000000 := by rw [HLR.out.len]; omega
     have HM5 := zwe (HMW.out.below hb5)
     have HB5 := zwe (((HBE.out.trans (HBB.out.mono hzr)).trans (hBO.mono (by omega))).trans (hb5.mono (by omega)))
     have HLT := zwe HLR.out.row.lt
     have HBK := zwe H3.out.block
     clear hBO hb5
     gi_wp2_with (first | (refine ztt zec (by decide) zg5 zem (by decide) rfl _ _ 42 rfl Tryz.underlying42 (w.heap.size + 1) (.slice oa ls.length oc) us rfl HRW5.out.row w'.heap.size ⟨oa2, l.length, oc2⟩ rfl HCL.out hul hN1 ?_; intro v9 w9 hr9 hg9 ho9) | fail)
     have HN9 := zwe (HRW5.out.add hr9 hg9 ho9 HU5.out (fun _ q hq e => by
       have h1 := HBK.out q hq
       have h2 := HLT.out q e
       omega))
     have HM9 := zwe (HM5.out.keeps (HRW5.out.row.keepsO hg9))
     have HB9 := zwe (HB5.out.trans (zk hg9 HRW5.out.row.block (zwg _) hN1))
     have hl9 : (ls ++ [l]).length + r'.length ≤ bs.length := by simp; omega
     refine ⟨⟨_, _, _, _, _, _, _, _, _, _, _, _, _, _, _, _, _, _, _, _, _, _, _, _, _, _, _, _, _, _, _, _, _, _, _, _, _, _, _, _, _, _, _, _, _, _, _, D :: Ds, _, ls ++ [l], r', ⟨HRST.out, HN9.out, HNX.out, HM9.out, HB9.out, hl9⟩, rfl⟩, ?_⟩
     obtain ⟨_, _, _, e, _⟩ := HRST.out
     cases e
     simp [slLen]
     omega
    ·have HN : Hid (V.decP bs = ([], 2)) := zwe (HDN.out (HAT.out.2.1 l H5.out hck))
     have hcb : (V.chk l == 0) = false := by rw [zwi]; exact hck
     clear HAT
     generalize V.chk l = ck at *
     exact zya
  case stop =>
   rintro D c pre W hD hpre ⟨⟨⟨rfl, q5, hno⟩, hkp⟩, hB⟩ hK
   have hwn : V.qg (V.zd 32 L) = none := hno _ hpre
   have HN : Hid (V.decP bs = ([], 2)) := zwe (HDN.out (by
     cases fb with
     | false =>
       refine zn4 HLIN.out (HFF.out rfl).1 (fun e => ?_)
       have := (HFF.out rfl).2
       rw [e] at this
       rw [← this] at h01
       simp at h01
     | true =>
       obtain ⟨r', _, hsp, _⟩ := HFT.out rfl
       exact (zqr HLIN.out hsp).1 hwn))
   have hmB := HMK.out.below HBB.out
   have HMS : Hid (Marked w.heap.size (D :: Ds) W) := zwe ⟨List.nodup_cons.2 ⟨fun hm => by
       have := (Array.getElem?_eq_some_iff.1 (hmB.2 D hm).2).1
       omega, hmB.1⟩, fun D' h' => by
     rcases List.mem_cons.1 h' with rfl | h'
     · exact ⟨by omega, hK⟩
     · have hd := hmB.2 D' h'
       have hlt := (Array.getElem?_eq_some_iff.1 hd.2).1
       refine ⟨hd.1, (hkp.2 D' (by omega) (fun e => ?_)).trans hd.2⟩
       have c5w : wB.cell? ⟨w.heap.size, 0, none⟩ = some (.bool true) := (HBB.out.cell (p := ⟨w.heap.size, 0, none⟩) (by show w.heap.size < wr.heap.size; omega)).trans ((HBE.out.cell (p := ⟨w.heap.size, 0, none⟩) (Nat.lt_succ_self _)).trans HC5.out)
       subst e
       unfold World.cell? at c5w
       rw [hd.2] at c5w
       cases c5w⟩
   have HBS := zwe hB
   clear hK hkp hB hno hpre hwn hmB
   exact zya
theorem zmv (v : Value) (bs : V.Bs) (w : World) (hm : zg w) (hv : wl w v bs) (hl : bs.length ≤ maxLen) :
  Calls Tryz.prog 24 #[v] w (xx bs w) :=
 callsIn_wide.1 (zqo v bs w hm hv hl)
end Go.Proofs.YtcfbkcapbbhmpaaGreatDoor
