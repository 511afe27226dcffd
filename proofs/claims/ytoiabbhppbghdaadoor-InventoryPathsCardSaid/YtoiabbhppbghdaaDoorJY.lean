/-
  The iterator over what contains a component: contract.
-/
import Derived.Test.YtoiabbhppbghdaaDoorL4
import Derived.Test.YtoiabbhppbghdaaDoorL5
import Derived.Test.YtoiabbhppbghdaaDoorJM
import Derived.Test.YtoiabbhppbghdaaDoorJN
namespace Go.Proofs.YtoiabbhppbghdaaDoor
open Go.RowKit Go.Shelf
attribute [local go_sem] Oper.semAt_some

namespace V
def parOf (l : List Comp) (i : Int) : Int := match l[i.toNat]? with | some c => c.par | none => -1
def ancF (l : List Comp) : Nat → Int → List Int
  | 0, _ => []
  | f + 1, i => if i < 0 then [] else i :: ancF l f (parOf l i)
/-- the component at place i and those that contain it, from the inside -/
def anc (l : List Comp) (i : Int) : List Int := ancF l (i.toNat + 1) i
theorem parOf_at {l : List Comp} {i : Nat} (h : i < l.length) : parOf l i = l[i].par := by
  unfold parOf
  rw [Int.toNat_natCast, List.getElem?_eq_getElem h]
theorem par_lt {l : List Comp} (ho : compsTo l l.length = true) {i : Nat} (h : i < l.length) : -1 ≤ l[i].par ∧ l[i].par < i := by
  have := compsTo_at ho h
  rw [compAt_iff] at this
  exact ⟨this.2.1, this.2.2.1⟩
theorem ancF_fuel {l : List Comp} (ho : compsTo l l.length = true) : ∀ (f g : Nat) (i : Int), i < l.length → i.toNat < f → i.toNat < g → ancF l f i = ancF l g i
  | 0, _, _, _, h, _ => by omega
  | _, 0, _, _, _, h => by omega
  | f + 1, g + 1, i, hl, hf, hg => by
    unfold ancF
    by_cases h0 : i < 0
    · rw [if_pos h0, if_pos h0]
    · rw [if_neg h0, if_neg h0]
      obtain ⟨k, rfl⟩ := Int.eq_ofNat_of_zero_le (show 0 ≤ i by omega)
      have hk : k < l.length := by omega
      have hp := par_lt ho hk
      rw [parOf_at hk]
      by_cases hn : l[k].par < 0
      · congr 1
        cases f with
        | zero => cases g with
          | zero => rfl
          | succ g => unfold ancF; rw [if_pos hn]
        | succ f => cases g with
          | zero => unfold ancF; rw [if_pos hn]
          | succ g => unfold ancF; rw [if_pos hn, if_pos hn]
      · congr 1
        exact ancF_fuel ho f g _ (by omega) (by omega) (by omega)
theorem anc_neg {l : List Comp} {i : Int} (h : i < 0) : anc l i = [] := by
  unfold anc ancF; rw [if_pos h]
theorem anc_step {l : List Comp} (ho : compsTo l l.length = true) {k : Nat} (h : k < l.length) : anc l k = (k : Int) :: anc l l[k].par := by
  have hp := par_lt ho h
  unfold anc
  rw [show ((k : Int).toNat + 1) = k + 1 by omega]
  conv => lhs; unfold ancF
  rw [if_neg (by omega), parOf_at h]
  congr 1
  by_cases hn : l[k].par < 0
  · cases k with
    | zero => conv => rhs; unfold ancF
              rw [if_pos hn]; rfl
    | succ k => conv => lhs; unfold ancF
                conv => rhs; unfold ancF
                rw [if_pos hn, if_pos hn]
  · exact ancF_fuel ho _ _ _ (by omega) (by omega) (by omega)
theorem ancF_len (l : List Comp) : ∀ (f : Nat) (i : Int), (ancF l f i).length ≤ f
  | 0, _ => by simp [ancF]
  | f + 1, i => by
    unfold ancF
    split
    · simp
    · have := ancF_len l f (parOf l i)
      simp; omega
theorem anc_len {l : List Comp} (_ : compsTo l l.length = true) (i : Int) (h : i < l.length) : (anc l i).length ≤ l.length := by
  unfold anc
  by_cases h0 : i < 0
  · unfold ancF; rw [if_pos h0]; simp
  · have := ancF_len l (i.toNat + 1) i
    omega
end V

/-- all blocks below B but o are kept -/
def Spared (B o : Nat) (W W' : World) : Prop := W.heap.size ≤ W'.heap.size ∧ ∀ k, k < B → k ≠ o → W'.heap[k]? = W.heap[k]?
theorem Spared.cell {B o : Nat} {W W' : World} (h : Spared B o W W') {b : Nat} (hb : b < B) (ho : b ≠ o) (i : Nat) : W'.cell? ⟨b, i, none⟩ = W.cell? ⟨b, i, none⟩ := by
  unfold World.cell?
  rw [h.2 b hb ho]
theorem Spared.frozen {B o : Nat} {W W' : World} (h : Spared B o W W') {b : Nat} (hb : b < B) (ho : b ≠ o) (i : Nat) : W'.frozen? ⟨b, i, none⟩ = W.frozen? ⟨b, i, none⟩ := by
  unfold World.frozen?
  rw [h.2 b hb ho]
/-- the components lie below B, not in o -/
def CompsIn (W : World) (B o : Nat) (v : Value) (l : List V.Comp) : Prop :=
  ∃ a cap, v = .slice a l.length cap ∧ ∀ j (h : j < l.length), CompWf l[j] ∧ ∃ b off, a = some ⟨b, off, none⟩ ∧ b < B ∧ b ≠ o ∧ W.rangeAt b (off + j * 36) (cellsL l[j])
theorem CompsIn.kept {W W' : World} {B o : Nat} {v : Value} {l : List V.Comp} (h : CompsIn W B o v l) (hs : Spared B o W W') : CompsIn W' B o v l := by
  obtain ⟨a, cap, e, hc⟩ := h
  refine ⟨a, cap, e, fun j hj => ?_⟩
  obtain ⟨hw, b, off, ea, hb, ho, hr⟩ := hc j hj
  exact ⟨hw, b, off, ea, hb, ho, fun i u hu => (hs.cell hb ho _).trans (hr i u hu)⟩
theorem CompsIn.setCell {W : World} {B o : Nat} {v : Value} {l : List V.Comp} {bI : Nat} (h : CompsIn W B o v l) (hbI : B ≤ bI) (u : Value) : CompsIn (W.setCell ⟨bI, 0, none⟩ u) B o v l := by
  refine h.kept ⟨by simp [World.setCell], fun k hk _ => Below.heap_setCell _ _ _ _ (by show k ≠ bI; omega)⟩

def intOfO : Option Value → Nat
  | some (.int _ n) => (n + 1).toNat
  | _ => 0

set_option maxRecDepth 100000 in
set_option maxHeartbeats 1600000 in
theorem anc1_in (n : Nat) (hn : 1 ≤ n) (lp bX o : Nat) (v : Value) (l : List V.Comp) (ho : V.compsTo l l.length = true) (hl : l.length ≤ 100000) (i : Int) (hi : -1 ≤ i) (hil : i < l.length) (hox : o ≠ bX) (hox1 : o ≠ bX + 1) (J Jx : List Int → World → Prop)
    (hJ : ∀ s A u, J s A → J s (A.setCell ⟨bX + 1, 0, none⟩ u))
    (hY : ∀ pre x W, J pre W → pre.length < l.length → YieldAt Fence.wide (n - 1) Tryd.prog lp #[.int .i64 x] W fun e W' =>
      (e = .returned (.bool true) ∧ J (pre ++ [x]) W' ∧ Spared (bX + 2) o W W') ∨ (e = .returned (.bool false) ∧ Jx (pre ++ [x]) W'))
    (W : World) (hI : W.cell? ⟨bX + 1, 0, none⟩ = some (.int .i64 i)) (hF : W.frozen? ⟨bX + 1, 0, none⟩ = false) (hX : W.cell? ⟨bX, 33, none⟩ = some v) (hC : CompsIn W bX o v l) (h0 : J [] W) :
    CallsIn Fence.wide n Tryd.prog 47 #[.func (.yield lp) #[] #[], .pointer (some ⟨bX + 1, 0, none⟩), .pointer (some ⟨bX, 0, none⟩)] W fun e W' => (∃ v, e = .returned v) ∧
      ((∃ ys, ys = V.anc l i ∧ J ys W') ∨ (∃ pre, pre <+: V.anc l i ∧ Jx pre W')) := by
  have HJ := Lib.hid hJ
  have HY := Lib.hid hY
  have HO := Lib.hid ho
  have HC := Lib.hid hC
  obtain ⟨va, vc, rfl, hjunk⟩ := hC
  clear hJ hY ho hjunk
  refine callsIn_of_wp Tryd.func47 rfl trivial ?_ rfl
  simp only [Tryd.ntmps47, List.size_toArray, List.length_cons, List.length_nil, Nat.reduceAdd, Nat.reduceSub, Array.replicate_succ, Array.replicate_zero, List.push_toArray, List.append_toArray, List.nil_append, List.cons_append]
  gi_wp2
  gi_loopw [4] (fun _ wr => ∃ (pre : List Int) (r : Int), -1 ≤ r ∧ r < l.length ∧ wr.cell? ⟨bX + 1, 0, none⟩ = some (.int .i64 r) ∧ wr.frozen? ⟨bX + 1, 0, none⟩ = false ∧ wr.cell? ⟨bX, 33, none⟩ = some (.slice va l.length vc) ∧ CompsIn wr bX o (.slice va l.length vc) l ∧ V.anc l i = pre ++ V.anc l r ∧ J pre wr)
    (fun _ wr => intOfO (wr.cell? ⟨bX + 1, 0, none⟩))
  case atStart => exact ⟨[], i, hi, hil, hI, hF, hX, HC.out, rfl, h0⟩
  case round =>
    obtain ⟨pre, r, hr1, hr2, hI, hF, hX, hc, hpc, hj⟩ := hrel
    have HPC := Lib.hid hpc
    have HJS := Lib.hid hj
    have HCW := Lib.hid hc
    clear hpc hj hc
    by_cases hneg : r < 0
    · have hge : ¬ 0 ≤ r := by omega
      gi_wp2
      go_end0
      have HJE : J (V.anc l i) wr := by rw [HPC.out, V.anc_neg hneg, List.append_nil]; exact HJS.out
      first
        | exact ⟨⟨_, rfl⟩, .inl ⟨_, rfl, HJE⟩⟩
        | exact ⟨⟨_, rfl⟩, .inl HJE⟩
        | exact .inl HJE
    · obtain ⟨k, rfl⟩ := Int.eq_ofNat_of_zero_le (show 0 ≤ r by omega)
      have hk : k < l.length := by omega
      have HST := Lib.hid (V.anc_step HO.out hk)
      have hpar := V.par_lt HO.out hk
      have hplen : pre.length < l.length := by
        have h1 := congrArg List.length HPC.out
        rw [HST.out] at h1
        have h2 := V.anc_len HO.out i (by omega)
        simp at h1
        omega
      obtain ⟨fn, tmps, assign, body, hy, hR⟩ := HY.out pre (k : Int) wr HJS.out hplen
      clear hplen
      gi_wp2
      refine hR.mono ?_
      rintro e W3 (⟨rfl, hJ3, hk3⟩ | ⟨rfl, hJx3⟩)
      · have hI3 := (hk3.cell (b := bX + 1) (by omega) (by omega) 0).trans hI
        have hF3 := (hk3.frozen (b := bX + 1) (by omega) (by omega) 0).trans hF
        have hX3 := (hk3.cell (b := bX) (by omega) (by omega) 33).trans hX
        have hC3 : CompsIn W3 bX o (.slice va l.length vc) l := HCW.out.kept ⟨hk3.1, fun q hq hqo => hk3.2 q (by omega) hqo⟩
        have HC3 := Lib.hid hC3
        obtain ⟨a', c', e', hat⟩ := hC3
        obtain ⟨hxw, b, off, ea, hbB, hbo, hxr⟩ := hat k hk
        cases e'
        subst ea
        have hx0 : W3.cell? ⟨b, off + k * 36, none⟩ = some (.int .i64 l[k].par) := hxr 0 _ rfl
        clear hat hxr
        have HPR := Lib.hid hpar
        clear hpar
        generalize l[k].par = pr at *
        gi_wp2
        go_roundw
        case rel =>
          refine ⟨pre ++ [(k : Int)], pr, HPR.out.1, by have := HPR.out.2; omega, World.cell?_setCell_same _ _ _ hI3, ?_, ?_, HC3.out.setCell (by omega) _, by rw [HPC.out, HST.out]; simp, HJ.out _ _ _ hJ3⟩
          · rw [World.frozen?_setCell]; exact hF3
          · rw [World.cell?_setCell_other _ _ _ _ (by simp)]; exact hX3
        case measure =>
          rw [World.cell?_setCell_same _ _ _ hI3, hI]
          have := HPR.out
          simp [intOfO]; omega
      · gi_wp2
        refine bodyPost_ret (results_none rfl _ _ _) rfl ?_
        exact ⟨⟨_, rfl⟩, .inr ⟨_, by rw [HPC.out, HST.out]; exact ⟨V.anc l l[k].par, by simp⟩, hJx3⟩⟩

theorem anc1_seq (n : Nat) (hn : 1 ≤ n) (bX o : Nat) (v : Value) (l : List V.Comp) (ho : V.compsTo l l.length = true) (hl : l.length ≤ 100000) (i : Int) (hi : -1 ≤ i) (hil : i < l.length) (hox : o < bX) (w : World) (hb : bX + 1 < w.heap.size)
    (hI : w.cell? ⟨bX + 1, 0, none⟩ = some (.int .i64 i)) (hF : w.frozen? ⟨bX + 1, 0, none⟩ = false) (hX : w.cell? ⟨bX, 33, none⟩ = some v) (hC : CompsIn w bX o v l) :
    HandsP Fence.wide n Tryd.prog 47 #[.pointer (some ⟨bX + 1, 0, none⟩), .pointer (some ⟨bX, 0, none⟩)] (fun x : Int => #[.int .i64 x]) (Spared (bX + 2) o) (fun ys => ys = V.anc l i) (fun pre => pre <+: V.anc l i) (fun pre _ => pre.length < l.length) w (bX + 1) := by
  intro lp J Jx W hW hJ hY h0
  exact anc1_in n hn lp bX o v l ho hl i hi hil (by omega) (by omega) J Jx hJ hY W ((hW.cell (p := ⟨bX + 1, 0, none⟩) hb).trans hI) ((hW.frozen (p := ⟨bX + 1, 0, none⟩) hb).trans hF) ((hW.cell (p := ⟨bX, 33, none⟩) (show bX < w.heap.size by omega)).trans hX) (hC.kept ⟨hW.size, fun k hk _ => hW.block k (by omega)⟩) h0
end Go.Proofs.YtoiabbhppbghdaaDoor
