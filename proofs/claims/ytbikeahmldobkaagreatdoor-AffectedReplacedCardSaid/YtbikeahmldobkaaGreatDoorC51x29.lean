/-
  Lemmas for the law.
-/
import Derived.Test.YtbikeahmldobkaaGreatDoorC51x09
import Derived.Test.YtbikeahmldobkaaGreatDoorC51x03
import Derived.Test.YtbikeahmldobkaaGreatDoorC51x05
import Derived.Test.YtbikeahmldobkaaGreatDoorC51x28
import Derived.Test.YtbikeahmldobkaaGreatDoorC51x25
import Derived.Maps.Own
import Derived.Maps.OwnSet
import Derived.Maps.Views
import Derived.Deep.Onto
import Derived.Shelf.SlIter.Nil
import Derived.Shelf.SortM.Plain
import Derived.Shelf.SortM.SortNone
import Derived.Sort.OwnSorted
set_option linter.all false
set_option maxRecDepth 100000
set_option maxHeartbeats 3200000
namespace Go.Proofs.YtbikeahmldobkaaGreatDoor
open Go.RowKit
theorem zld {d : List Int} (hd : d.length = 32) (time : Int) (v : Value) : (icells d time v)[32]? = some (.int .i64 time) := by
 unfold icells zn
 simp [hd]
theorem zb5 {d : List Int} (hd : d.length = 32) (time : Int) (v : Value) : (icells d time v)[33]? = some v := by
 unfold icells zn
 simp [hd]
theorem vu {d : List Int} {time : Int} {l : List V.Comp} (h : d = zq ∨ time < 0 ∨ 1099511627776 < time ∨ 128 < l.length) : V.qt d time l = false := by
 have : V.zf9 d time l = false := by
  unfold V.zf9
  rcases h with h | h | h | h
  ·have : decide (d = List.replicate 32 0) = true := decide_eq_true h
   rw [this]; rfl
  ·have : decide (0 ≤ time) = false := decide_eq_false (by omega)
   rw [this]; simp
  ·have : decide (time ≤ 1099511627776) = false := decide_eq_false (by omega)
   rw [this]; simp
  ·have : decide (l.length ≤ 128) = false := decide_eq_false (by omega)
   rw [this]; simp
 unfold V.qt; rw [this]; rfl
theorem zor {d : List Int} {time : Int} {l : List V.Comp} (h1 : ¬ d = zq) (h2 : ¬ time < 0) (h3 : ¬ 1099511627776 < time) (h4 : ¬ 128 < l.length) : V.qt d time l = V.qf l l.length := by
 have : V.zf9 d time l = true := by
  unfold V.zf9
  have a1 : decide (d = List.replicate 32 0) = false := decide_eq_false h1
  have a2 : decide (0 ≤ time) = true := decide_eq_true (by omega)
  have a3 : decide (time ≤ 1099511627776) = true := decide_eq_true (by omega)
  have a4 : decide (l.length ≤ 128) = true := decide_eq_true (by omega)
  rw [a1, a2, a3, a4]; rfl
 unfold V.qt; rw [this]; rfl
theorem zpj {l : List V.Comp} {k : Nat} (hk : k < l.length) (h : V.za0 l k l[k] = false) : V.qf l l.length = false :=
 V.zbi (k := k + 1) (by omega) (by rw [V.kx hk, h]; simp)
theorem zvn {P : Prop} (h : P := by
 clear c1
 go_enter Tryz.func38, Tryz.ntmps38
 go_wp2_with (first | (refine wpList_load_mid rfl 26 _ rfl w.heap.size 0 rfl (zn d) _ HR.out Tryz.underlying26 rfl HI.out ?_) | (refine zcu rfl 26 26 _ _ rfl (dcells d) (dcells zq) rfl rfl kr false (HQ.out _) ?_) | fail)
 go_ret
 exact ⟨ze HV.out.symm, (zvb _ w).alloc (zva _) _⟩) : P := h
theorem zhh (d : List Int) (time : Int) (v : Value) (l : List V.Comp) (w : World) (hm : zj w) (hd : d.length = 32) (h1 : ∀ n ∈ d, (Lit.int .u8 n).wf = true) (hv : Comps w v l) (hl : l.length ≤ maxLen) :
  Calls Tryz.prog 38 #[.agg (icells d time v)] w fun e w' => e = .returned (.bool (V.qt d time l)) /\ Below w.heap.size w w' := by
 have HM := zu8 hm
 have HL := zu8 hv
 have j1 := zld hd time v
 have j2 := zb5 hd time v
 have HR := zu8 (zf0 w 29 time v hd)
 have HI : Hid ((Tryz.prog.info? 26).map (·.size) = some (zn d).length) := zu8 (by rw [yj]; unfold zn; simp [hd])
 have HQ : Hid (∀ w, (Op.equalIn 10000 26 (.agg (dcells d)) (.agg (dcells zq))).run Tryz.prog w = .ok (decide (d = zq)) w) := zu8 (fun w => zmr hd h1 (by decide) (by decide) w)
 have j3 := @run_makeMap Tryz.prog
 obtain ⟨va, vc, rfl, _⟩ := hv
 unfold maxLen at hl
 clear hm hd h1
 generalize icells d time (.slice va l.length vc) = ic at *
 by_cases c1 : d = zq
 ·have HV := zu8 (vu (time := time) (l := l) (.inl c1))
  have HD : Hid (decide (d = zq) = true) := zu8 (decide_eq_true c1)
  clear c1
  rw [HD.out] at HQ
  go_enter Tryz.func38, Tryz.ntmps38
  go_wp2_with (first | (refine wpList_load_mid rfl 26 _ rfl w.heap.size 0 rfl (zn d) _ HR.out Tryz.underlying26 rfl HI.out ?_) | (refine zcu rfl 26 26 _ _ rfl (dcells d) (dcells zq) rfl rfl kr true (HQ.out _) ?_) | fail)
  go_ret
  exact ⟨ze HV.out.symm, (zvb _ w).alloc (zva _) _⟩
 ·have HD : Hid (decide (d = zq) = false) := zu8 (decide_eq_false c1)
  rw [HD.out] at HQ
  by_cases c2 : time < 0
  ·have HV := zu8 (vu (d := d) (l := l) (.inr (.inl c2)))
   exact zvn
  ·by_cases c3 : 1099511627776 < time
   ·have HV := zu8 (vu (d := d) (l := l) (.inr (.inr (.inl c3))))
    exact zvn
   ·by_cases c4 : 128 < l.length
    ·have HV := zu8 (vu (d := d) (time := time) (.inr (.inr (.inr c4))))
     exact zvn
    ·have HV := zu8 (zor c1 c2 c3 c4)
     have c4' : l.length ≤ 128 := by omega
     have HMP := zu8 (CMap.made (w.alloc (.cells ic 29)))
     have HB0 : Hid (Below w.heap.size w ((w.alloc (.cells ic 29)).alloc (.map #[] 0))) := zu8 (((zvb _ w).alloc (zva _) _).alloc (by simp) _)
     clear c1 hl
     go_enter Tryz.func38, Tryz.ntmps38
     go_wp2_with (first | (refine wpList_load_mid rfl 26 _ rfl w.heap.size 0 rfl (zn d) _ HR.out Tryz.underlying26 rfl HI.out ?_) | (refine zcu rfl 26 26 _ _ rfl (dcells d) (dcells zq) rfl rfl kr false (HQ.out _) ?_) | fail)
     have h2 : CMap ((w.alloc (.cells ic 29)).alloc (.map #[] 0)) (w.heap.size + 1) 0 [] := by have := HMP.out; simpa using this
     have j4 : w.heap.size + 1 < ((w.alloc (.cells ic 29)).alloc (.map #[] 0)).heap.size := by simp
     have HB1 := HB0
     clear HMP HB0 j1 j2 HR HI HQ j3 HD
     go_loopw [30] (fun i wr => ∃ k : Nat, k ≤ l.length /\ i = .int .i64 k /\ V.qf l k = true /\ CMap wr (w.heap.size + 1) k (l.take k) /\ w.heap.size + 1 < wr.heap.size /\ Below w.heap.size w wr) (fun i _ => l.length - (intOf i).toNat)
     case atStart => exact ⟨0, Nat.zero_le _, rfl, rfl, h2, j4, HB1.out⟩
     case round =>
      obtain ⟨k, hk, rfl, h3, h4, j5, h5⟩ := hrel
      have h6 := zu8 h3
      have j6 := zu8 h4
      have g3 := zu8 h5
      clear h3 h4 h5 h2
      by_cases hlt : k < l.length
      ·obtain ⟨h7, b, off, rfl, k0, h8⟩ := HL.out.at k hlt
       have HST := zu8 (V.kx hlt)
       have g0 := zu8 (zpj hlt)
       have h0 : Hid (l.take (k + 1) = l.take k ++ [l[k]]) := zu8 (List.take_succ_eq_append_getElem hlt)
       have h9 : V.za0 l k l[k] = (V.xq l[k] && (decide (-1 ≤ l[k].par) && (decide (l[k].par < k) && !decide (l[k] ∈ l.take k)))) := rfl
       have g1 := zu8 h9
       have HX := zu8 h7
       have j7 := zu8 (zi h8 g3.out)
       clear h7 h8 h9
       generalize l[k] = x at *
       have x0 := ccells_0 x
       go_wp2_with (first | (refine vm rfl _ rfl b (off + k * 36) rfl x HX.out j7.out ?_) | (refine zbp rfl _ _ rfl _ _ rfl x HX.out rfl rfl ?_) | (refine vm rfl _ rfl wr.heap.size 0 rfl x HX.out (vd x wr _) ?_) | fail)
       have hb1 : Below w.heap.size w (wr.alloc (.cells (ccells x) 60)) := g3.out.alloc g3.out.size _
       have g4 : CMap (wr.alloc (.cells (ccells x) 60)) (w.heap.size + 1) k (l.take k) := j6.out.kept ((zvb _ wr).alloc (zva _) _)
       have g5 := vd x wr 60
       have g6 : wr.heap.size < (wr.alloc (.cells (ccells x) 60)).heap.size := by simp
       generalize wr.alloc (.cells (ccells x) 60) = w1 at *
       obtain ⟨X, j0⟩ : ∃ X, X = wr.heap.size := ⟨_, rfl⟩
       rw [← j0] at g5 g6 j5 ⊢
       clear j0 x0
       refine (zko x _ (HM.out.below hb1) HX.out).mono ?_
       rintro e w2 ⟨rfl, hb2⟩
       have HB2 := zu8 (hb1.trans (hb2.mono hb1.size))
       have g2 := zu8 (g4.kept hb2)
       have g7 := zi g5 hb2
       have x0 : w2.cell? ⟨X, 0, none⟩ = some (.int .i64 x.par) := g7 0 _ rfl
       have HX2 := zu8 g7
       have k1 : X < w2.heap.size := Nat.lt_of_lt_of_le g6 hb2.size
       have k2 := wf_rng HX.out.par
       clear hb1 g4 g5 g6 hb2 g7
       rcases hok : V.xq x with _ | _
       ·have HF : Hid (V.qt d time l = false) := zu8 (by rw [HV.out]; exact g0.out (by rw [g1.out, hok]; rfl))
        clear hok
        go_wp2
        go_ret
        exact ⟨ze HF.out.symm, HB2.out⟩
       ·by_cases p1 : x.par < -1
        ·have HF : Hid (V.qt d time l = false) := zu8 (by rw [HV.out]; exact g0.out (by rw [g1.out, decide_eq_false (show ¬ -1 ≤ x.par by omega)]; simp))
         clear hok
         go_wp2
         go_ret
         exact ⟨ze HF.out.symm, HB2.out⟩
        ·by_cases p2 : x.par < (k : Int)
         ·have q1 : decide (x.par < -1) = false := decide_eq_false p1
          have q2 : decide ((k : Int) ≤ x.par) = false := decide_eq_false (by omega)
          by_cases p3 : x ∈ l.take k
          ·have HF : Hid (V.qt d time l = false) := zu8 (by rw [HV.out]; exact g0.out (by rw [g1.out, decide_eq_true p3]; simp))
           have g8 : Hid (decide (x ∈ l.take k) = true) := zu8 (decide_eq_true p3)
           clear hok p3
           go_wp2_with (first | (refine zsn rfl _ rfl X 0 rfl x HX.out HX2.out ?_) | (refine zky rfl _ _ rfl (w.heap.size + 1) k (l.take k) rfl g2.out x HX.out rfl ?_; rw [g8.out]) | fail)
           go_ret
           exact ⟨ze HF.out.symm, HB2.out⟩
          ·have HN : Hid (V.qf l (k + 1) = true) := zu8 (by
             rw [HST.out, h6.out, g1.out, hok, decide_eq_true (show -1 ≤ x.par by omega), decide_eq_true p2, decide_eq_false p3]; rfl)
           have g8 : Hid (decide (x ∈ l.take k) = false) := zu8 (decide_eq_false p3)
           clear hok p3
           go_wp2_with (first | (refine zsn rfl _ rfl X 0 rfl x HX.out HX2.out ?_) | (refine zky rfl _ _ rfl (w.heap.size + 1) k (l.take k) rfl g2.out x HX.out rfl ?_; rw [g8.out]) | (refine zt3 rfl _ _ _ rfl (w.heap.size + 1) k (l.take k) rfl g2.out (by unfold maxLen; omega) x HX.out rfl rfl ?_; intro w3 g9 hg3) | fail)
           rw [← h0.out] at g9
           have j8 := zu8 g9
           have HB3 := zu8 (HB2.out.trans (qj hg3 (by omega) HB2.out.size))
           have j9 : w.heap.size + 1 < w3.heap.size := Nat.lt_of_lt_of_le (by omega) hg3.size
           clear g9 hg3
           go_wp2
           go_roundw
           case rel => exact ⟨k + 1, by omega, by go_num, HN.out, j8.out, j9, HB3.out⟩
           case measure => simp [intOf]; omega
         ·have HF : Hid (V.qt d time l = false) := zu8 (by rw [HV.out]; exact g0.out (by rw [g1.out, decide_eq_false p2]; simp))
          clear hok
          go_wp2
          go_ret
          exact ⟨ze HF.out.symm, HB2.out⟩
      ·obtain rfl : k = l.length := by omega
       have HT : Hid (V.qt d time l = true) := zu8 (by rw [HV.out]; exact h6.out)
       go_wp2
       go_ret
       exact ⟨ze HT.out.symm, g3.out⟩
open Go.RowKit Go.Shelf
attribute [local go_sem] Oper.semAt_some
namespace V
def parOf (l : List Comp) (i : Int) : Int := match l[i.toNat]? with | some c => c.par | none => -1
def ancF (l : List Comp) : Nat -> Int -> List Int
 | 0, _ => []
 | f + 1, i => if i < 0 then [] else i :: ancF l f (parOf l i)
def anc (l : List Comp) (i : Int) : List Int := ancF l (i.toNat + 1) i
theorem zpp {l : List Comp} {i : Nat} (h : i < l.length) : parOf l i = l[i].par := by
 unfold parOf
 rw [Int.toNat_natCast, List.getElem?_eq_getElem h]
theorem zq5 {l : List Comp} (ho : qf l l.length = true) {i : Nat} (h : i < l.length) : -1 ≤ l[i].par /\ l[i].par < i := by
 have := zj9 ho h
 rw [zez] at this
 exact ⟨this.2.1, this.2.2.1⟩
theorem zmi {l : List Comp} (ho : qf l l.length = true) : ∀ (f g : Nat) (i : Int), i < l.length -> i.toNat < f -> i.toNat < g -> ancF l f i = ancF l g i
 | 0, _, _, _, h, _ => by omega
 | _, 0, _, _, _, h => by omega
 | f + 1, g + 1, i, hl, hf, hg => by
  unfold ancF
  by_cases h0 : i < 0
  ·rw [if_pos h0, if_pos h0]
  ·rw [if_neg h0, if_neg h0]
   obtain ⟨k, rfl⟩ := Int.eq_ofNat_of_zero_le (show 0 ≤ i by omega)
   have hk : k < l.length := by omega
   have hp := zq5 ho hk
   rw [zpp hk]
   by_cases hn : l[k].par < 0
   ·congr 1
    cases f with
    | zero => cases g with
     | zero => rfl
     | succ g => unfold ancF; rw [if_pos hn]
    | succ f => cases g with
     | zero => unfold ancF; rw [if_pos hn]
     | succ g => unfold ancF; rw [if_pos hn, if_pos hn]
   ·congr 1
    exact zmi ho f g _ (by omega) (by omega) (by omega)
theorem anc_neg {l : List Comp} {i : Int} (h : i < 0) : anc l i = [] := by
 unfold anc ancF; rw [if_pos h]
theorem zp5 {l : List Comp} (ho : qf l l.length = true) {k : Nat} (h : k < l.length) : anc l k = (k : Int) :: anc l l[k].par := by
 have hp := zq5 ho h
 unfold anc
 rw [show ((k : Int).toNat + 1) = k + 1 by omega]
 conv => lhs; unfold ancF
 rw [if_neg (by omega), zpp h]
 congr 1
 by_cases hn : l[k].par < 0
 ·cases k with
  | zero => conv => rhs; unfold ancF
            rw [if_pos hn]; rfl
  | succ k => conv => lhs; unfold ancF
              conv => rhs; unfold ancF
              rw [if_pos hn, if_pos hn]
 ·exact zmi ho _ _ _ (by omega) (by omega) (by omega)
theorem zop (l : List Comp) : ∀ (f : Nat) (i : Int), (ancF l f i).length ≤ f
 | 0, _ => by simp [ancF]
 | f + 1, i => by
  unfold ancF
  split
  ·simp
  ·have := zop l f (parOf l i)
   simp; omega
theorem znt {l : List Comp} (_ : qf l l.length = true) (i : Int) (h : i < l.length) : (anc l i).length ≤ l.length := by
 unfold anc
 by_cases h0 : i < 0
 ·unfold ancF; rw [if_pos h0]; simp
 ·have := zop l (i.toNat + 1) i
  omega
end V
def Spared (B o : Nat) (W W' : World) : Prop := W.heap.size ≤ W'.heap.size /\ ∀ k, k < B -> k ≠ o -> W'.heap[k]? = W.heap[k]?
theorem Spared.cell {B o : Nat} {W W' : World} (h : Spared B o W W') {b : Nat} (hb : b < B) (ho : b ≠ o) (i : Nat) : W'.cell? ⟨b, i, none⟩ = W.cell? ⟨b, i, none⟩ := by
 unfold World.cell?
 rw [h.2 b hb ho]
theorem Spared.frozen {B o : Nat} {W W' : World} (h : Spared B o W W') {b : Nat} (hb : b < B) (ho : b ≠ o) (i : Nat) : W'.frozen? ⟨b, i, none⟩ = W.frozen? ⟨b, i, none⟩ := by
 unfold World.frozen?
 rw [h.2 b hb ho]
def uf (W : World) (B o : Nat) (v : Value) (l : List V.Comp) : Prop :=
 ∃ a cap, v = .slice a l.length cap /\ ∀ j (h : j < l.length), CompWf l[j] /\ ∃ b off, a = some ⟨b, off, none⟩ /\ b < B /\ b ≠ o /\ W.rangeAt b (off + j * 36) (qb l[j])
theorem uf.kept {W W' : World} {B o : Nat} {v : Value} {l : List V.Comp} (h : uf W B o v l) (hs : Spared B o W W') : uf W' B o v l := by
 obtain ⟨a, cap, e, hc⟩ := h
 refine ⟨a, cap, e, fun j hj => ?_⟩
 obtain ⟨hw, b, off, ea, hb, ho, hr⟩ := hc j hj
 exact ⟨hw, b, off, ea, hb, ho, fun i u hu => (hs.cell hb ho _).trans (hr i u hu)⟩
theorem uf.setCell {W : World} {B o : Nat} {v : Value} {l : List V.Comp} {bI : Nat} (h : uf W B o v l) (g0 : B ≤ bI) (u : Value) : uf (W.setCell ⟨bI, 0, none⟩ u) B o v l := by
 refine h.kept ⟨by simp [World.setCell], fun k hk _ => Below.heap_setCell _ _ _ _ (by show k ≠ bI; omega)⟩
def intOfO : Option Value -> Nat
 | some (.int _ n) => (n + 1).toNat
 | _ => 0
open Go.RowKit
namespace V
def zm7 (l : List Comp) (hs : List Hit) (c : Int) : List Hit := hs.filter fun h => decide (c ∈ anc l h.comp)
theorem zhk {xs : List Note} {l : List Comp} : ∀ {k : Nat}, ∀ h ∈ jw xs l k, 0 ≤ h.comp /\ h.comp < k /\ h.comp < l.length
 | 0, h, hh => by simp [jw] at hh
 | k + 1, h, hh => by
  rw [jw, List.mem_append] at hh
  rcases hh with hh | hh
  ·have := zhk h hh; omega
  ·split at hh
   ·rename_i c hc
    have hk := (List.getElem?_eq_some_iff.1 hc).1
    unfold ul at hh
    obtain ⟨id, _, rfl⟩ := List.mem_map.1 hh
    unfold hitN
    simp only
    omega
   ·simp at hh
theorem zu1 {l m : List Note} (h : ∀ x, x ∈ l ↔ x ∈ m) : sevN l = sevN m := by
 have one : ∀ {l m : List Note}, (∀ x, x ∈ l -> x ∈ m) -> sevN l ≤ sevN m := by
  intro l m h
  have key : ∀ (l : List Note) (s : Int), s ≤ sevN m -> (∀ x, x ∈ l -> x ∈ m) -> l.foldl (fun s x => max s x.adv.sev) s ≤ sevN m := by
   intro l
   induction l with
   | nil => intro s hs _; exact hs
   | cons y l ih =>
    intro s hs hm
    rw [List.foldl_cons]
    refine ih _ ?_ fun x hx => hm x (List.mem_cons_of_mem _ hx)
    have := (zin m 0).2 y (hm y (by simp))
    unfold sevN at *
    omega
  exact key l 0 (zin m 0).1 h
 have := one (fun x => (h x).1)
 have := one (fun x => (h x).2)
 omega
theorem zrt {l m : List Note} (h : ∀ x, x ∈ l ↔ x ∈ m) : zcw l = zcw m := by
 refine zh3 zda (zb2 zda List.Pairwise.nil) (zb2 zda List.Pairwise.nil) fun d => ?_
 unfold zcw
 rw [zbz, zbz]
 simp only [List.mem_map, h]
theorem vg {xs : List Note} {c : Comp} {id : Bs} : id ∈ kg xs c ↔ ∃ x ∈ xs, x.adv.id = id /\ cov x c = true := by
 unfold kg
 rw [idsN_mem]
 constructor
 ·rintro ⟨x, hx, h1⟩
  rw [List.mem_filter] at hx
  exact ⟨x, hx.1, h1, hx.2⟩
 ·rintro ⟨x, hx, h1, h2⟩
  exact ⟨x, List.mem_filter.2 ⟨hx, h2⟩, h1⟩
theorem zse {xs ys : List Note} (i : Int) (c : Comp) (h : ∀ x, cov x c = true -> (x ∈ xs ↔ x ∈ ys)) : ul xs i c = ul ys i c := by
 unfold ul
 have e : kg xs c = kg ys c := by
  refine zh3 zd5 (zfe _) (zfe _) fun id => ?_
  rw [vg, vg]
  constructor
  ·rintro ⟨x, hx, h1, h2⟩; exact ⟨x, (h x h2).1 hx, h1, h2⟩
  ·rintro ⟨x, hx, h1, h2⟩; exact ⟨x, (h x h2).2 hx, h1, h2⟩
 rw [e]
 refine List.map_congr_left fun id _ => ?_
 have hm : ∀ x, x ∈ selN xs c id ↔ x ∈ selN ys c id := fun x => by
  unfold selN
  rw [List.mem_filter, List.mem_filter, Bool.and_eq_true]
  constructor
  ·rintro ⟨h1, h2, h3⟩; exact ⟨(h x h3).1 h1, h2, h3⟩
  ·rintro ⟨h1, h2, h3⟩; exact ⟨(h x h3).2 h1, h2, h3⟩
 unfold hitN
 rw [zu1 hm, zrt hm]
theorem zgx {xs ys : List Note} {l : List Comp} (h : ∀ c ∈ l, ∀ x, cov x c = true -> (x ∈ xs ↔ x ∈ ys)) : ∀ k, jw xs l k = jw ys l k
 | 0 => rfl
 | k + 1 => by
  rw [jw, jw, zgx h k]
  congr 1
  split
  ·rename_i c hc
   exact zse _ _ (h c (List.mem_of_getElem? hc))
  ·rfl
end V
open Go.RowKit Go.Maps
open Go.WideMaps (keyOf_string_mk)
structure Sd where
 a : Option Addr
 n : Nat
 c : Nat
def Sd.v (s : Sd) : Value := .slice s.a s.n s.c
def hE (p : V.Hit × Sd) : List Value := [.int .i64 p.1.comp, .string ⟨p.1.id.toArray⟩, .int .i64 p.1.sev, p.2.v]
theorem yx (p : V.Hit × Sd) : (hE p).length = 4 := rfl
theorem zyv {P : Prop} (h : P := by
 simp only [List.mem_cons, List.not_mem_nil, or_false] at hu
 rcases hu with rfl | rfl | rfl | rfl <;> rfl) : P := h
theorem zig (p : V.Hit × Sd) : ∀ u ∈ hE p, u.oneCell' = true := fun u hu => by
 unfold hE at hu
 exact zyv
theorem ziz : jh 63 4 56 := by
 have h : (match Tryz.prog.info? 63 with | some i => i.size == 4 && (i.bytes == 56 && (match i.zero with | some z => z.cells.size == 4 | none => false)) | none => false) = true := by kernel_rfl
 unfold jh
 cases hq : Tryz.prog.info? 63 with
 | none => rw [hq] at h; cases h
 | some i =>
  exact zvk
structure HRow (N : Nat) (w : World) (v : Value) (us : List (V.Hit × Sd)) : Prop where
 row : GRow 63 4 hE w N v us
 each : ∀ p ∈ us, Digs w p.2.v p.1.docs
theorem HRow.nil (N : Nat) (w : World) : HRow N w (.slice none 0 0) [] := ⟨GRow.nil _ _, fun p h => by simp at h⟩
theorem HRow.below {N : Nat} {w w' : World} {v : Value} {us : List (V.Hit × Sd)} (h : HRow N w v us) (hb : Below w.heap.size w w') : HRow N w' v us :=
 ⟨h.row.below hb, fun p hp => (h.each p hp).below hb⟩
theorem HRow.weaken {N M : Nat} {w : World} {v : Value} {us : List (V.Hit × Sd)} (h : HRow N w v us) (hM : M ≤ N) : HRow M w v us := ⟨World.ownsRow.mono h.row hM, h.each⟩
theorem Digs.apart {w w' : World} {v : Value} {l : List (List Int)} (h : Digs w v l) {row : Option Nat} (hg : w.grownBy w' row) (g0 : ∀ b, v.ownBlock = some b -> row ≠ some b) : Digs w' v l := by
 obtain ⟨a, cap, rfl, hc⟩ := h
 refine ⟨a, cap, rfl, fun j hj => ?_⟩
 obtain ⟨hd, b, off, ea, ⟨cs, fr, hb⟩, hr⟩ := hc j hj
 have hlt := (Array.getElem?_eq_some_iff.1 hb).1
 have hbk := hg.block b hlt (fun e => g0 b (by rw [ea]; rfl) e.symm)
 exact ⟨hd, b, off, ea, ⟨cs, fr, hbk.trans hb⟩, fun i u hu => by rw [World.cell?_of_block (a := ⟨b, off + j * 32 + i, none⟩) hbk]; exact hr i u hu⟩
theorem GRow.cap9 {α : Type} {enc : α -> List Value} {k : Nat} {T : TypeId} {w : World} {N : Nat} {a : Option Addr} {n c : Nat} {l : List α} (h : GRow T k enc w N (.slice a n c) l) : n ≤ c := by
 rcases h.2 with ⟨e, _⟩ | ⟨g, cap, cur, e, _, _, h1, _⟩
 ·cases e; exact zva _
 ·obtain ⟨_, e2, e3⟩ := Value.slice.inj e
  rw [e2, e3]; exact h1
def zdh (v : Value) : Option (DataW Value × List MemPlace) := some (.held v, [])
theorem zb1 : Keyed Tryz.prog 9 := string_keyed Tryz.underlying9
def zf4 : Value := .agg #[.int .i64 0, .string ⟨#[]⟩, .int .i64 0, .slice none 0 0]
def zdl (ys : List V.Note) (i : Int) (c : V.Comp) (id : V.Bs) (u : Sd) : Value := if id ∈ V.kg ys c then .agg #[.int .i64 i, .string ⟨id.toArray⟩, .int .i64 (V.sevN (V.selN ys c id)), u.v] else zf4
structure FInv (N M : Nat) (i : Int) (c : V.Comp) (ys : List V.Note) (U : V.Bs -> Sd) (D : DataW Value) (W : World) : Prop where
 map : W.ownsMap Tryz.prog 9 zdh M ys.length D
 key : ∀ id : V.Bs, Maps.has D (.string id) = decide (id ∈ V.kg ys c)
 val : ∀ id : V.Bs, D.atKey (.string id) (.held zf4) = .held (zdl ys i c id (U id))
 row : ∀ id, GRow 26 32 dE W N (U id).v ((V.selN ys c id).map (·.doc))
 none : ∀ id, id ∉ V.kg ys c -> U id = ⟨Option.none, 0, 0⟩
 apart : ∀ a b, a ≠ b -> ∀ g, (U a).v.ownBlock = some g -> (U b).v.ownBlock ≠ some g
 low : M < N
theorem jz {α : Type} {enc : α -> List Value} {k : Nat} {T : TypeId} {w w' : World} {N : Nat} {v : Value} {l : List α} (h : GRow T k enc w N v l) {row : Option Nat} (hg : w.grownBy w' row) (g0 : ∀ b, v.ownBlock = some b -> row ≠ some b) : GRow T k enc w' N v l := by
 refine World.ownsRow.kept h hg ?_
 cases hv : v.ownBlock with
 | none => exact .inl rfl
 | some b => exact .inr (fun e => g0 b hv e.symm)
theorem yd {α : Type} {enc : α -> List Value} {k : Nat} {T : TypeId} {w : World} {N : Nat} {v : Value} {l : List α} (h : GRow T k enc w N v l) {b : Nat} (hb : v.ownBlock = some b) : ∃ cs, w.heap[b]? = some (.cells cs T (0, 0)) := by
 rcases h.2 with ⟨rfl, _⟩ | ⟨g, cap, cur, rfl, _, hg, _⟩
 ·cases hb
 ·cases hb; exact ⟨cur, hg⟩
namespace FInv
variable {N M : Nat} {i : Int} {c : V.Comp} {ys : List V.Note} {U : V.Bs -> Sd} {D : DataW Value} {W W' : World}
theorem other (h : FInv N M i c ys U D W) {row : Option Nat} (hg : W.grownBy W' row) (hr : ∀ b, row = some b -> ∃ cs t fr, W.heap[b]? = some (.cells cs t fr) /\ t ≠ 26) : FInv N M i c ys U D W' :=
 ⟨h.map.kept hg (fun e => by
   obtain ⟨cs, t, fr, hb, _⟩ := hr M e.symm
   obtain ⟨es, clock, hm, _⟩ := h.map
   rw [hm] at hb; cases hb), h.key, h.val, fun id => jz (h.row id) hg (fun b hb e => by
   obtain ⟨cs, t, fr, hb1, ht⟩ := hr b e
   obtain ⟨cs', hb2⟩ := yd (h.row id) hb
   rw [hb2] at hb1
   cases hb1
   exact ht rfl), h.none, h.apart, h.low⟩
theorem call (h : FInv N M i c ys U D W) (hb : Below W.heap.size W W') : FInv N M i c ys U D W' := h.other (row := .none) (zm hb _) (fun b e => by cases e)
theorem skip (h : FInv N M i c ys U D W) (x : V.Note) (hx : V.cov x c = false) : FInv N M i c (ys ++ [x]) U D W := by
 have hs : ∀ id, V.selN (ys ++ [x]) c id = V.selN ys c id := fun id => by
  unfold V.selN
  rw [List.filter_append]
  simp [hx]
 have hf : V.kg (ys ++ [x]) c = V.kg ys c := by
  unfold V.kg
  rw [List.filter_append]
  simp [hx]
 refine ⟨h.map.mono (by simp), fun id => by rw [hf]; exact h.key id, fun id => ?_, fun id => by rw [hs]; exact h.row id, fun id => by rw [hf]; exact h.none id, h.apart, h.low⟩
 rw [h.val id]
 unfold zdl
 rw [hf, hs]
theorem look (h : FInv N M i c ys U D W) (id : V.Bs) (hl : id.length ≤ maxLen) : ∃ (k0 : Int) (s0 : V.Bs), (Instr.lookup 106 (.map (some M)) (.string ⟨id.toArray⟩) false).run Tryz.prog W = .ok (.agg #[.int .i64 k0, .string ⟨s0.toArray⟩, .int .i64 (V.sevN (V.selN ys c id)), (U id).v]) W := by
 obtain ⟨v, ps, g0, hv⟩ := h.map.lookup zb1 Tryz.underlying106 (Tryz.zeroValue63 W) (zd := .held zf4) (zp := []) rfl (key := .string ⟨id.toArray⟩) (kl := .string id) (keyOf_string_mk Tryz.underlying9 (by simpa [ByteArray.size] using hl))
 rw [h.val id] at hv
 unfold zdh at hv
 simp only [Option.some.injEq, Prod.mk.injEq, DataW.held.injEq] at hv
 rw [g0, hv.1]
 unfold zdl
 by_cases hm : id ∈ V.kg ys c
 ·exact ⟨i, id, by rw [if_pos hm]⟩
 ·refine ⟨0, [], ?_⟩
  have hs : V.selN ys c id = [] := by
   unfold V.selN
   rw [List.filter_eq_nil_iff]
   intro x hx hc
   rw [Bool.and_eq_true, decide_eq_true_eq] at hc
   exact hm (V.vg.2 ⟨x, hx, hc.1, hc.2⟩)
  rw [if_neg hm, hs, h.none id hm]
  rfl
structure Grown (N M : Nat) (i : Int) (c : V.Comp) (ys : List V.Note) (U : V.Bs -> Sd) (D : DataW Value) (id : V.Bs) (u : Sd) (d : List Int) (W : World) : Prop where
 map : W.ownsMap Tryz.prog 9 zdh M ys.length D
 key : ∀ id : V.Bs, Maps.has D (.string id) = decide (id ∈ V.kg ys c)
 val : ∀ id : V.Bs, D.atKey (.string id) (.held zf4) = .held (zdl ys i c id (U id))
 row : ∀ a, a ≠ id -> GRow 26 32 dE W N (U a).v ((V.selN ys c a).map (·.doc))
 new : GRow 26 32 dE W N u.v ((V.selN ys c id).map (·.doc) ++ [d])
 none : ∀ id, id ∉ V.kg ys c -> U id = ⟨Option.none, 0, 0⟩
 apart : ∀ a b, a ≠ b -> ∀ g, (U a).v.ownBlock = some g -> (U b).v.ownBlock ≠ some g
 napart : ∀ a, a ≠ id -> ∀ g, u.v.ownBlock = some g -> (U a).v.ownBlock ≠ some g
 low : M < N
theorem grow (h : FInv N M i c ys U D W) {id : V.Bs} {u : Sd} {d : List Int} (hg : W.grownBy W' (U id).v.ownBlock) (hn : GRow 26 32 dE W' N u.v ((V.selN ys c id).map (·.doc) ++ [d])) (ho : u.v.ownBlock = (U id).v.ownBlock ∨ u.v.ownBlock = some W.heap.size) : Grown N M i c ys U D id u d W' := by
 refine ⟨h.map.kept hg (fun e => ?_), h.key, h.val, fun a ha => jz (h.row a) hg (fun b hb e => h.apart a id ha b hb e), hn, h.none, h.apart, fun a ha g hu g0 => ?_, h.low⟩
 ·obtain ⟨cs, hb⟩ := yd (h.row id) e.symm
  obtain ⟨es, clock, hm, _⟩ := h.map
  rw [hm] at hb; cases hb
 ·rcases ho with ho | ho
  ·exact h.apart a id ha g g0 (ho ▸ hu)
  ·rw [hu] at ho
   cases ho
   obtain ⟨cs, hb⟩ := yd (h.row a) g0
   exact absurd (Array.getElem?_eq_some_iff.1 hb).1 (Nat.lt_irrefl _)
theorem Grown.other {id : V.Bs} {u : Sd} {d : List Int} (h : Grown N M i c ys U D id u d W) {row : Option Nat} (hg : W.grownBy W' row) (hr : ∀ b, row = some b -> ∃ cs t fr, W.heap[b]? = some (.cells cs t fr) /\ t ≠ 26) : Grown N M i c ys U D id u d W' := by
 have g0 : ∀ {v : Value} {l : List (List Int)}, GRow 26 32 dE W N v l -> ∀ b, v.ownBlock = some b -> row ≠ some b := fun h0 b hb e => by
  obtain ⟨cs, t, fr, hb1, ht⟩ := hr b e
  obtain ⟨cs', hb2⟩ := yd h0 hb
  rw [hb2] at hb1
  cases hb1
  exact ht rfl
 refine ⟨h.map.kept hg (fun e => ?_), h.key, h.val, fun a ha => jz (h.row a ha) hg (g0 (h.row a ha)), jz h.new hg (g0 h.new), h.none, h.apart, h.napart, h.low⟩
 obtain ⟨cs, t, fr, hb, _⟩ := hr M e.symm
 obtain ⟨es, clock, hm, _⟩ := h.map
 rw [hm] at hb; cases hb
theorem Grown.put {id : V.Bs} {u : Sd} {x : V.Note} (h : Grown N M i c ys U D id u x.doc W) (g0 : x.adv.id = id) (hx : V.cov x c = true) (hl : id.length ≤ maxLen) (hn : ys.length < maxLen)
  (hm : W'.ownsMap Tryz.prog 9 zdh M (ys.length + 1) (D.put (.string id) (.held (.agg #[.int .i64 i, .string ⟨id.toArray⟩, .int .i64 (max (V.sevN (V.selN ys c id)) x.adv.sev), u.v])))) (hg : W.grownBy W' (some M)) : ∃ U' D', FInv N M i c (ys ++ [x]) U' D' W' := by
 have hs : ∀ a, V.selN (ys ++ [x]) c a = if a = id then V.selN ys c a ++ [x] else V.selN ys c a := fun a => by
  unfold V.selN
  rw [List.filter_append]
  by_cases e : a = id
  ·rw [if_pos e, e]; simp [hx, g0]
  ·rw [if_neg e]
   have : ¬ x.adv.id = a := fun q => e (by rw [← q, g0])
   simp [this]
 have hf : ∀ a, a ∈ V.kg (ys ++ [x]) c ↔ a ∈ V.kg ys c ∨ a = id := fun a => by
  rw [V.vg, V.vg]
  constructor
  ·rintro ⟨y, hy, h1, h2⟩
   rcases List.mem_append.1 hy with hy | hy
   ·exact .inl ⟨y, hy, h1, h2⟩
   ·rw [List.mem_singleton] at hy; subst hy; exact .inr (by rw [← h1, g0])
  ·rintro (⟨y, hy, h1, h2⟩ | rfl)
   ·exact ⟨y, List.mem_append_left _ hy, h1, h2⟩
   ·exact ⟨x, by simp, g0, hx⟩
 have hk : WideAt.IsKeyLit (.string id) := zb1.key (keyOf_string_mk (s := ⟨id.toArray⟩) Tryz.underlying9 (by simpa [ByteArray.size] using hl))
 have hD : IsMap D := h.map.isMap
 have g1 : ∀ {v : Value} {l : List (List Int)}, GRow 26 32 dE W N v l -> ∀ b, v.ownBlock = some b -> (some M : Option Nat) ≠ some b := fun h0 b hb e => by
  have := h0.block b hb
  have := h.low
  cases e
  omega
 refine ⟨fun a => if a = id then u else U a, _, by rw [List.length_append]; exact hm, fun a => ?_, fun a => ?_, fun a => ?_, fun a ha => ?_, fun a b g2 g ha hb => ?_, h.low⟩
 ·by_cases e : a = id
  ·subst e
   rw [has_put_same hD hk, decide_eq_true ((hf _).2 (.inr rfl))]
  ·rw [has_put_other (by simpa using e), h.key a]
   congr 1
   rw [hf a]
   exact propext ⟨.inl, fun q => q.resolve_right e⟩
 ·by_cases e : a = id
  ·subst e
   rw [atKey_put_same hD hk, if_pos rfl]
   unfold zdl
   rw [if_pos ((hf _).2 (.inr rfl)), hs, if_pos rfl]
   unfold V.sevN
   rw [List.foldl_append]
   rfl
  ·rw [atKey_put_other (by simpa using e), h.val a, if_neg e]
   unfold zdl
   rw [hs, if_neg e]
   by_cases q : a ∈ V.kg ys c
   ·rw [if_pos q, if_pos ((hf a).2 (.inl q))]
   ·rw [if_neg q, if_neg (fun r => ((hf a).1 r).elim q e)]
 ·rw [hs]
  by_cases e : a = id
  ·subst e
   rw [if_pos rfl, if_pos rfl, List.map_append]
   exact jz h.new hg (g1 h.new)
  ·rw [if_neg e, if_neg e]
   exact jz (h.row a e) hg (g1 (h.row a e))
 ·have q : ¬ a ∈ V.kg ys c /\ ¬ a = id := ⟨fun r => ha ((hf a).2 (.inl r)), fun r => ha ((hf a).2 (.inr r))⟩
  rw [if_neg q.2]
  exact h.none a q.1
 ·by_cases ea : a = id
  ·rw [if_pos ea] at ha
   by_cases eb : b = id
   ·exact g2 (ea.trans eb.symm)
   ·rw [if_neg eb] at hb
    exact h.napart b eb g ha hb
  ·rw [if_neg ea] at ha
   by_cases eb : b = id
   ·rw [if_pos eb] at hb
    exact h.napart a ea g hb ha
   ·rw [if_neg eb] at hb
    exact h.apart a b g2 g ha hb
theorem zlj : ∀ a b : List UInt8, Lib.compareBytes a b < 0 -> a < b
 | [], [], h => by simp [Lib.compareBytes] at h
 | [], _ :: _, _ => List.nil_lt_cons _ _
 | _ :: _, [], h => by simp [Lib.compareBytes] at h
 | x :: a, y :: b, h => by
  unfold Lib.compareBytes at h
  rw [List.cons_lt_cons_iff]
  by_cases h1 : x < y
  ·exact .inl h1
  ·rw [if_neg h1] at h
   by_cases h2 : y < x
   ·rw [if_pos h2] at h; exact absurd h (by decide)
   ·rw [if_neg h2] at h
    refine .inr ⟨?_, zlj a b h⟩
    apply UInt8.toNat_inj.1
    simp only [UInt8.lt_iff_toNat_lt] at h1 h2
    omega
theorem keys (h : FInv N M i c ys U D W) {ss : List (List UInt8)} (hp : ss.Perm (strKeys D)) : ss.mergeSort (fun x y => decide (x ≤ y)) = V.kg ys c := by
 obtain ⟨es, rfl, ht⟩ := h.map.tidy zb1
 obtain ⟨es', e, hk⟩ := h.map.keysOf
 cases e
 have g1 : V.AscC Lib.compareBytes (V.kg ys c) := V.zfe _
 have g2 : (V.kg ys c).Nodup := List.Pairwise.imp (S := fun a b => a ≠ b) (fun {a b} g0 e => V.zd5.irr b (by rw [e] at g0; exact g0)) g1
 have hp2 := perm_strKeys (ss := V.kg ys c) ht (fun p hp => by
   obtain ⟨v, hv⟩ := hk p hp
   obtain ⟨x, _, hx, _⟩ := Maps.keyOf_str Tryz.underlying9 hv
   exact ⟨x, hx⟩) g2 (fun x => by rw [h.key x, decide_eq_true_eq])
 have e1 := mergeSort_of_perm (hp.trans hp2.symm)
 show ss.mergeSort leB = _
 rw [e1]
 refine List.mergeSort_of_pairwise (g1.imp fun {a b} g0 => ?_)
 simp only [leB, decide_eq_true_eq]
 exact List.le_of_lt (zlj a b g0)
end FInv
end Go.Proofs.YtbikeahmldobkaaGreatDoor
