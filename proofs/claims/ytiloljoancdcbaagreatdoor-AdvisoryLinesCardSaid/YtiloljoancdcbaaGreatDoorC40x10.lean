/-
  Lemmas for the law.
-/
import Derived.Test.YtiloljoancdcbaaGreatDoorC40x07
import Derived.Test.YtiloljoancdcbaaGreatDoorC40x06
import Derived.Test.YtiloljoancdcbaaGreatDoorC40x03
import Derived.Test.YtiloljoancdcbaaGreatDoorC40x01
import Derived.Test.YtiloljoancdcbaaGreatDoorC40x04
import Derived.Lib.BufSteps
import Derived.OwnWalk
set_option linter.all false
set_option maxRecDepth 100000
set_option maxHeartbeats 1600000
namespace Go.Proofs.YtiloljoancdcbaaGreatDoor
open Go.RowKit
def zt5 (l : List V.Bs) (w : World) (e : Ending) (w' : World) : Prop := ∃ v, e = .returned v /\ Strs w' v l /\ Below w.heap.size w w'
def lenOf : Value -> Nat
 | .slice _ n _ => n
 | _ => 0
theorem zr6 {L : List V.Bs} {k : Nat} (hk : k < L.length) (h : (V.value (L.getD k [])).isEmpty = true) : V.qd (L.take (k + 1)) = V.qd (L.take k) := by
 rw [List.take_succ_eq_append_getElem hk]
 rw [ke hk] at h
 exact V.zma _ _ h
theorem zrs {L : List V.Bs} {k : Nat} (hk : k < L.length) (h : (V.value (L.getD k [])).isEmpty = false) : V.qd (L.take (k + 1)) = L.take (k + 1) := by
 rw [List.take_succ_eq_append_getElem hk]
 rw [ke hk] at h
 exact V.zl6 _ _ h
theorem zo7 (s : ByteArray) (w : World) (hm : zg w) (hs : s.size ≤ 1000) :
  Calls Tryz.prog 250 #[.agg #[], .string s] w (zt5 (V.ka s.data.toList) w) := by
 have hb0 : Below w.heap.size w (w.alloc (.cells #[] 177)) := (zvt _ w).alloc (zvs _) _
 have hm0 := hm.below hb0
 obtain ⟨L, hL⟩ : ∃ L, V.zd 46 s.data.toList = L := ⟨_, rfl⟩
 have HP : Hid (V.ka s.data.toList = V.qd L) := zvq (by unfold V.ka; rw [hL])
 have hlen : L.length ≤ s.size + 1 := by have := jm 46 s.data.toList; rw [hL, zf] at this; exact this
 have HL := zvq hL
 have HB0 := zvq hb0
 clear hL hb0
 go_enter Tryz.func250, Tryz.ntmps250
 go_wp2_with fail
 refine (kn s 46 _ hm0 (by omega)).mono ?_
 rintro e w1 ⟨rfl, hw1⟩
 simp only [HL.out, World.size_alloc] at hw1 ⊢
 have hz : w.heap.size + 1 < w1.heap.size := by rw [hw1]; simp
 have hcs : ∀ j, j < L.length -> w1.cell? ⟨w.heap.size + 1, j, none⟩ = some (.string ⟨(L.getD j []).toArray⟩) := fun j hj => by
  rw [hw1, ze, if_pos (by simp), yj L j hj, ke hj]
 have HB1 : Hid (Below w.heap.size w w1) := zvq (by rw [hw1]; exact HB0.out.alloc HB0.out.size _)
 have HCS := zvq hcs
 clear hw1 hcs HB0 hm0
 go_wp2
 go_loop [5] (fun v => ∃ k : Nat, k ≤ L.length /\ v = .slice (some ⟨w.heap.size + 1, 0, none⟩) k L.length /\ V.qd (L.take k) = V.qd L) (fun v => lenOf v)
 case atStart => exact ⟨L.length, zvs _, rfl, by rw [List.take_of_length_le (zvs _)]⟩
 case round =>
  obtain ⟨k, hk, rfl, hst⟩ := hrel
  have HST := zvq hst
  clear hst
  have FIN : Hid (∀ l, l = L.take k -> V.qd L = l -> zt5 (V.ka s.data.toList) w (.returned (.slice (some ⟨w.heap.size + 1, 0, none⟩) k L.length)) w1) := zvq (fun l hl hs => by
    refine ⟨_, rfl, ⟨some ⟨w.heap.size + 1, 0, none⟩, L.length, ?_, fun j hj => ⟨_, _, rfl, hz, ?_⟩⟩, HB1.out⟩
    · rw [HP.out, hs, hl, List.length_take, Nat.min_eq_left hk]
    · have hlt : j < L.length := by
        rw [HP.out, hs, hl, List.length_take] at hj; omega
      rw [Nat.zero_add, HCS.out j hlt, ke hlt]
      congr 3
      have e : V.ka s.data.toList = L.take k := by rw [HP.out, hs, hl]
      simp only [e, List.getElem_take])
  cases k with
  | zero =>
   have HF := zvq (FIN.out (L.take 0) rfl (by rw [← HST.out]; rfl))
   go_wp2
   go_ret
   exact HF.out
  | succ k =>
   have hcell := HCS.out k (by omega)
   have hx1 : ((k + 1 : Nat) : Int) = (k : Int) + 1 := by omega
   rcases hv : (V.value (L.getD k [])).isEmpty with _ | _
   all_goals
    have HV := zvq hv
    clear hv
    generalize hX : L.getD k [] = X at *
    have HX := zvq hX
    clear hX
    go_wp2_with fail
    refine (zhn ⟨X.toArray⟩ _).mono ?_
    rintro e w' ⟨rfl, rfl⟩
    simp only
    have hv := HV.out
    go_wp2
   ·have HF := zvq (FIN.out (L.take (k + 1)) rfl (by rw [← HST.out]; exact zrs (by omega) (by rw [HX.out]; exact HV.out)))
    go_ret
    exact HF.out
   ·go_round
    case rel => exact ⟨k, by omega, rfl, by rw [← zr6 (k := k) (by omega) (by rw [HX.out]; exact HV.out)]; exact HST.out⟩
    case measure => simp [lenOf]
theorem zrt (a b : V.Bs) (W : World) : Calls Tryz.prog 213 (#[.string ⟨a.toArray⟩, .string ⟨b.toArray⟩] ++ #[]) W fun e w' => e = .returned (.int .i64 (V.numbers a b)) /\ Below W.heap.size W w' := by
 have h := zah ⟨a.toArray⟩ ⟨b.toArray⟩ W
 simp only  at h
 exact h
theorem zpz (l : List V.Bs) : ∀ x ∈ V.qd l, x ∈ l := by
 intro x hx
 unfold V.qd at hx
 have := (List.dropWhile_sublist (l := l.reverse) (fun x => (V.value x).isEmpty)).subset (List.mem_reverse.1 hx)
 exact List.mem_reverse.1 this
theorem zoo (l : List V.Bs) : (V.qd l).length ≤ l.length := by
 unfold V.qd
 have := (List.dropWhile_sublist (l := l.reverse) (fun x => (V.value x).isEmpty)).length_le
 simpa using this
theorem zlu (s t : ByteArray) (w : World) (hm : zg w) (hs : s.size ≤ 1000) (ht : t.size ≤ 1000) :
  Calls Tryz.prog 247 #[.agg #[], .string s, .string t] w fun e w' => e = .returned (.int .i64 (V.zbq s.data.toList t.data.toList)) /\ Below w.heap.size w w' := by
 have HF : Hid (V.zbq s.data.toList t.data.toList = V.ji V.numbers (V.ka s.data.toList) (V.ka t.data.toList)) := rfl
 have hb0 : Below w.heap.size w (w.alloc (.cells #[] 177)) := (zvt _ w).alloc (zvs _) _
 have hm0 := hm.below hb0
 have sz : ∀ r : ByteArray, r.size ≤ 1000 -> (V.ka r.data.toList).length ≤ 2000 /\ ∀ x ∈ V.ka r.data.toList, x.length ≤ 1000 := fun r hr => by
  refine ⟨?_, fun x hx => ?_⟩
  ·have h1 := zoo (V.zd 46 r.data.toList)
   have h2 := jm 46 r.data.toList
   rw [zf] at h2
   unfold V.ka; omega
  ·have h1 := kb 46 _ x (zpz _ x hx)
   rw [zf] at h1; omega
 have SZ := zvq sz
 have HB0 := zvq hb0
 clear sz hb0
 go_enter Tryz.func247, Tryz.ntmps247
 go_wp2
 go_region_held3 (fun W' => zg W' /\ True)
  (first
    | (go_split_ands; exact ⟨zg.below (by assumption) hbq, trivial⟩)
    | (exact ⟨hm0, trivial⟩)
    | go_keep)
  (first
    | (go_at_call 250; refine (zo7 _ _ (by first | assumption | exact And.left (b := True) (by assumption) | exact zg.below (by assumption) (by assumption)) (by assumption)).mono ?_; rintro e wq ⟨vq, rfl, hsq, hbq⟩)
    | (go_at_call 214; refine (zdh _ _ (V.ka s.data.toList) (V.ka t.data.toList) _ #[] V.numbers _ (by first | assumption | exact Strs.below (by assumption) (by assumption)) (by first | assumption | exact Strs.below (by assumption) (by assumption)) (SZ.out s hs).1 (SZ.out t ht).1 (SZ.out s hs).2 (SZ.out t ht).2 (enters_of Tryz.func213 (by kernel_rfl) rfl) (fun x y W _ _ => zrt x y W)).mono ?_; rintro e wq ⟨rfl, hbq⟩))
 rename_i wa va hsa hba wb hbb hH
 have hbx : Below w.heap.size w wq := HB0.out.trans ((((zvt _ (w.alloc (.cells #[] 177))).drew).trans (Below.trans (show Below (w.alloc (.cells #[] 177)).heap.size (w.alloc (.cells #[] 177)).drew wa from hba) ((hbb.trans (hbq.mono hbb.size)).mono hba.size))).mono HB0.out.size)
 have HBX := zvq hbx
 clear hsa hba hbb hH hsq hbq hbx
 go_wp2
 go_ret
 exact ⟨zn HF.out.symm, HBX.out⟩
open Go.RowKit
theorem Strs.at {w : World} {a : Option Addr} {n cap : Nat} {l : List V.Bs} (h : Strs w (.slice a n cap) l) (j : Nat) (hj : j < l.length) :
  ∃ b off, a = some ⟨b, off, none⟩ /\ b < w.heap.size /\ w.cell? ⟨b, off + j, none⟩ = some (.string ⟨(l.getD j []).toArray⟩) := by
 obtain ⟨a', c, e, hc⟩ := h
 obtain ⟨b, off, ea, hb, hcell⟩ := hc j hj
 cases e
 refine ⟨b, off, ea, hb, ?_⟩
 rw [List.getD_eq_getElem?_getD, List.getElem?_eq_getElem hj]
 exact hcell
theorem Strs.slice {w : World} {v : Value} {l : List V.Bs} (h : Strs w v l) : ∃ a cap, v = .slice a l.length cap := by
 obtain ⟨a, c, e, _⟩ := h
 exact ⟨a, c, e⟩
theorem Strs.head {w : World} {v : Value} {l : List V.Bs} (h : Strs w v l) (h0 : 0 < l.length) :
  ∃ b off cap, v = .slice (some ⟨b, off, none⟩) l.length cap /\ b < w.heap.size /\ ∀ j, j < l.length -> w.cell? ⟨b, off + j, none⟩ = some (.string ⟨(l.getD j []).toArray⟩) := by
 obtain ⟨a, c, e, hc⟩ := h
 obtain ⟨b, off, rfl, hb, _⟩ := hc 0 h0
 refine ⟨b, off, c, e, hb, fun j hj => ?_⟩
 obtain ⟨b', off', ea, _, hcell⟩ := hc j hj
 cases ea
 rw [List.getD_eq_getElem?_getD, List.getElem?_eq_getElem hj]
 exact hcell
open Go.RowKit
open Go.RowKit
theorem zq6 (k : Nat) (w : World) : (method (k + 1) 175 (.agg #[]) "admission/version.valid").run Tryz.prog w = .ok (211, .agg #[]) w := by kernel_rfl
theorem zqj (k : Nat) (w : World) : (method (k + 1) 176 (.agg #[]) "admission/version.valid").run Tryz.prog w = .ok (237, .agg #[]) w := by kernel_rfl
theorem zq5 (k : Nat) (w : World) : (method (k + 1) 177 (.agg #[]) "admission/version.valid").run Tryz.prog w = .ok (249, .agg #[]) w := by kernel_rfl
theorem zym {P : Prop} (h : P := by
 go_enter Tryz.func117, Tryz.ntmps117
 go_wp2
 go_ret
 exact ⟨rfl, rfl⟩) : P := h
theorem zjb (w : World) : Calls Tryz.prog 117 #[.int .i64 1] w fun e w' => e = .returned (.iface 175 (.agg #[])) /\ w = w' := by
 exact zym
theorem zi3 (w : World) : Calls Tryz.prog 117 #[.int .i64 2] w fun e w' => e = .returned (.iface 176 (.agg #[])) /\ w = w' := by
 exact zym
theorem zi2 (w : World) : Calls Tryz.prog 117 #[.int .i64 3] w fun e w' => e = .returned (.iface 177 (.agg #[])) /\ w = w' := by
 exact zym
theorem ztg (n : Int) (h1 : n ≠ 1) (h2 : n ≠ 2) (h3 : n ≠ 3) (w : World) : Calls Tryz.prog 117 #[.int .i64 n] w fun e w' => e = .returned .nilIface /\ w = w' := by
 have b1 : (n == 1) = false := by simpa using h1
 have b2 : (n == 2) = false := by simpa using h2
 have b3 : (n == 3) = false := by simpa using h3
 exact zym
theorem zyt {P : Prop} (h : P := by
 rintro e w' ⟨rfl, rfl⟩
 go_wp2
 go_ret
 exact ⟨zc HF.out.symm, zvt _ _⟩) : P := h
theorem z04 {P : Prop} (h : P := by
 rintro e w1 ⟨rfl, hb⟩
 go_wp2
 go_ret
 exact ⟨zc (by rw [HF.out]), hb⟩) : P := h
theorem zkk (s : ByteArray) (w : World) (hm : zg w) (hs : s.size ≤ maxLen) :
  Calls Tryz.prog 92 #[.int .i64 1, .string s] w fun e w' => e = .returned (.bool (V.valid 1 s.data.toList)) /\ Below w.heap.size w w' := by
 unfold maxLen at hs
 have hmeth := zq6
 by_cases h1 : 1 ≤ s.size
 ·have b1 : (1 : Int) ≤ (s.size : Int) := by omega
  by_cases h2 : s.size ≤ 64
  ·have HF : Hid (V.valid 1 s.data.toList = (V.zo s.data.toList).isSome) := zvq (by unfold V.valid V.yz; rw [zf]; simp [h1, h2])
   have b2 : (s.size : Int) ≤ 64 := by omega
   go_enter Tryz.func92, Tryz.ntmps92
   go_wp2_with fail
   refine (zjb _).mono ?_
   rintro e w' ⟨rfl, rfl⟩
   go_wp2_with fail
   refine (zoq s _ hm (by omega)).mono ?_
   exact z04
  ·have HF : Hid (V.valid 1 s.data.toList = false) := zvq (by unfold V.valid; rw [zf]; simp [h2])
   have b2 : ¬ (s.size : Int) ≤ 64 := by omega
   go_enter Tryz.func92, Tryz.ntmps92
   go_wp2_with fail
   refine (zjb _).mono ?_
   exact zyt
 ·have HF : Hid (V.valid 1 s.data.toList = false) := zvq (by unfold V.valid; rw [zf]; simp [h1])
  have b1 : ¬ (1 : Int) ≤ (s.size : Int) := by omega
  go_enter Tryz.func92, Tryz.ntmps92
  go_wp2_with fail
  refine (zjb _).mono ?_
  exact zyt
theorem zjm (s : ByteArray) (w : World) (hm : zg w) (hs : s.size ≤ maxLen) :
  Calls Tryz.prog 92 #[.int .i64 2, .string s] w fun e w' => e = .returned (.bool (V.valid 2 s.data.toList)) /\ Below w.heap.size w w' := by
 unfold maxLen at hs
 have hmeth := zqj
 by_cases h1 : 1 ≤ s.size
 ·have b1 : (1 : Int) ≤ (s.size : Int) := by omega
  by_cases h2 : s.size ≤ 64
  ·have HF : Hid (V.valid 2 s.data.toList = (V.zr s.data.toList).isSome) := zvq (by unfold V.valid V.yz; rw [zf]; simp [h1, h2])
   have b2 : (s.size : Int) ≤ 64 := by omega
   go_enter Tryz.func92, Tryz.ntmps92
   go_wp2_with fail
   refine (zi3 _).mono ?_
   rintro e w' ⟨rfl, rfl⟩
   go_wp2_with fail
   refine (zpy s _ hm (by omega)).mono ?_
   exact z04
  ·have HF : Hid (V.valid 2 s.data.toList = false) := zvq (by unfold V.valid; rw [zf]; simp [h2])
   have b2 : ¬ (s.size : Int) ≤ 64 := by omega
   go_enter Tryz.func92, Tryz.ntmps92
   go_wp2_with fail
   refine (zi3 _).mono ?_
   exact zyt
 ·have HF : Hid (V.valid 2 s.data.toList = false) := zvq (by unfold V.valid; rw [zf]; simp [h1])
  have b1 : ¬ (1 : Int) ≤ (s.size : Int) := by omega
  go_enter Tryz.func92, Tryz.ntmps92
  go_wp2_with fail
  refine (zi3 _).mono ?_
  exact zyt
theorem zlf (s : ByteArray) (w : World) (_hm : zg w) (hs : s.size ≤ maxLen) :
  Calls Tryz.prog 92 #[.int .i64 3, .string s] w fun e w' => e = .returned (.bool (V.valid 3 s.data.toList)) /\ Below w.heap.size w w' := by
 unfold maxLen at hs
 have hmeth := zq5
 by_cases h1 : 1 ≤ s.size
 ·have b1 : (1 : Int) ≤ (s.size : Int) := by omega
  by_cases h2 : s.size ≤ 64
  ·have HF : Hid (V.valid 3 s.data.toList = V.zfa s.data.toList) := zvq (by unfold V.valid V.yz; rw [zf]; simp [h1, h2])
   have b2 : (s.size : Int) ≤ 64 := by omega
   go_enter Tryz.func92, Tryz.ntmps92
   go_wp2_with fail
   refine (zi2 _).mono ?_
   rintro e w' ⟨rfl, rfl⟩
   go_wp2_with fail
   refine (zpc s _ (by unfold maxLen; omega)).mono ?_
   exact z04
  ·have HF : Hid (V.valid 3 s.data.toList = false) := zvq (by unfold V.valid; rw [zf]; simp [h2])
   have b2 : ¬ (s.size : Int) ≤ 64 := by omega
   go_enter Tryz.func92, Tryz.ntmps92
   go_wp2_with fail
   refine (zi2 _).mono ?_
   exact zyt
 ·have HF : Hid (V.valid 3 s.data.toList = false) := zvq (by unfold V.valid; rw [zf]; simp [h1])
  have b1 : ¬ (1 : Int) ≤ (s.size : Int) := by omega
  go_enter Tryz.func92, Tryz.ntmps92
  go_wp2_with fail
  refine (zi2 _).mono ?_
  exact zyt
theorem zrz (n : Int) (h1 : n ≠ 1) (h2 : n ≠ 2) (h3 : n ≠ 3) (s : ByteArray) (w : World) :
  Calls Tryz.prog 92 #[.int .i64 n, .string s] w fun e w' => e = .returned (.bool (V.valid n s.data.toList)) /\ Below w.heap.size w w' := by
 have HF : Hid (V.valid n s.data.toList = false) := zvq (by unfold V.valid V.yz; simp [h1, h2, h3])
 go_enter Tryz.func92, Tryz.ntmps92
 go_wp2_with fail
 refine (ztg n h1 h2 h3 _).mono ?_
 rintro e w' ⟨rfl, rfl⟩
 go_wp2
 go_ret
 exact ⟨zc HF.out.symm, zvt _ _⟩
theorem vd (n : Int) (s : ByteArray) (w : World) (hm : zg w) (hs : s.size ≤ maxLen) :
  Calls Tryz.prog 92 #[.int .i64 n, .string s] w fun e w' => e = .returned (.bool (V.valid n s.data.toList)) /\ Below w.heap.size w w' := by
 by_cases h1 : n = 1
 ·subst h1; exact zkk s w hm hs
 ·by_cases h2 : n = 2
  ·subst h2; exact zjm s w hm hs
  ·by_cases h3 : n = 3
   ·subst h3; exact zlf s w hm hs
   ·exact zrz n h1 h2 h3 s w
theorem zvf (k : Nat) (w : World) : (method (k + 1) 175 (.agg #[]) "admission/version.compare").run Tryz.prog w = .ok (209, .agg #[]) w := by kernel_rfl
theorem zvb (k : Nat) (w : World) : (method (k + 1) 176 (.agg #[]) "admission/version.compare").run Tryz.prog w = .ok (235, .agg #[]) w := by kernel_rfl
theorem zu6 (k : Nat) (w : World) : (method (k + 1) 177 (.agg #[]) "admission/version.compare").run Tryz.prog w = .ok (247, .agg #[]) w := by kernel_rfl
open Go.RowKit
def zrw (T : Nat) (ok : Bool) (e : Ending) : Prop :=
 e = .returned (if ok then .tuple #[.func (.method "admission/version.compare") #[.iface T (.agg #[])] #[], .int .i64 0] else .tuple #[.nilFunc, .int .i64 1])
theorem zyr {P : Prop} (h : P := by
 have HF := zvq (NEXT.out HVX.out)
 go_roundw
 case rel => exact ⟨k + 1, by omega, by go_num, HF.out, HB1.out⟩
 case measure => simp [intOf]; omega) : P := h
theorem z0r {P : Prop} (h : P := by
 have HF := zvq (BAD.out HVX.out)
 go_ret2
 exact ⟨by rw [HF.out]; rfl, HB1.out⟩) : P := h
theorem zlr (v : Value) (l : List V.Bs) (w : World) (hm : zg w) (hv : Strs w v l) (hl : l.length ≤ maxLen) (hx : ∀ x ∈ l, x.length ≤ maxLen) :
  Calls Tryz.prog 147 #[.int .i64 1, v] w fun e w' =>
   zrw 175 (l.all (V.valid 1)) e /\ Below w.heap.size w w' := by
 obtain ⟨a, cap, rfl, hc⟩ := hv
 unfold maxLen at hl
 have HC := zvq hc
 have HX := zvq hx
 have HM := zvq hm
 clear hc hx hm
 go_enter Tryz.func147, Tryz.ntmps147
 go_wp2_with fail
 refine (zjb _).mono ?_
 rintro e w' ⟨rfl, rfl⟩
 go_wp2
 go_loopw [15] (fun i wr => ∃ k : Nat, k ≤ l.length /\ i = .int .i64 k /\ (∀ j, j < k -> V.valid 1 (l.getD j []) = true) /\ Below w.heap.size w wr) (fun i _ => l.length - (intOf i).toNat)
 case atStart => exact ⟨0, Nat.zero_le _, rfl, fun j hj => by omega, zvt _ _⟩
 case round =>
  obtain ⟨k, hk, rfl, hz, hB⟩ := hrel
  have HZ := zvq hz
  have HB := zvq hB
  clear hz hB
  by_cases hlt : k < l.length
  ·obtain ⟨b, o, ha, hb, hcell⟩ := HC.out k hlt
   have hx1 := (HB.out.cell (p := ⟨b, o + k, none⟩) hb).trans hcell
   rw [← ke hlt] at hx1
   have s1 := HX.out _ (List.getElem_mem hlt)
   rw [← ke hlt] at s1
   have BAD : Hid (V.valid 1 (l.getD k []) = false -> l.all (V.valid 1) = false) := zvq (fun h => by
     rw [List.all_eq_false]
     exact ⟨l[k], List.getElem_mem hlt, by rw [← ke hlt, h]; simp⟩)
   have NEXT : Hid (V.valid 1 (l.getD k []) = true -> ∀ j, j < k + 1 -> V.valid 1 (l.getD j []) = true) := zvq (fun h0 j hj => by
     by_cases e : j = k
     · subst e; exact h0
     · exact HZ.out j (by omega))
   subst ha
   clear hcell
   generalize l.getD k [] = x at *
   rcases hvx : V.valid 1 x with _ | _
   all_goals
    have HVX := zvq hvx
    clear hvx
    go_wp2_with fail
    refine (zkk ⟨x.toArray⟩ _ (HM.out.below HB.out) s1).mono ?_
    rintro e w1 ⟨rfl, hb1⟩
    simp only [HVX.out]
    have HB1 := zvr HB hb1
    clear hb1
    go_wp2
   ·exact z0r
   ·exact zyr
  ·have HF : Hid (l.all (V.valid 1) = true) := zvq (by
     rw [List.all_eq_true]
     intro x hx
     obtain ⟨j, hj, e⟩ := List.getElem_of_mem hx
     have := HZ.out j (by omega)
     rw [ke hj] at this
     rw [← e]; exact this)
   go_wp2
   go_ret2
   exact ⟨by rw [HF.out]; rfl, HB.out⟩
theorem zj6 (v : Value) (l : List V.Bs) (w : World) (hm : zg w) (hv : Strs w v l) (hl : l.length ≤ maxLen) (hx : ∀ x ∈ l, x.length ≤ maxLen) :
  Calls Tryz.prog 147 #[.int .i64 2, v] w fun e w' =>
   zrw 176 (l.all (V.valid 2)) e /\ Below w.heap.size w w' := by
 obtain ⟨a, cap, rfl, hc⟩ := hv
 unfold maxLen at hl
 have HC := zvq hc
 have HX := zvq hx
 have HM := zvq hm
 clear hc hx hm
 go_enter Tryz.func147, Tryz.ntmps147
 go_wp2_with fail
 refine (zi3 _).mono ?_
 rintro e w' ⟨rfl, rfl⟩
 go_wp2
 go_loopw [15] (fun i wr => ∃ k : Nat, k ≤ l.length /\ i = .int .i64 k /\ (∀ j, j < k -> V.valid 2 (l.getD j []) = true) /\ Below w.heap.size w wr) (fun i _ => l.length - (intOf i).toNat)
 case atStart => exact ⟨0, Nat.zero_le _, rfl, fun j hj => by omega, zvt _ _⟩
 case round =>
  obtain ⟨k, hk, rfl, hz, hB⟩ := hrel
  have HZ := zvq hz
  have HB := zvq hB
  clear hz hB
  by_cases hlt : k < l.length
  ·obtain ⟨b, o, ha, hb, hcell⟩ := HC.out k hlt
   have hx1 := (HB.out.cell (p := ⟨b, o + k, none⟩) hb).trans hcell
   rw [← ke hlt] at hx1
   have s1 := HX.out _ (List.getElem_mem hlt)
   rw [← ke hlt] at s1
   have BAD : Hid (V.valid 2 (l.getD k []) = false -> l.all (V.valid 2) = false) := zvq (fun h => by
     rw [List.all_eq_false]
     exact ⟨l[k], List.getElem_mem hlt, by rw [← ke hlt, h]; simp⟩)
   have NEXT : Hid (V.valid 2 (l.getD k []) = true -> ∀ j, j < k + 1 -> V.valid 2 (l.getD j []) = true) := zvq (fun h0 j hj => by
     by_cases e : j = k
     · subst e; exact h0
     · exact HZ.out j (by omega))
   subst ha
   clear hcell
   generalize l.getD k [] = x at *
   rcases hvx : V.valid 2 x with _ | _
   all_goals
    have HVX := zvq hvx
    clear hvx
    go_wp2_with fail
    refine (zjm ⟨x.toArray⟩ _ (HM.out.below HB.out) s1).mono ?_
    rintro e w1 ⟨rfl, hb1⟩
    simp only [HVX.out]
    have HB1 := zvr HB hb1
    clear hb1
    go_wp2
   ·exact z0r
   ·exact zyr
  ·have HF : Hid (l.all (V.valid 2) = true) := zvq (by
     rw [List.all_eq_true]
     intro x hx
     obtain ⟨j, hj, e⟩ := List.getElem_of_mem hx
     have := HZ.out j (by omega)
     rw [ke hj] at this
     rw [← e]; exact this)
   go_wp2
   go_ret2
   exact ⟨by rw [HF.out]; rfl, HB.out⟩
theorem zk4 (v : Value) (l : List V.Bs) (w : World) (hm : zg w) (hv : Strs w v l) (hl : l.length ≤ maxLen) (hx : ∀ x ∈ l, x.length ≤ maxLen) :
  Calls Tryz.prog 147 #[.int .i64 3, v] w fun e w' =>
   zrw 177 (l.all (V.valid 3)) e /\ Below w.heap.size w w' := by
 obtain ⟨a, cap, rfl, hc⟩ := hv
 unfold maxLen at hl
 have HC := zvq hc
 have HX := zvq hx
 have HM := zvq hm
 clear hc hx hm
 go_enter Tryz.func147, Tryz.ntmps147
 go_wp2_with fail
 refine (zi2 _).mono ?_
 rintro e w' ⟨rfl, rfl⟩
 go_wp2
 go_loopw [15] (fun i wr => ∃ k : Nat, k ≤ l.length /\ i = .int .i64 k /\ (∀ j, j < k -> V.valid 3 (l.getD j []) = true) /\ Below w.heap.size w wr) (fun i _ => l.length - (intOf i).toNat)
 case atStart => exact ⟨0, Nat.zero_le _, rfl, fun j hj => by omega, zvt _ _⟩
 case round =>
  obtain ⟨k, hk, rfl, hz, hB⟩ := hrel
  have HZ := zvq hz
  have HB := zvq hB
  clear hz hB
  by_cases hlt : k < l.length
  ·obtain ⟨b, o, ha, hb, hcell⟩ := HC.out k hlt
   have hx1 := (HB.out.cell (p := ⟨b, o + k, none⟩) hb).trans hcell
   rw [← ke hlt] at hx1
   have s1 := HX.out _ (List.getElem_mem hlt)
   rw [← ke hlt] at s1
   have BAD : Hid (V.valid 3 (l.getD k []) = false -> l.all (V.valid 3) = false) := zvq (fun h => by
     rw [List.all_eq_false]
     exact ⟨l[k], List.getElem_mem hlt, by rw [← ke hlt, h]; simp⟩)
   have NEXT : Hid (V.valid 3 (l.getD k []) = true -> ∀ j, j < k + 1 -> V.valid 3 (l.getD j []) = true) := zvq (fun h0 j hj => by
     by_cases e : j = k
     · subst e; exact h0
     · exact HZ.out j (by omega))
   subst ha
   clear hcell
   generalize l.getD k [] = x at *
   rcases hvx : V.valid 3 x with _ | _
   all_goals
    have HVX := zvq hvx
    clear hvx
    go_wp2_with fail
    refine (zlf ⟨x.toArray⟩ _ (HM.out.below HB.out) s1).mono ?_
    rintro e w1 ⟨rfl, hb1⟩
    simp only [HVX.out]
    have HB1 := zvr HB hb1
    clear hb1
    go_wp2
   ·exact z0r
   ·exact zyr
  ·have HF : Hid (l.all (V.valid 3) = true) := zvq (by
     rw [List.all_eq_true]
     intro x hx
     obtain ⟨j, hj, e⟩ := List.getElem_of_mem hx
     have := HZ.out j (by omega)
     rw [ke hj] at this
     rw [← e]; exact this)
   go_wp2
   go_ret2
   exact ⟨by rw [HF.out]; rfl, HB.out⟩
theorem zs5 (n : Int) (h1 : n ≠ 1) (h2 : n ≠ 2) (h3 : n ≠ 3) (v : Value) (w : World) :
  Calls Tryz.prog 147 #[.int .i64 n, v] w fun e w' => e = .returned (.tuple #[.nilFunc, .int .i64 14]) /\ w = w' := by
 go_enter Tryz.func147, Tryz.ntmps147
 go_wp2_with fail
 refine (ztg n h1 h2 h3 _).mono ?_
 rintro e w' ⟨rfl, rfl⟩
 go_wp2
 go_ret2
 exact ⟨rfl, rfl⟩
theorem zkb (s t : ByteArray) (w : World) : Strs (w.alloc (.cells #[.string s, .string t] 9)) (.slice (some ⟨w.heap.size, 0, none⟩) 2 2) [s.data.toList, t.data.toList] := by
 have h := Strs.split w [s.data.toList, t.data.toList] 9
 have e : strCells [s.data.toList, t.data.toList] = #[.string s, .string t] := by
  unfold strCells; simp
 rw [e] at h
 exact h
theorem zg8 {s t : ByteArray} (hs : s.size ≤ maxLen) (ht : t.size ≤ maxLen) : ∀ x ∈ [s.data.toList, t.data.toList], x.length ≤ maxLen := by
 intro x hx
 simp at hx
 rcases hx with rfl | rfl
 ·rw [Array.length_toList]; exact hs
 ·rw [Array.length_toList]; exact ht
theorem valid_len {n : Int} {v : V.Bs} (h : V.valid n v = true) : v.length ≤ 64 := by
 unfold V.valid at h; simp at h; omega
theorem znn {v : V.Bs} (h : V.valid 1 v = true) : (V.zo v).isSome = true := by
 unfold V.valid V.yz at h; simp at h; exact h.2
theorem zmz {v : V.Bs} (h : V.valid 2 v = true) : (V.zr v).isSome = true := by
 unfold V.valid V.yz at h; simp at h; exact h.2
theorem zyo {P : Prop} (h : P := by
 rintro e w1 ⟨he, hb1⟩
 rw [HV.out] at he
 obtain rfl := he
 have HB1 := zvr HB0 hb1
 clear hb1
 go_wp2
 go_ret2
 exact ⟨by rw [H1.out]; rfl, HB1.out⟩) : P := h
theorem zy7 {P : Prop} (h : P := by
 rintro e w2 ⟨rfl, hb2⟩
 have HB2 := zvr HB1 hb2
 clear hb2
 go_wp2
 go_ret2
 exact ⟨by rw [H1.out, HCV.out]; rfl, HB2.out⟩) : P := h
theorem zpi (s t : ByteArray) (w : World) (hm : zg w) (hs : s.size ≤ maxLen) (ht : t.size ≤ maxLen) :
  Calls Tryz.prog 118 #[.int .i64 1, .string s, .string t] w fun e w' =>
   e = .returned (.tuple #[.int .i64 (V.qt 1 s.data.toList t.data.toList).1, .int .i64 (V.qt 1 s.data.toList t.data.toList).2]) /\ Below w.heap.size w w' := by
 have hS := zkb s t w
 have hb0 : Below w.heap.size w (w.alloc (.cells #[.string s, .string t] 9)) := (zvt _ w).alloc (zvs _) _
 have hm0 := hm.below hb0
 have HF : Hid (V.qt 1 s.data.toList t.data.toList = if V.valid 1 s.data.toList && V.valid 1 t.data.toList then (V.cmpV 1 s.data.toList t.data.toList, 0) else (0, 1)) := rfl
 have HS := zvq hS
 have HB0 := zvq hb0
 clear hS hb0
 rcases hv : (V.valid 1 s.data.toList && V.valid 1 t.data.toList) with _ | _
 ·rw [hv] at HF
  have HV : Hid ([s.data.toList, t.data.toList].all (V.valid 1) = false) := zvq (by simpa using hv)
  have H1 := zvq (show V.qt 1 s.data.toList t.data.toList = (0, 1) from HF.out)
  clear hv HF
  go_enter Tryz.func118, Tryz.ntmps118
  go_wp2_with fail
  refine (zlr _ _ _ hm0 HS.out (by show 2 ≤ _; unfold maxLen; omega) (zg8 hs ht)).mono ?_
  exact zyo
 ·have HV : Hid ([s.data.toList, t.data.toList].all (V.valid 1) = true) := zvq (by simpa using hv)
  rw [hv] at HF
  have H1 := zvq (show V.qt 1 s.data.toList t.data.toList = (V.cmpV 1 s.data.toList t.data.toList, 0) from HF.out)
  rw [Bool.and_eq_true] at hv
  have h64 := valid_len hv.1
  have h65 := valid_len hv.2
  rw [zf] at h64 h65
  have HSV := zvq hv
  clear hv HF
  obtain ⟨⟨la, pa⟩, hpa⟩ := Option.isSome_iff_exists.1 (znn HSV.out.1)
  obtain ⟨⟨lb, pb⟩, hpb⟩ := Option.isSome_iff_exists.1 (znn HSV.out.2)
  have HCV : Hid (V.cmpV 1 s.data.toList t.data.toList = V.jq (la, pa) (lb, pb)) := zvq (by unfold V.cmpV; rw [if_pos rfl, hpa, hpb])
  have HPA := zvq hpa
  have HPB := zvq hpb
  clear hpa hpb
  have hmeth := zvf
  go_enter Tryz.func118, Tryz.ntmps118
  go_wp2_with fail
  refine (zlr _ _ _ hm0 HS.out (by show 2 ≤ _; unfold maxLen; omega) (zg8 hs ht)).mono ?_
  rintro e w1 ⟨he, hb1⟩
  rw [HV.out] at he
  obtain rfl := he
  have hm1 := hm0.below hb1
  have HB1 := zvr HB0 hb1
  clear hb1
  go_wp2_with fail
  refine (zju s t la pa lb pb _ hm1 (by omega) (by omega) HPA.out HPB.out).mono ?_
  exact zy7
theorem zpk (s t : ByteArray) (w : World) (hm : zg w) (hs : s.size ≤ maxLen) (ht : t.size ≤ maxLen) :
  Calls Tryz.prog 118 #[.int .i64 2, .string s, .string t] w fun e w' =>
   e = .returned (.tuple #[.int .i64 (V.qt 2 s.data.toList t.data.toList).1, .int .i64 (V.qt 2 s.data.toList t.data.toList).2]) /\ Below w.heap.size w w' := by
 have hS := zkb s t w
 have hb0 : Below w.heap.size w (w.alloc (.cells #[.string s, .string t] 9)) := (zvt _ w).alloc (zvs _) _
 have hm0 := hm.below hb0
 have HF : Hid (V.qt 2 s.data.toList t.data.toList = if V.valid 2 s.data.toList && V.valid 2 t.data.toList then (V.cmpV 2 s.data.toList t.data.toList, 0) else (0, 1)) := rfl
 have HS := zvq hS
 have HB0 := zvq hb0
 clear hS hb0
 rcases hv : (V.valid 2 s.data.toList && V.valid 2 t.data.toList) with _ | _
 ·rw [hv] at HF
  have HV : Hid ([s.data.toList, t.data.toList].all (V.valid 2) = false) := zvq (by simpa using hv)
  have H1 := zvq (show V.qt 2 s.data.toList t.data.toList = (0, 1) from HF.out)
  clear hv HF
  go_enter Tryz.func118, Tryz.ntmps118
  go_wp2_with fail
  refine (zj6 _ _ _ hm0 HS.out (by show 2 ≤ _; unfold maxLen; omega) (zg8 hs ht)).mono ?_
  exact zyo
 ·have HV : Hid ([s.data.toList, t.data.toList].all (V.valid 2) = true) := zvq (by simpa using hv)
  rw [hv] at HF
  have H1 := zvq (show V.qt 2 s.data.toList t.data.toList = (V.cmpV 2 s.data.toList t.data.toList, 0) from HF.out)
  rw [Bool.and_eq_true] at hv
  have h64 := valid_len hv.1
  have h65 := valid_len hv.2
  rw [zf] at h64 h65
  have HSV := zvq hv
  clear hv HF
  obtain ⟨⟨x0, x1, x2⟩, hpa⟩ := Option.isSome_iff_exists.1 (zmz HSV.out.1)
  obtain ⟨⟨y0, y1, y2⟩, hpb⟩ := Option.isSome_iff_exists.1 (zmz HSV.out.2)
  have HCV : Hid (V.cmpV 2 s.data.toList t.data.toList = V.vk (x0, x1, x2) (y0, y1, y2)) := zvq (by unfold V.cmpV; rw [if_neg (by decide), if_pos rfl, hpa, hpb])
  have HPA := zvq hpa
  have HPB := zvq hpb
  clear hpa hpb
  have hmeth := zvb
  go_enter Tryz.func118, Tryz.ntmps118
  go_wp2_with fail
  refine (zj6 _ _ _ hm0 HS.out (by show 2 ≤ _; unfold maxLen; omega) (zg8 hs ht)).mono ?_
  rintro e w1 ⟨he, hb1⟩
  rw [HV.out] at he
  obtain rfl := he
  have hm1 := hm0.below hb1
  have HB1 := zvr HB0 hb1
  clear hb1
  go_wp2_with fail
  refine (zkj s t x0 x1 x2 y0 y1 y2 _ hm1 (by omega) (by omega) HPA.out HPB.out).mono ?_
  exact zy7
theorem zo4 (s t : ByteArray) (w : World) (hm : zg w) (hs : s.size ≤ maxLen) (ht : t.size ≤ maxLen) :
  Calls Tryz.prog 118 #[.int .i64 3, .string s, .string t] w fun e w' =>
   e = .returned (.tuple #[.int .i64 (V.qt 3 s.data.toList t.data.toList).1, .int .i64 (V.qt 3 s.data.toList t.data.toList).2]) /\ Below w.heap.size w w' := by
 have hS := zkb s t w
 have hb0 : Below w.heap.size w (w.alloc (.cells #[.string s, .string t] 9)) := (zvt _ w).alloc (zvs _) _
 have hm0 := hm.below hb0
 have HF : Hid (V.qt 3 s.data.toList t.data.toList = if V.valid 3 s.data.toList && V.valid 3 t.data.toList then (V.cmpV 3 s.data.toList t.data.toList, 0) else (0, 1)) := rfl
 have HS := zvq hS
 have HB0 := zvq hb0
 clear hS hb0
 rcases hv : (V.valid 3 s.data.toList && V.valid 3 t.data.toList) with _ | _
 ·rw [hv] at HF
  have HV : Hid ([s.data.toList, t.data.toList].all (V.valid 3) = false) := zvq (by simpa using hv)
  have H1 := zvq (show V.qt 3 s.data.toList t.data.toList = (0, 1) from HF.out)
  clear hv HF
  go_enter Tryz.func118, Tryz.ntmps118
  go_wp2_with fail
  refine (zk4 _ _ _ hm0 HS.out (by show 2 ≤ _; unfold maxLen; omega) (zg8 hs ht)).mono ?_
  exact zyo
 ·have HV : Hid ([s.data.toList, t.data.toList].all (V.valid 3) = true) := zvq (by simpa using hv)
  rw [hv] at HF
  have H1 := zvq (show V.qt 3 s.data.toList t.data.toList = (V.cmpV 3 s.data.toList t.data.toList, 0) from HF.out)
  rw [Bool.and_eq_true] at hv
  have h64 := valid_len hv.1
  have h65 := valid_len hv.2
  rw [zf] at h64 h65
  have HSV := zvq hv
  clear hv HF
  have HCV : Hid (V.cmpV 3 s.data.toList t.data.toList = V.zbq s.data.toList t.data.toList) := zvq (by unfold V.cmpV; rw [if_neg (by decide), if_neg (by decide)])
  have hmeth := zu6
  go_enter Tryz.func118, Tryz.ntmps118
  go_wp2_with fail
  refine (zk4 _ _ _ hm0 HS.out (by show 2 ≤ _; unfold maxLen; omega) (zg8 hs ht)).mono ?_
  rintro e w1 ⟨he, hb1⟩
  rw [HV.out] at he
  obtain rfl := he
  have hm1 := hm0.below hb1
  have HB1 := zvr HB0 hb1
  clear hb1
  go_wp2_with fail
  refine (zlu s t _ hm1 (by omega) (by omega)).mono ?_
  exact zy7
theorem zpw (n : Int) (h1 : n ≠ 1) (h2 : n ≠ 2) (h3 : n ≠ 3) (s t : ByteArray) (w : World) :
  Calls Tryz.prog 118 #[.int .i64 n, .string s, .string t] w fun e w' =>
   e = .returned (.tuple #[.int .i64 (V.qt n s.data.toList t.data.toList).1, .int .i64 (V.qt n s.data.toList t.data.toList).2]) /\ Below w.heap.size w w' := by
 have HF : Hid (V.qt n s.data.toList t.data.toList = (0, 14)) := zvq (by unfold V.qt V.scheme; simp [h1, h2, h3])
 go_enter Tryz.func118, Tryz.ntmps118
 go_wp2_with fail
 refine (zs5 n h1 h2 h3 _ _).mono ?_
 rintro e w' ⟨rfl, rfl⟩
 go_wp2
 go_ret2
 exact ⟨by rw [HF.out]; rfl, (zvt _ _).alloc (zvs _) _⟩
theorem zrq (n : Int) (s t : ByteArray) (w : World) (hm : zg w) (hs : s.size ≤ maxLen) (ht : t.size ≤ maxLen) :
  Calls Tryz.prog 118 #[.int .i64 n, .string s, .string t] w fun e w' =>
   e = .returned (.tuple #[.int .i64 (V.qt n s.data.toList t.data.toList).1, .int .i64 (V.qt n s.data.toList t.data.toList).2]) /\ Below w.heap.size w w' := by
 by_cases h1 : n = 1
 ·subst h1; exact zpi s t w hm hs ht
 ·by_cases h2 : n = 2
  ·subst h2; exact zpk s t w hm hs ht
  ·by_cases h3 : n = 3
   ·subst h3; exact zo4 s t w hm hs ht
   ·exact zpw n h1 h2 h3 s t w
open Go.RowKit
end Go.Proofs.YtiloljoancdcbaaGreatDoor
