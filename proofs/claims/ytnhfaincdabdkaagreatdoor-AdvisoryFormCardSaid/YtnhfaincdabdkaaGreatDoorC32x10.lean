/-
  Lemmas for the law.
-/
import Derived.Test.YtnhfaincdabdkaaGreatDoorC32x07
import Derived.Test.YtnhfaincdabdkaaGreatDoorC32x06
import Derived.Test.YtnhfaincdabdkaaGreatDoorC32x03
import Derived.Test.YtnhfaincdabdkaaGreatDoorC32x01
import Derived.Test.YtnhfaincdabdkaaGreatDoorC32x04
import Derived.Lib.BufSteps
import Derived.OwnWalk
set_option linter.all false
set_option maxRecDepth 100000
set_option maxHeartbeats 1600000
namespace Go.Proofs.YtnhfaincdabdkaaGreatDoor
open Go.RowKit
def zs2 (l : List V.Bs) (w : World) (e : Ending) (w' : World) : Prop := ∃ v, e = .returned v /\ Strs w' v l /\ Below w.heap.size w w'
def lenOf : Value -> Nat
 | .slice _ n _ => n
 | _ => 0
theorem zq5 {L : List V.Bs} {k : Nat} (hk : k < L.length) (h : (V.value (L.getD k [])).isEmpty = true) : V.zz (L.take (k + 1)) = V.zz (L.take k) := by
 rw [List.take_succ_eq_append_getElem hk]
 rw [jq hk] at h
 exact V.zld _ _ h
theorem zqq {L : List V.Bs} {k : Nat} (hk : k < L.length) (h : (V.value (L.getD k [])).isEmpty = false) : V.zz (L.take (k + 1)) = L.take (k + 1) := by
 rw [List.take_succ_eq_append_getElem hk]
 rw [jq hk] at h
 exact V.zla _ _ h
theorem znz (s : ByteArray) (w : World) (hm : zg w) (hs : s.size ≤ 1000) :
  Calls Tryz.prog 296 #[.agg #[], .string s] w (zs2 (V.jm s.data.toList) w) := by
 have hb0 : Below w.heap.size w (w.alloc (.cells #[] 192)) := (zut _ w).alloc (zus _) _
 have hm0 := hm.below hb0
 obtain ⟨L, hL⟩ : ∃ L, V.ze 46 s.data.toList = L := ⟨_, rfl⟩
 have HP : Hid (V.jm s.data.toList = V.zz L) := zuq (by unfold V.jm; rw [hL])
 have hlen : L.length ≤ s.size + 1 := by have := jg 46 s.data.toList; rw [hL, zf] at this; exact this
 have HL := zuq hL
 have HB0 := zuq hb0
 clear hL hb0
 go_enter Tryz.func296, Tryz.ntmps296
 go_wp2_with fail
 refine (kj s 46 _ hm0 (by omega)).mono ?_
 rintro e w1 ⟨rfl, hw1⟩
 simp only [HL.out, World.size_alloc] at hw1 ⊢
 have hz : w.heap.size + 1 < w1.heap.size := by rw [hw1]; simp
 have hcs : ∀ j, j < L.length -> w1.cell? ⟨w.heap.size + 1, j, none⟩ = some (.string ⟨(L.getD j []).toArray⟩) := fun j hj => by
  rw [hw1, zc, if_pos (by simp), xu L j hj, jq hj]
 have HB1 : Hid (Below w.heap.size w w1) := zuq (by rw [hw1]; exact HB0.out.alloc HB0.out.size _)
 have HCS := zuq hcs
 clear hw1 hcs HB0 hm0
 go_wp2
 go_loop [5] (fun v => ∃ k : Nat, k ≤ L.length /\ v = .slice (some ⟨w.heap.size + 1, 0, none⟩) k L.length /\ V.zz (L.take k) = V.zz L) (fun v => lenOf v)
 case atStart => exact ⟨L.length, zus _, rfl, by rw [List.take_of_length_le (zus _)]⟩
 case round =>
  obtain ⟨k, hk, rfl, hst⟩ := hrel
  have HST := zuq hst
  clear hst
  have FIN : Hid (∀ l, l = L.take k -> V.zz L = l -> zs2 (V.jm s.data.toList) w (.returned (.slice (some ⟨w.heap.size + 1, 0, none⟩) k L.length)) w1) := zuq (fun l hl hs => by
    refine ⟨_, rfl, ⟨some ⟨w.heap.size + 1, 0, none⟩, L.length, ?_, fun j hj => ⟨_, _, rfl, hz, ?_⟩⟩, HB1.out⟩
    · rw [HP.out, hs, hl, List.length_take, Nat.min_eq_left hk]
    · have hlt : j < L.length := by
        rw [HP.out, hs, hl, List.length_take] at hj; omega
      rw [Nat.zero_add, HCS.out j hlt, jq hlt]
      congr 3
      have e : V.jm s.data.toList = L.take k := by rw [HP.out, hs, hl]
      simp only [e, List.getElem_take])
  cases k with
  | zero =>
   have HF := zuq (FIN.out (L.take 0) rfl (by rw [← HST.out]; rfl))
   go_wp2
   go_ret
   exact HF.out
  | succ k =>
   have hcell := HCS.out k (by omega)
   have hx1 : ((k + 1 : Nat) : Int) = (k : Int) + 1 := by omega
   rcases hv : (V.value (L.getD k [])).isEmpty with _ | _
   all_goals
    have HV := zuq hv
    clear hv
    generalize hX : L.getD k [] = X at *
    have HX := zuq hX
    clear hX
    go_wp2_with fail
    refine (zgy ⟨X.toArray⟩ _).mono ?_
    rintro e w' ⟨rfl, rfl⟩
    simp only
    have hv := HV.out
    go_wp2
   ·have HF := zuq (FIN.out (L.take (k + 1)) rfl (by rw [← HST.out]; exact zqq (by omega) (by rw [HX.out]; exact HV.out)))
    go_ret
    exact HF.out
   ·go_round
    case rel => exact ⟨k, by omega, rfl, by rw [← zq5 (k := k) (by omega) (by rw [HX.out]; exact HV.out)]; exact HST.out⟩
    case measure => simp [lenOf]
theorem zqr (a b : V.Bs) (W : World) : Calls Tryz.prog 259 (#[.string ⟨a.toArray⟩, .string ⟨b.toArray⟩] ++ #[]) W fun e w' => e = .returned (.int .i64 (V.numbers a b)) /\ Below W.heap.size W w' := by
 have h := wi ⟨a.toArray⟩ ⟨b.toArray⟩ W
 simp only  at h
 exact h
theorem zos (l : List V.Bs) : ∀ x ∈ V.zz l, x ∈ l := by
 intro x hx
 unfold V.zz at hx
 have := (List.dropWhile_sublist (l := l.reverse) (fun x => (V.value x).isEmpty)).subset (List.mem_reverse.1 hx)
 exact List.mem_reverse.1 this
theorem znh (l : List V.Bs) : (V.zz l).length ≤ l.length := by
 unfold V.zz
 have := (List.dropWhile_sublist (l := l.reverse) (fun x => (V.value x).isEmpty)).length_le
 simpa using this
theorem zkz (s t : ByteArray) (w : World) (hm : zg w) (hs : s.size ≤ 1000) (ht : t.size ≤ 1000) :
  Calls Tryz.prog 293 #[.agg #[], .string s, .string t] w fun e w' => e = .returned (.int .i64 (V.za8 s.data.toList t.data.toList)) /\ Below w.heap.size w w' := by
 have HF : Hid (V.za8 s.data.toList t.data.toList = V.qv V.numbers (V.jm s.data.toList) (V.jm t.data.toList)) := rfl
 have hb0 : Below w.heap.size w (w.alloc (.cells #[] 192)) := (zut _ w).alloc (zus _) _
 have hm0 := hm.below hb0
 have sz : ∀ r : ByteArray, r.size ≤ 1000 -> (V.jm r.data.toList).length ≤ 2000 /\ ∀ x ∈ V.jm r.data.toList, x.length ≤ 1000 := fun r hr => by
  refine ⟨?_, fun x hx => ?_⟩
  ·have h1 := znh (V.ze 46 r.data.toList)
   have h2 := jg 46 r.data.toList
   rw [zf] at h2
   unfold V.jm; omega
  ·have h1 := jn 46 _ x (zos _ x hx)
   rw [zf] at h1; omega
 have SZ := zuq sz
 have HB0 := zuq hb0
 clear sz hb0
 go_enter Tryz.func293, Tryz.ntmps293
 go_wp2
 go_region_held3 (fun W' => zg W' /\ True)
  (first
    | (go_split_ands; exact ⟨zg.below (by assumption) hbq, trivial⟩)
    | (exact ⟨hm0, trivial⟩)
    | go_keep)
  (first
    | (go_at_call 296; refine (znz _ _ (by first | assumption | exact And.left (b := True) (by assumption) | exact zg.below (by assumption) (by assumption)) (by assumption)).mono ?_; rintro e wq ⟨vq, rfl, hsq, hbq⟩)
    | (go_at_call 260; refine (zcy _ _ (V.jm s.data.toList) (V.jm t.data.toList) _ #[] V.numbers _ (by first | assumption | exact Strs.below (by assumption) (by assumption)) (by first | assumption | exact Strs.below (by assumption) (by assumption)) (SZ.out s hs).1 (SZ.out t ht).1 (SZ.out s hs).2 (SZ.out t ht).2 (enters_of Tryz.func259 (by kernel_rfl) rfl) (fun x y W _ _ => zqr x y W)).mono ?_; rintro e wq ⟨rfl, hbq⟩))
 rename_i wa va hsa hba wb hbb hH
 have hbx : Below w.heap.size w wq := HB0.out.trans ((((zut _ (w.alloc (.cells #[] 192))).drew).trans (Below.trans (show Below (w.alloc (.cells #[] 192)).heap.size (w.alloc (.cells #[] 192)).drew wa from hba) ((hbb.trans (hbq.mono hbb.size)).mono hba.size))).mono HB0.out.size)
 have HBX := zuq hbx
 clear hsa hba hbb hH hsq hbq hbx
 go_wp2
 go_ret
 exact ⟨zn HF.out.symm, HBX.out⟩
open Go.RowKit
theorem Strs.at {w : World} {a : Option Addr} {n cap : Nat} {l : List V.Bs} (h : Strs w (.slice a n cap) l) (j : Nat) (hj : j < l.length) :
  ∃ b off, a = some ⟨b, off, none⟩ /\ b < w.heap.size /\ w.cell? ⟨b, off + j, none⟩ = some (.string ⟨(l.getD j []).toArray⟩) := by
 obtain ⟨a', c, e, hc⟩ := h
 obtain ⟨b, off, ea, hb, hcell⟩ := hc j hj
 cases e
 refine ⟨b, off, ea, hb, ?_⟩
 rw [List.getD_eq_getElem?_getD, List.getElem?_eq_getElem hj]
 exact hcell
theorem Strs.slice {w : World} {v : Value} {l : List V.Bs} (h : Strs w v l) : ∃ a cap, v = .slice a l.length cap := by
 obtain ⟨a, c, e, _⟩ := h
 exact ⟨a, c, e⟩
theorem Strs.head {w : World} {v : Value} {l : List V.Bs} (h : Strs w v l) (h0 : 0 < l.length) :
  ∃ b off cap, v = .slice (some ⟨b, off, none⟩) l.length cap /\ b < w.heap.size /\ ∀ j, j < l.length -> w.cell? ⟨b, off + j, none⟩ = some (.string ⟨(l.getD j []).toArray⟩) := by
 obtain ⟨a, c, e, hc⟩ := h
 obtain ⟨b, off, rfl, hb, _⟩ := hc 0 h0
 refine ⟨b, off, c, e, hb, fun j hj => ?_⟩
 obtain ⟨b', off', ea, _, hcell⟩ := hc j hj
 cases ea
 rw [List.getD_eq_getElem?_getD, List.getElem?_eq_getElem hj]
 exact hcell
open Go.RowKit
open Go.RowKit
theorem zp3 (k : Nat) (w : World) : (method (k + 1) 190 (.agg #[]) "admission/version.valid").run Tryz.prog w = .ok (257, .agg #[]) w := by kernel_rfl
theorem zpe (k : Nat) (w : World) : (method (k + 1) 191 (.agg #[]) "admission/version.valid").run Tryz.prog w = .ok (283, .agg #[]) w := by kernel_rfl
theorem zp2 (k : Nat) (w : World) : (method (k + 1) 192 (.agg #[]) "admission/version.valid").run Tryz.prog w = .ok (295, .agg #[]) w := by kernel_rfl
theorem zv7 {P : Prop} (h : P := by
 go_enter Tryz.func124, Tryz.ntmps124
 go_wp2
 go_ret
 exact ⟨rfl, rfl⟩) : P := h
theorem zic (w : World) : Calls Tryz.prog 124 #[.int .i64 1] w fun e w' => e = .returned (.iface 190 (.agg #[])) /\ w = w' := by
 exact zv7
theorem zh4 (w : World) : Calls Tryz.prog 124 #[.int .i64 2] w fun e w' => e = .returned (.iface 191 (.agg #[])) /\ w = w' := by
 exact zv7
theorem zh3 (w : World) : Calls Tryz.prog 124 #[.int .i64 3] w fun e w' => e = .returned (.iface 192 (.agg #[])) /\ w = w' := by
 exact zv7
theorem zse (n : Int) (h1 : n ≠ 1) (h2 : n ≠ 2) (h3 : n ≠ 3) (w : World) : Calls Tryz.prog 124 #[.int .i64 n] w fun e w' => e = .returned .nilIface /\ w = w' := by
 have b1 : (n == 1) = false := by simpa using h1
 have b2 : (n == 2) = false := by simpa using h2
 have b3 : (n == 3) = false := by simpa using h3
 exact zv7
theorem zwh {P : Prop} (h : P := by
 rintro e w' ⟨rfl, rfl⟩
 go_wp2
 go_ret
 exact ⟨zd HF.out.symm, zut _ _⟩) : P := h
theorem zyk {P : Prop} (h : P := by
 rintro e w1 ⟨rfl, hb⟩
 go_wp2
 go_ret
 exact ⟨zd (by rw [HF.out]), hb⟩) : P := h
theorem zjp (s : ByteArray) (w : World) (hm : zg w) (hs : s.size ≤ maxLen) :
  Calls Tryz.prog 84 #[.int .i64 1, .string s] w fun e w' => e = .returned (.bool (V.valid 1 s.data.toList)) /\ Below w.heap.size w w' := by
 unfold maxLen at hs
 have hmeth := zp3
 by_cases h1 : 1 ≤ s.size
 ·have b1 : (1 : Int) ≤ (s.size : Int) := by omega
  by_cases h2 : s.size ≤ 64
  ·have HF : Hid (V.valid 1 s.data.toList = (V.zm s.data.toList).isSome) := zuq (by unfold V.valid V.yk; rw [zf]; simp [h1, h2])
   have b2 : (s.size : Int) ≤ 64 := by omega
   go_enter Tryz.func84, Tryz.ntmps84
   go_wp2_with fail
   refine (zic _).mono ?_
   rintro e w' ⟨rfl, rfl⟩
   go_wp2_with fail
   refine (zni s _ hm (by omega)).mono ?_
   exact zyk
  ·have HF : Hid (V.valid 1 s.data.toList = false) := zuq (by unfold V.valid; rw [zf]; simp [h2])
   have b2 : ¬ (s.size : Int) ≤ 64 := by omega
   go_enter Tryz.func84, Tryz.ntmps84
   go_wp2_with fail
   refine (zic _).mono ?_
   exact zwh
 ·have HF : Hid (V.valid 1 s.data.toList = false) := zuq (by unfold V.valid; rw [zf]; simp [h1])
  have b1 : ¬ (1 : Int) ≤ (s.size : Int) := by omega
  go_enter Tryz.func84, Tryz.ntmps84
  go_wp2_with fail
  refine (zic _).mono ?_
  exact zwh
theorem zio (s : ByteArray) (w : World) (hm : zg w) (hs : s.size ≤ maxLen) :
  Calls Tryz.prog 84 #[.int .i64 2, .string s] w fun e w' => e = .returned (.bool (V.valid 2 s.data.toList)) /\ Below w.heap.size w w' := by
 unfold maxLen at hs
 have hmeth := zpe
 by_cases h1 : 1 ≤ s.size
 ·have b1 : (1 : Int) ≤ (s.size : Int) := by omega
  by_cases h2 : s.size ≤ 64
  ·have HF : Hid (V.valid 2 s.data.toList = (V.zq s.data.toList).isSome) := zuq (by unfold V.valid V.yk; rw [zf]; simp [h1, h2])
   have b2 : (s.size : Int) ≤ 64 := by omega
   go_enter Tryz.func84, Tryz.ntmps84
   go_wp2_with fail
   refine (zh4 _).mono ?_
   rintro e w' ⟨rfl, rfl⟩
   go_wp2_with fail
   refine (zor s _ hm (by omega)).mono ?_
   exact zyk
  ·have HF : Hid (V.valid 2 s.data.toList = false) := zuq (by unfold V.valid; rw [zf]; simp [h2])
   have b2 : ¬ (s.size : Int) ≤ 64 := by omega
   go_enter Tryz.func84, Tryz.ntmps84
   go_wp2_with fail
   refine (zh4 _).mono ?_
   exact zwh
 ·have HF : Hid (V.valid 2 s.data.toList = false) := zuq (by unfold V.valid; rw [zf]; simp [h1])
  have b1 : ¬ (1 : Int) ≤ (s.size : Int) := by omega
  go_enter Tryz.func84, Tryz.ntmps84
  go_wp2_with fail
  refine (zh4 _).mono ?_
  exact zwh
theorem zkf (s : ByteArray) (w : World) (_hm : zg w) (hs : s.size ≤ maxLen) :
  Calls Tryz.prog 84 #[.int .i64 3, .string s] w fun e w' => e = .returned (.bool (V.valid 3 s.data.toList)) /\ Below w.heap.size w w' := by
 unfold maxLen at hs
 have hmeth := zp2
 by_cases h1 : 1 ≤ s.size
 ·have b1 : (1 : Int) ≤ (s.size : Int) := by omega
  by_cases h2 : s.size ≤ 64
  ·have HF : Hid (V.valid 3 s.data.toList = V.zev s.data.toList) := zuq (by unfold V.valid V.yk; rw [zf]; simp [h1, h2])
   have b2 : (s.size : Int) ≤ 64 := by omega
   go_enter Tryz.func84, Tryz.ntmps84
   go_wp2_with fail
   refine (zh3 _).mono ?_
   rintro e w' ⟨rfl, rfl⟩
   go_wp2_with fail
   refine (zn4 s _ (by unfold maxLen; omega)).mono ?_
   exact zyk
  ·have HF : Hid (V.valid 3 s.data.toList = false) := zuq (by unfold V.valid; rw [zf]; simp [h2])
   have b2 : ¬ (s.size : Int) ≤ 64 := by omega
   go_enter Tryz.func84, Tryz.ntmps84
   go_wp2_with fail
   refine (zh3 _).mono ?_
   exact zwh
 ·have HF : Hid (V.valid 3 s.data.toList = false) := zuq (by unfold V.valid; rw [zf]; simp [h1])
  have b1 : ¬ (1 : Int) ≤ (s.size : Int) := by omega
  go_enter Tryz.func84, Tryz.ntmps84
  go_wp2_with fail
  refine (zh3 _).mono ?_
  exact zwh
theorem zqy (n : Int) (h1 : n ≠ 1) (h2 : n ≠ 2) (h3 : n ≠ 3) (s : ByteArray) (w : World) :
  Calls Tryz.prog 84 #[.int .i64 n, .string s] w fun e w' => e = .returned (.bool (V.valid n s.data.toList)) /\ Below w.heap.size w w' := by
 have HF : Hid (V.valid n s.data.toList = false) := zuq (by unfold V.valid V.yk; simp [h1, h2, h3])
 go_enter Tryz.func84, Tryz.ntmps84
 go_wp2_with fail
 refine (zse n h1 h2 h3 _).mono ?_
 rintro e w' ⟨rfl, rfl⟩
 go_wp2
 go_ret
 exact ⟨zd HF.out.symm, zut _ _⟩
theorem uf (n : Int) (s : ByteArray) (w : World) (hm : zg w) (hs : s.size ≤ maxLen) :
  Calls Tryz.prog 84 #[.int .i64 n, .string s] w fun e w' => e = .returned (.bool (V.valid n s.data.toList)) /\ Below w.heap.size w w' := by
 by_cases h1 : n = 1
 ·subst h1; exact zjp s w hm hs
 ·by_cases h2 : n = 2
  ·subst h2; exact zio s w hm hs
  ·by_cases h3 : n = 3
   ·subst h3; exact zkf s w hm hs
   ·exact zqy n h1 h2 h3 s w
theorem zuf (k : Nat) (w : World) : (method (k + 1) 190 (.agg #[]) "admission/version.compare").run Tryz.prog w = .ok (255, .agg #[]) w := by kernel_rfl
theorem zuc (k : Nat) (w : World) : (method (k + 1) 191 (.agg #[]) "admission/version.compare").run Tryz.prog w = .ok (281, .agg #[]) w := by kernel_rfl
theorem zt8 (k : Nat) (w : World) : (method (k + 1) 192 (.agg #[]) "admission/version.compare").run Tryz.prog w = .ok (293, .agg #[]) w := by kernel_rfl
open Go.RowKit
def zqv (T : Nat) (ok : Bool) (e : Ending) : Prop :=
 e = .returned (if ok then .tuple #[.func (.method "admission/version.compare") #[.iface T (.agg #[])] #[], .int .i64 0] else .tuple #[.nilFunc, .int .i64 1])
theorem zwf {P : Prop} (h : P := by
 have HF := zuq (NEXT.out HVX.out)
 go_roundw
 case rel => exact ⟨k + 1, by omega, by go_num, HF.out, HB1.out⟩
 case measure => simp [intOf]; omega) : P := h
theorem zx9 {P : Prop} (h : P := by
 have HF := zuq (BAD.out HVX.out)
 go_ret2
 exact ⟨by rw [HF.out]; rfl, HB1.out⟩) : P := h
theorem zks (v : Value) (l : List V.Bs) (w : World) (hm : zg w) (hv : Strs w v l) (hl : l.length ≤ maxLen) (hx : ∀ x ∈ l, x.length ≤ maxLen) :
  Calls Tryz.prog 155 #[.int .i64 1, v] w fun e w' =>
   zqv 190 (l.all (V.valid 1)) e /\ Below w.heap.size w w' := by
 obtain ⟨a, cap, rfl, hc⟩ := hv
 unfold maxLen at hl
 have HC := zuq hc
 have HX := zuq hx
 have HM := zuq hm
 clear hc hx hm
 go_enter Tryz.func155, Tryz.ntmps155
 go_wp2_with fail
 refine (zic _).mono ?_
 rintro e w' ⟨rfl, rfl⟩
 go_wp2
 go_loopw [15] (fun i wr => ∃ k : Nat, k ≤ l.length /\ i = .int .i64 k /\ (∀ j, j < k -> V.valid 1 (l.getD j []) = true) /\ Below w.heap.size w wr) (fun i _ => l.length - (intOf i).toNat)
 case atStart => exact ⟨0, Nat.zero_le _, rfl, fun j hj => by omega, zut _ _⟩
 case round =>
  obtain ⟨k, hk, rfl, hz, hB⟩ := hrel
  have HZ := zuq hz
  have HB := zuq hB
  clear hz hB
  by_cases hlt : k < l.length
  ·obtain ⟨b, o, ha, hb, hcell⟩ := HC.out k hlt
   have hx1 := (HB.out.cell (p := ⟨b, o + k, none⟩) hb).trans hcell
   rw [← jq hlt] at hx1
   have s1 := HX.out _ (List.getElem_mem hlt)
   rw [← jq hlt] at s1
   have BAD : Hid (V.valid 1 (l.getD k []) = false -> l.all (V.valid 1) = false) := zuq (fun h => by
     rw [List.all_eq_false]
     exact ⟨l[k], List.getElem_mem hlt, by rw [← jq hlt, h]; simp⟩)
   have NEXT : Hid (V.valid 1 (l.getD k []) = true -> ∀ j, j < k + 1 -> V.valid 1 (l.getD j []) = true) := zuq (fun h0 j hj => by
     by_cases e : j = k
     · subst e; exact h0
     · exact HZ.out j (by omega))
   subst ha
   clear hcell
   generalize l.getD k [] = x at *
   rcases hvx : V.valid 1 x with _ | _
   all_goals
    have HVX := zuq hvx
    clear hvx
    go_wp2_with fail
    refine (zjp ⟨x.toArray⟩ _ (HM.out.below HB.out) s1).mono ?_
    rintro e w1 ⟨rfl, hb1⟩
    simp only [HVX.out]
    have HB1 := zur HB hb1
    clear hb1
    go_wp2
   ·exact zx9
   ·exact zwf
  ·have HF : Hid (l.all (V.valid 1) = true) := zuq (by
     rw [List.all_eq_true]
     intro x hx
     obtain ⟨j, hj, e⟩ := List.getElem_of_mem hx
     have := HZ.out j (by omega)
     rw [jq hj] at this
     rw [← e]; exact this)
   go_wp2
   go_ret2
   exact ⟨by rw [HF.out]; rfl, HB.out⟩
theorem zi8 (v : Value) (l : List V.Bs) (w : World) (hm : zg w) (hv : Strs w v l) (hl : l.length ≤ maxLen) (hx : ∀ x ∈ l, x.length ≤ maxLen) :
  Calls Tryz.prog 155 #[.int .i64 2, v] w fun e w' =>
   zqv 191 (l.all (V.valid 2)) e /\ Below w.heap.size w w' := by
 obtain ⟨a, cap, rfl, hc⟩ := hv
 unfold maxLen at hl
 have HC := zuq hc
 have HX := zuq hx
 have HM := zuq hm
 clear hc hx hm
 go_enter Tryz.func155, Tryz.ntmps155
 go_wp2_with fail
 refine (zh4 _).mono ?_
 rintro e w' ⟨rfl, rfl⟩
 go_wp2
 go_loopw [15] (fun i wr => ∃ k : Nat, k ≤ l.length /\ i = .int .i64 k /\ (∀ j, j < k -> V.valid 2 (l.getD j []) = true) /\ Below w.heap.size w wr) (fun i _ => l.length - (intOf i).toNat)
 case atStart => exact ⟨0, Nat.zero_le _, rfl, fun j hj => by omega, zut _ _⟩
 case round =>
  obtain ⟨k, hk, rfl, hz, hB⟩ := hrel
  have HZ := zuq hz
  have HB := zuq hB
  clear hz hB
  by_cases hlt : k < l.length
  ·obtain ⟨b, o, ha, hb, hcell⟩ := HC.out k hlt
   have hx1 := (HB.out.cell (p := ⟨b, o + k, none⟩) hb).trans hcell
   rw [← jq hlt] at hx1
   have s1 := HX.out _ (List.getElem_mem hlt)
   rw [← jq hlt] at s1
   have BAD : Hid (V.valid 2 (l.getD k []) = false -> l.all (V.valid 2) = false) := zuq (fun h => by
     rw [List.all_eq_false]
     exact ⟨l[k], List.getElem_mem hlt, by rw [← jq hlt, h]; simp⟩)
   have NEXT : Hid (V.valid 2 (l.getD k []) = true -> ∀ j, j < k + 1 -> V.valid 2 (l.getD j []) = true) := zuq (fun h0 j hj => by
     by_cases e : j = k
     · subst e; exact h0
     · exact HZ.out j (by omega))
   subst ha
   clear hcell
   generalize l.getD k [] = x at *
   rcases hvx : V.valid 2 x with _ | _
   all_goals
    have HVX := zuq hvx
    clear hvx
    go_wp2_with fail
    refine (zio ⟨x.toArray⟩ _ (HM.out.below HB.out) s1).mono ?_
    rintro e w1 ⟨rfl, hb1⟩
    simp only [HVX.out]
    have HB1 := zur HB hb1
    clear hb1
    go_wp2
   ·exact zx9
   ·exact zwf
  ·have HF : Hid (l.all (V.valid 2) = true) := zuq (by
     rw [List.all_eq_true]
     intro x hx
     obtain ⟨j, hj, e⟩ := List.getElem_of_mem hx
     have := HZ.out j (by omega)
     rw [jq hj] at this
     rw [← e]; exact this)
   go_wp2
   go_ret2
   exact ⟨by rw [HF.out]; rfl, HB.out⟩
theorem zj1 (v : Value) (l : List V.Bs) (w : World) (hm : zg w) (hv : Strs w v l) (hl : l.length ≤ maxLen) (hx : ∀ x ∈ l, x.length ≤ maxLen) :
  Calls Tryz.prog 155 #[.int .i64 3, v] w fun e w' =>
   zqv 192 (l.all (V.valid 3)) e /\ Below w.heap.size w w' := by
 obtain ⟨a, cap, rfl, hc⟩ := hv
 unfold maxLen at hl
 have HC := zuq hc
 have HX := zuq hx
 have HM := zuq hm
 clear hc hx hm
 go_enter Tryz.func155, Tryz.ntmps155
 go_wp2_with fail
 refine (zh3 _).mono ?_
 rintro e w' ⟨rfl, rfl⟩
 go_wp2
 go_loopw [15] (fun i wr => ∃ k : Nat, k ≤ l.length /\ i = .int .i64 k /\ (∀ j, j < k -> V.valid 3 (l.getD j []) = true) /\ Below w.heap.size w wr) (fun i _ => l.length - (intOf i).toNat)
 case atStart => exact ⟨0, Nat.zero_le _, rfl, fun j hj => by omega, zut _ _⟩
 case round =>
  obtain ⟨k, hk, rfl, hz, hB⟩ := hrel
  have HZ := zuq hz
  have HB := zuq hB
  clear hz hB
  by_cases hlt : k < l.length
  ·obtain ⟨b, o, ha, hb, hcell⟩ := HC.out k hlt
   have hx1 := (HB.out.cell (p := ⟨b, o + k, none⟩) hb).trans hcell
   rw [← jq hlt] at hx1
   have s1 := HX.out _ (List.getElem_mem hlt)
   rw [← jq hlt] at s1
   have BAD : Hid (V.valid 3 (l.getD k []) = false -> l.all (V.valid 3) = false) := zuq (fun h => by
     rw [List.all_eq_false]
     exact ⟨l[k], List.getElem_mem hlt, by rw [← jq hlt, h]; simp⟩)
   have NEXT : Hid (V.valid 3 (l.getD k []) = true -> ∀ j, j < k + 1 -> V.valid 3 (l.getD j []) = true) := zuq (fun h0 j hj => by
     by_cases e : j = k
     · subst e; exact h0
     · exact HZ.out j (by omega))
   subst ha
   clear hcell
   generalize l.getD k [] = x at *
   rcases hvx : V.valid 3 x with _ | _
   all_goals
    have HVX := zuq hvx
    clear hvx
    go_wp2_with fail
    refine (zkf ⟨x.toArray⟩ _ (HM.out.below HB.out) s1).mono ?_
    rintro e w1 ⟨rfl, hb1⟩
    simp only [HVX.out]
    have HB1 := zur HB hb1
    clear hb1
    go_wp2
   ·exact zx9
   ·exact zwf
  ·have HF : Hid (l.all (V.valid 3) = true) := zuq (by
     rw [List.all_eq_true]
     intro x hx
     obtain ⟨j, hj, e⟩ := List.getElem_of_mem hx
     have := HZ.out j (by omega)
     rw [jq hj] at this
     rw [← e]; exact this)
   go_wp2
   go_ret2
   exact ⟨by rw [HF.out]; rfl, HB.out⟩
theorem zr4 (n : Int) (h1 : n ≠ 1) (h2 : n ≠ 2) (h3 : n ≠ 3) (v : Value) (w : World) :
  Calls Tryz.prog 155 #[.int .i64 n, v] w fun e w' => e = .returned (.tuple #[.nilFunc, .int .i64 14]) /\ w = w' := by
 go_enter Tryz.func155, Tryz.ntmps155
 go_wp2_with fail
 refine (zse n h1 h2 h3 _).mono ?_
 rintro e w' ⟨rfl, rfl⟩
 go_wp2
 go_ret2
 exact ⟨rfl, rfl⟩
theorem zjg (s t : ByteArray) (w : World) : Strs (w.alloc (.cells #[.string s, .string t] 9)) (.slice (some ⟨w.heap.size, 0, none⟩) 2 2) [s.data.toList, t.data.toList] := by
 have h := Strs.split w [s.data.toList, t.data.toList] 9
 have e : strCells [s.data.toList, t.data.toList] = #[.string s, .string t] := by
  unfold strCells; simp
 rw [e] at h
 exact h
theorem zgm {s t : ByteArray} (hs : s.size ≤ maxLen) (ht : t.size ≤ maxLen) : ∀ x ∈ [s.data.toList, t.data.toList], x.length ≤ maxLen := by
 intro x hx
 simp at hx
 rcases hx with rfl | rfl
 ·rw [Array.length_toList]; exact hs
 ·rw [Array.length_toList]; exact ht
theorem valid_len {n : Int} {v : V.Bs} (h : V.valid n v = true) : v.length ≤ 64 := by
 unfold V.valid at h; simp at h; omega
theorem zmh {v : V.Bs} (h : V.valid 1 v = true) : (V.zm v).isSome = true := by
 unfold V.valid V.yk at h; simp at h; exact h.2
theorem zlx {v : V.Bs} (h : V.valid 2 v = true) : (V.zq v).isSome = true := by
 unfold V.valid V.yk at h; simp at h; exact h.2
theorem zwb {P : Prop} (h : P := by
 rintro e w1 ⟨he, hb1⟩
 rw [HV.out] at he
 obtain rfl := he
 have HB1 := zur HB0 hb1
 clear hb1
 go_wp2
 go_ret2
 exact ⟨by rw [H1.out]; rfl, HB1.out⟩) : P := h
theorem zwn {P : Prop} (h : P := by
 rintro e w2 ⟨rfl, hb2⟩
 have HB2 := zur HB1 hb2
 clear hb2
 go_wp2
 go_ret2
 exact ⟨by rw [H1.out, HCV.out]; rfl, HB2.out⟩) : P := h
theorem zob (s t : ByteArray) (w : World) (hm : zg w) (hs : s.size ≤ maxLen) (ht : t.size ≤ maxLen) :
  Calls Tryz.prog 125 #[.int .i64 1, .string s, .string t] w fun e w' =>
   e = .returned (.tuple #[.int .i64 (V.qm 1 s.data.toList t.data.toList).1, .int .i64 (V.qm 1 s.data.toList t.data.toList).2]) /\ Below w.heap.size w w' := by
 have hS := zjg s t w
 have hb0 : Below w.heap.size w (w.alloc (.cells #[.string s, .string t] 9)) := (zut _ w).alloc (zus _) _
 have hm0 := hm.below hb0
 have HF : Hid (V.qm 1 s.data.toList t.data.toList = if V.valid 1 s.data.toList && V.valid 1 t.data.toList then (V.cmpV 1 s.data.toList t.data.toList, 0) else (0, 1)) := rfl
 have HS := zuq hS
 have HB0 := zuq hb0
 clear hS hb0
 rcases hv : (V.valid 1 s.data.toList && V.valid 1 t.data.toList) with _ | _
 ·rw [hv] at HF
  have HV : Hid ([s.data.toList, t.data.toList].all (V.valid 1) = false) := zuq (by simpa using hv)
  have H1 := zuq (show V.qm 1 s.data.toList t.data.toList = (0, 1) from HF.out)
  clear hv HF
  go_enter Tryz.func125, Tryz.ntmps125
  go_wp2_with fail
  refine (zks _ _ _ hm0 HS.out (by show 2 ≤ _; unfold maxLen; omega) (zgm hs ht)).mono ?_
  exact zwb
 ·have HV : Hid ([s.data.toList, t.data.toList].all (V.valid 1) = true) := zuq (by simpa using hv)
  rw [hv] at HF
  have H1 := zuq (show V.qm 1 s.data.toList t.data.toList = (V.cmpV 1 s.data.toList t.data.toList, 0) from HF.out)
  rw [Bool.and_eq_true] at hv
  have h64 := valid_len hv.1
  have h65 := valid_len hv.2
  rw [zf] at h64 h65
  have HSV := zuq hv
  clear hv HF
  obtain ⟨⟨la, pa⟩, hpa⟩ := Option.isSome_iff_exists.1 (zmh HSV.out.1)
  obtain ⟨⟨lb, pb⟩, hpb⟩ := Option.isSome_iff_exists.1 (zmh HSV.out.2)
  have HCV : Hid (V.cmpV 1 s.data.toList t.data.toList = V.jc (la, pa) (lb, pb)) := zuq (by unfold V.cmpV; rw [if_pos rfl, hpa, hpb])
  have HPA := zuq hpa
  have HPB := zuq hpb
  clear hpa hpb
  have hmeth := zuf
  go_enter Tryz.func125, Tryz.ntmps125
  go_wp2_with fail
  refine (zks _ _ _ hm0 HS.out (by show 2 ≤ _; unfold maxLen; omega) (zgm hs ht)).mono ?_
  rintro e w1 ⟨he, hb1⟩
  rw [HV.out] at he
  obtain rfl := he
  have hm1 := hm0.below hb1
  have HB1 := zur HB0 hb1
  clear hb1
  go_wp2_with fail
  refine (ziz s t la pa lb pb _ hm1 (by omega) (by omega) HPA.out HPB.out).mono ?_
  exact zwn
theorem zoe (s t : ByteArray) (w : World) (hm : zg w) (hs : s.size ≤ maxLen) (ht : t.size ≤ maxLen) :
  Calls Tryz.prog 125 #[.int .i64 2, .string s, .string t] w fun e w' =>
   e = .returned (.tuple #[.int .i64 (V.qm 2 s.data.toList t.data.toList).1, .int .i64 (V.qm 2 s.data.toList t.data.toList).2]) /\ Below w.heap.size w w' := by
 have hS := zjg s t w
 have hb0 : Below w.heap.size w (w.alloc (.cells #[.string s, .string t] 9)) := (zut _ w).alloc (zus _) _
 have hm0 := hm.below hb0
 have HF : Hid (V.qm 2 s.data.toList t.data.toList = if V.valid 2 s.data.toList && V.valid 2 t.data.toList then (V.cmpV 2 s.data.toList t.data.toList, 0) else (0, 1)) := rfl
 have HS := zuq hS
 have HB0 := zuq hb0
 clear hS hb0
 rcases hv : (V.valid 2 s.data.toList && V.valid 2 t.data.toList) with _ | _
 ·rw [hv] at HF
  have HV : Hid ([s.data.toList, t.data.toList].all (V.valid 2) = false) := zuq (by simpa using hv)
  have H1 := zuq (show V.qm 2 s.data.toList t.data.toList = (0, 1) from HF.out)
  clear hv HF
  go_enter Tryz.func125, Tryz.ntmps125
  go_wp2_with fail
  refine (zi8 _ _ _ hm0 HS.out (by show 2 ≤ _; unfold maxLen; omega) (zgm hs ht)).mono ?_
  exact zwb
 ·have HV : Hid ([s.data.toList, t.data.toList].all (V.valid 2) = true) := zuq (by simpa using hv)
  rw [hv] at HF
  have H1 := zuq (show V.qm 2 s.data.toList t.data.toList = (V.cmpV 2 s.data.toList t.data.toList, 0) from HF.out)
  rw [Bool.and_eq_true] at hv
  have h64 := valid_len hv.1
  have h65 := valid_len hv.2
  rw [zf] at h64 h65
  have HSV := zuq hv
  clear hv HF
  obtain ⟨⟨x0, x1, x2⟩, hpa⟩ := Option.isSome_iff_exists.1 (zlx HSV.out.1)
  obtain ⟨⟨y0, y1, y2⟩, hpb⟩ := Option.isSome_iff_exists.1 (zlx HSV.out.2)
  have HCV : Hid (V.cmpV 2 s.data.toList t.data.toList = V.uk (x0, x1, x2) (y0, y1, y2)) := zuq (by unfold V.cmpV; rw [if_neg (by decide), if_pos rfl, hpa, hpb])
  have HPA := zuq hpa
  have HPB := zuq hpb
  clear hpa hpb
  have hmeth := zuc
  go_enter Tryz.func125, Tryz.ntmps125
  go_wp2_with fail
  refine (zi8 _ _ _ hm0 HS.out (by show 2 ≤ _; unfold maxLen; omega) (zgm hs ht)).mono ?_
  rintro e w1 ⟨he, hb1⟩
  rw [HV.out] at he
  obtain rfl := he
  have hm1 := hm0.below hb1
  have HB1 := zur HB0 hb1
  clear hb1
  go_wp2_with fail
  refine (zjo s t x0 x1 x2 y0 y1 y2 _ hm1 (by omega) (by omega) HPA.out HPB.out).mono ?_
  exact zwn
theorem znw (s t : ByteArray) (w : World) (hm : zg w) (hs : s.size ≤ maxLen) (ht : t.size ≤ maxLen) :
  Calls Tryz.prog 125 #[.int .i64 3, .string s, .string t] w fun e w' =>
   e = .returned (.tuple #[.int .i64 (V.qm 3 s.data.toList t.data.toList).1, .int .i64 (V.qm 3 s.data.toList t.data.toList).2]) /\ Below w.heap.size w w' := by
 have hS := zjg s t w
 have hb0 : Below w.heap.size w (w.alloc (.cells #[.string s, .string t] 9)) := (zut _ w).alloc (zus _) _
 have hm0 := hm.below hb0
 have HF : Hid (V.qm 3 s.data.toList t.data.toList = if V.valid 3 s.data.toList && V.valid 3 t.data.toList then (V.cmpV 3 s.data.toList t.data.toList, 0) else (0, 1)) := rfl
 have HS := zuq hS
 have HB0 := zuq hb0
 clear hS hb0
 rcases hv : (V.valid 3 s.data.toList && V.valid 3 t.data.toList) with _ | _
 ·rw [hv] at HF
  have HV : Hid ([s.data.toList, t.data.toList].all (V.valid 3) = false) := zuq (by simpa using hv)
  have H1 := zuq (show V.qm 3 s.data.toList t.data.toList = (0, 1) from HF.out)
  clear hv HF
  go_enter Tryz.func125, Tryz.ntmps125
  go_wp2_with fail
  refine (zj1 _ _ _ hm0 HS.out (by show 2 ≤ _; unfold maxLen; omega) (zgm hs ht)).mono ?_
  exact zwb
 ·have HV : Hid ([s.data.toList, t.data.toList].all (V.valid 3) = true) := zuq (by simpa using hv)
  rw [hv] at HF
  have H1 := zuq (show V.qm 3 s.data.toList t.data.toList = (V.cmpV 3 s.data.toList t.data.toList, 0) from HF.out)
  rw [Bool.and_eq_true] at hv
  have h64 := valid_len hv.1
  have h65 := valid_len hv.2
  rw [zf] at h64 h65
  have HSV := zuq hv
  clear hv HF
  have HCV : Hid (V.cmpV 3 s.data.toList t.data.toList = V.za8 s.data.toList t.data.toList) := zuq (by unfold V.cmpV; rw [if_neg (by decide), if_neg (by decide)])
  have hmeth := zt8
  go_enter Tryz.func125, Tryz.ntmps125
  go_wp2_with fail
  refine (zj1 _ _ _ hm0 HS.out (by show 2 ≤ _; unfold maxLen; omega) (zgm hs ht)).mono ?_
  rintro e w1 ⟨he, hb1⟩
  rw [HV.out] at he
  obtain rfl := he
  have hm1 := hm0.below hb1
  have HB1 := zur HB0 hb1
  clear hb1
  go_wp2_with fail
  refine (zkz s t _ hm1 (by omega) (by omega)).mono ?_
  exact zwn
theorem zop (n : Int) (h1 : n ≠ 1) (h2 : n ≠ 2) (h3 : n ≠ 3) (s t : ByteArray) (w : World) :
  Calls Tryz.prog 125 #[.int .i64 n, .string s, .string t] w fun e w' =>
   e = .returned (.tuple #[.int .i64 (V.qm n s.data.toList t.data.toList).1, .int .i64 (V.qm n s.data.toList t.data.toList).2]) /\ Below w.heap.size w w' := by
 have HF : Hid (V.qm n s.data.toList t.data.toList = (0, 14)) := zuq (by unfold V.qm V.scheme; simp [h1, h2, h3])
 go_enter Tryz.func125, Tryz.ntmps125
 go_wp2_with fail
 refine (zr4 n h1 h2 h3 _ _).mono ?_
 rintro e w' ⟨rfl, rfl⟩
 go_wp2
 go_ret2
 exact ⟨by rw [HF.out]; rfl, (zut _ _).alloc (zus _) _⟩
theorem zqo (n : Int) (s t : ByteArray) (w : World) (hm : zg w) (hs : s.size ≤ maxLen) (ht : t.size ≤ maxLen) :
  Calls Tryz.prog 125 #[.int .i64 n, .string s, .string t] w fun e w' =>
   e = .returned (.tuple #[.int .i64 (V.qm n s.data.toList t.data.toList).1, .int .i64 (V.qm n s.data.toList t.data.toList).2]) /\ Below w.heap.size w w' := by
 by_cases h1 : n = 1
 ·subst h1; exact zob s t w hm hs ht
 ·by_cases h2 : n = 2
  ·subst h2; exact zoe s t w hm hs ht
  ·by_cases h3 : n = 3
   ·subst h3; exact znw s t w hm hs ht
   ·exact zop n h1 h2 h3 s t w
open Go.RowKit
end Go.Proofs.YtnhfaincdabdkaaGreatDoor
