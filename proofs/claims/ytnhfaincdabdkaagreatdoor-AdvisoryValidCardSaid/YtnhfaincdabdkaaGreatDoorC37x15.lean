/-
  Lemmas for the law.
-/
import Derived.Test.YtnhfaincdabdkaaGreatDoorC37x14
import Derived.Test.YtnhfaincdabdkaaGreatDoorC37x13
import Derived.Test.YtnhfaincdabdkaaGreatDoorC37x03
import Derived.Test.YtnhfaincdabdkaaGreatDoorC37x04
import Derived.Test.YtnhfaincdabdkaaGreatDoorC37x11
import Derived.Lib.BufSteps
import Derived.OwnWalk
set_option linter.all false
set_option maxRecDepth 100000
set_option maxHeartbeats 3200000
namespace Go.Proofs.YtnhfaincdabdkaaGreatDoor
open Go.RowKit
theorem zf1 {E v a b c : V.Bs} (h : V.ja E v = some (a, b, c)) : a = E /\ b.length ≤ v.length /\ c.length ≤ v.length := by
 unfold V.ja at h
 split at h
 ·split at h
  ·simp at h; obtain ⟨rfl, rfl, rfl⟩ := h; simp
  ·cases h
 ·split at h
  ·split at h
   ·simp at h; obtain ⟨rfl, rfl, rfl⟩ := h; simp; omega
   ·cases h
  ·cases h
theorem zes {v a b c : V.Bs} (h : V.zn v = some (a, b, c)) : a.length ≤ v.length /\ b.length ≤ v.length /\ c.length ≤ v.length := by
 unfold V.zn at h
 have hl := xz 58 v
 split at h
 ·split at h
  ·have := zf1 h; obtain ⟨rfl, h1, h2⟩ := this; omega
  ·cases h
 ·have := zf1 h; obtain ⟨rfl, h1, h2⟩ := this; simp; omega
theorem zhl (s t : ByteArray) (x0 x1 x2 y0 y1 y2 : V.Bs) (w : World) (hm : zk w) (hs : s.size ≤ 1000) (ht : t.size ≤ 1000)
  (hp : V.zn s.data.toList = some (x0, x1, x2)) (hq : V.zn t.data.toList = some (y0, y1, y2)) :
  Calls Tryz.prog 281 #[.agg #[], .string s, .string t] w fun e w' => e = .returned (.int .i64 (V.yx (x0, x1, x2) (y0, y1, y2))) /\ Below w.heap.size w w' := by
 have HF : Hid (V.yx (x0, x1, x2) (y0, y1, y2) = V.orI [V.numbers x0 y0, V.qc x1 y1, V.qc x2 y2]) := rfl
 have hb0 : Below w.heap.size w (w.alloc (.cells #[] 191)) := (ztb _ w).alloc (zta _) _
 have hm0 := hm.below hb0
 have hlx := zes hp
 have hly := zes hq
 rw [zf] at hlx hly
 obtain ⟨lx0, lx1, lx2⟩ := hlx
 obtain ⟨ly0, ly1, ly2⟩ := hly
 have HP := zs8 hp
 have HQ := zs8 hq
 have HB0 := zs8 hb0
 clear hp hq hb0
 go_enter Tryz.func281, Tryz.ntmps281
 go_wp2_with fail
 refine (wm s _ hm0 hs).mono ?_
 rintro e w1 h
 obtain ⟨rfl, hb1⟩ := zbf h HP.out
 have hB1 := HB0.out.trans (hb1.mono HB0.out.size)
 have HB1 := zs8 hB1
 have hm1 := hm.below hB1
 clear h hb1 hB1
 go_wp2_with fail
 have hbc : Below w1.heap.size w1 (w1.alloc (.cells #[.string ⟨x0.toArray⟩, .string ⟨x1.toArray⟩, .string ⟨x2.toArray⟩] 288)) := (ztb _ _).alloc (zta _) _
 refine (wm t _ (hm1.below hbc) ht).mono ?_
 rintro e w2 h
 obtain ⟨rfl, hb2⟩ := zbf h HQ.out
 have hc2 : ∀ i, w2.cell? ⟨w1.heap.size, i, none⟩ = #[Value.string ⟨x0.toArray⟩, .string ⟨x1.toArray⟩, .string ⟨x2.toArray⟩][i]? := qr hb2 (by simp) (fun i => by rw [zd, if_pos rfl])
 have hB2 := hbc.trans (hb2.mono hbc.size)
 have hz2 : w1.heap.size < w2.heap.size := Nat.lt_of_lt_of_le (by simp) hb2.size
 have HB2 := zs9 HB1 hB2
 clear h hb2 hbc hB2
 go_wp2_with fail
 obtain ⟨W3, hW3⟩ : ∃ W3, W3 = w2.alloc (.cells #[.string ⟨y0.toArray⟩, .string ⟨y1.toArray⟩, .string ⟨y2.toArray⟩] 288) := ⟨_, rfl⟩
 rw [← hW3]
 have hb3 : Below w2.heap.size w2 W3 := by rw [hW3]; exact (ztb _ _).alloc (zta _) _
 have e : ∀ i, W3.cell? ⟨w1.heap.size, i, none⟩ = #[Value.string ⟨x0.toArray⟩, .string ⟨x1.toArray⟩, .string ⟨x2.toArray⟩][i]? := qr hb3 hz2 hc2
 have g : ∀ i, W3.cell? ⟨w2.heap.size, i, none⟩ = #[Value.string ⟨y0.toArray⟩, .string ⟨y1.toArray⟩, .string ⟨y2.toArray⟩][i]? := fun i => by rw [hW3, zd, if_pos rfl]
 have e0 := e 0
 have e1 := e 1
 have e2 := e 2
 have g0 := g 0
 have g1 := g 1
 have g2 := g 2
 simp at e0 e1 e2 g0 g1 g2
 have HB3 := zs9 HB2 hb3
 have hz3 : w2.heap.size < W3.heap.size := by rw [hW3]; simp
 have hz4 : w1.heap.size < W3.heap.size := by omega
 clear hW3 hb3 e g hc2 hm0 hm1 HB1 HB2 HB0
 go_region_held3 (fun W' => (W'.cell? ⟨w1.heap.size, 0, none⟩ = some (.string ⟨x0.toArray⟩) /\ W'.cell? ⟨w1.heap.size, 1, none⟩ = some (.string ⟨x1.toArray⟩) /\ W'.cell? ⟨w1.heap.size, 2, none⟩ = some (.string ⟨x2.toArray⟩) /\
     W'.cell? ⟨w2.heap.size, 0, none⟩ = some (.string ⟨y0.toArray⟩) /\ W'.cell? ⟨w2.heap.size, 1, none⟩ = some (.string ⟨y1.toArray⟩) /\ W'.cell? ⟨w2.heap.size, 2, none⟩ = some (.string ⟨y2.toArray⟩)))
  (first
    | go_keep
    | (go_split_ands
       refine ⟨?_, ?_, ?_, ?_, ?_, ?_⟩ <;> (refine zct hbq ?_; first | assumption | (simp only [World.cell?_drew]; assumption))))
  (first
    | (go_at_call 259; refine (vd _ _ _).mono ?_; rintro e wq ⟨rfl, hbq⟩)
    | (go_at_call 285; refine (texts_at _ _ _ (by omega) (by omega)).mono ?_; rintro e wq ⟨rfl, hbq⟩)
    | (go_at_call 112; refine (zlu _ [V.numbers x0 y0, V.qc x1 y1, V.qc x2 y2] _ (by simp) (zh1 _ _ _ _ _)).mono ?_; rintro e wq ⟨rfl, rfl⟩))
 rename_i wa hba wb hbb hS
 have hbx : Below W3.heap.size W3 wq := ((ztb W3.heap.size W3).drew).trans (Below.trans (show Below W3.heap.size W3.drew wa from hba) ((hbb.trans (hbq.mono hbb.size)).mono hba.size))
 have HB4 := zs9 HB3 hbx
 clear e0 e1 e2 g0 g1 g2 hba hbb hbq hbx hS HB3 hz2 hz3 hz4
 go_wp2
 go_ret
 exact ⟨zj HF.out.symm, HB4.out.alloc HB4.out.size _⟩
def zrj (l : List V.Bs) (w : World) (e : Ending) (w' : World) : Prop := ∃ v, e = .returned v /\ Strs w' v l /\ Below w.heap.size w w'
def lenOf : Value -> Nat
 | .slice _ n _ => n
 | _ => 0
theorem zph {L : List V.Bs} {k : Nat} (hk : k < L.length) (h : (V.value (L.getD k [])).isEmpty = true) : V.zw (L.take (k + 1)) = V.zw (L.take k) := by
 rw [List.take_succ_eq_append_getElem hk]
 rw [jp hk] at h
 exact V.zi8 _ _ h
theorem zoy {L : List V.Bs} {k : Nat} (hk : k < L.length) (h : (V.value (L.getD k [])).isEmpty = false) : V.zw (L.take (k + 1)) = L.take (k + 1) := by
 rw [List.take_succ_eq_append_getElem hk]
 rw [jp hk] at h
 exact V.zi2 _ _ h
theorem zl1 (s : ByteArray) (w : World) (hm : zk w) (hs : s.size ≤ 1000) :
  Calls Tryz.prog 296 #[.agg #[], .string s] w (zrj (V.jm s.data.toList) w) := by
 have hb0 : Below w.heap.size w (w.alloc (.cells #[] 192)) := (ztb _ w).alloc (zta _) _
 have hm0 := hm.below hb0
 obtain ⟨L, hL⟩ : ∃ L, V.ze 46 s.data.toList = L := ⟨_, rfl⟩
 have HP : Hid (V.jm s.data.toList = V.zw L) := zs8 (by unfold V.jm; rw [hL])
 have hlen : L.length ≤ s.size + 1 := by have := jh 46 s.data.toList; rw [hL, zf] at this; exact this
 have HL := zs8 hL
 have HB0 := zs8 hb0
 clear hL hb0
 go_enter Tryz.func296, Tryz.ntmps296
 go_wp2_with fail
 refine (kd s 46 _ hm0 (by omega)).mono ?_
 rintro e w1 ⟨rfl, hw1⟩
 simp only [HL.out, World.size_alloc] at hw1 ⊢
 have hz : w.heap.size + 1 < w1.heap.size := by rw [hw1]; simp
 have hcs : ∀ j, j < L.length -> w1.cell? ⟨w.heap.size + 1, j, none⟩ = some (.string ⟨(L.getD j []).toArray⟩) := fun j hj => by
  rw [hw1, zd, if_pos (by simp), ve L j hj, jp hj]
 have HB1 : Hid (Below w.heap.size w w1) := zs8 (by rw [hw1]; exact HB0.out.alloc HB0.out.size _)
 have HCS := zs8 hcs
 clear hw1 hcs HB0 hm0
 go_wp2
 go_loop [5] (fun v => ∃ k : Nat, k ≤ L.length /\ v = .slice (some ⟨w.heap.size + 1, 0, none⟩) k L.length /\ V.zw (L.take k) = V.zw L) (fun v => lenOf v)
 case atStart => exact ⟨L.length, zta _, rfl, by rw [List.take_of_length_le (zta _)]⟩
 case round =>
  obtain ⟨k, hk, rfl, hst⟩ := hrel
  have HST := zs8 hst
  clear hst
  have FIN : Hid (∀ l, l = L.take k -> V.zw L = l -> zrj (V.jm s.data.toList) w (.returned (.slice (some ⟨w.heap.size + 1, 0, none⟩) k L.length)) w1) := zs8 (fun l hl hs => by
    refine ⟨_, rfl, ⟨some ⟨w.heap.size + 1, 0, none⟩, L.length, ?_, fun j hj => ⟨_, _, rfl, hz, ?_⟩⟩, HB1.out⟩
    · rw [HP.out, hs, hl, List.length_take, Nat.min_eq_left hk]
    · have hlt : j < L.length := by
        rw [HP.out, hs, hl, List.length_take] at hj; omega
      rw [Nat.zero_add, HCS.out j hlt, jp hlt]
      congr 3
      have e : V.jm s.data.toList = L.take k := by rw [HP.out, hs, hl]
      simp only [e, List.getElem_take])
  cases k with
  | zero =>
   have HF := zs8 (FIN.out (L.take 0) rfl (by rw [← HST.out]; rfl))
   go_wp2
   go_ret
   exact HF.out
  | succ k =>
   have hcell := HCS.out k (by omega)
   have hx1 : ((k + 1 : Nat) : Int) = (k : Int) + 1 := by omega
   rcases hv : (V.value (L.getD k [])).isEmpty with _ | _
   all_goals
    have HV := zs8 hv
    clear hv
    generalize hX : L.getD k [] = X at *
    have HX := zs8 hX
    clear hX
    go_wp2_with fail
    refine (zfg ⟨X.toArray⟩ _).mono ?_
    rintro e w' ⟨rfl, rfl⟩
    simp only
    have hv := HV.out
    go_wp2
   ·have HF := zs8 (FIN.out (L.take (k + 1)) rfl (by rw [← HST.out]; exact zoy (by omega) (by rw [HX.out]; exact HV.out)))
    go_ret
    exact HF.out
   ·go_round
    case rel => exact ⟨k, by omega, rfl, by rw [← zph (k := k) (by omega) (by rw [HX.out]; exact HV.out)]; exact HST.out⟩
    case measure => simp [lenOf]
theorem zoz (a b : V.Bs) (W : World) : Calls Tryz.prog 259 (#[.string ⟨a.toArray⟩, .string ⟨b.toArray⟩] ++ #[]) W fun e w' => e = .returned (.int .i64 (V.numbers a b)) /\ Below W.heap.size W w' := by
 have h := vd ⟨a.toArray⟩ ⟨b.toArray⟩ W
 simp only  at h
 exact h
theorem zmt (l : List V.Bs) : ∀ x ∈ V.zw l, x ∈ l := by
 intro x hx
 unfold V.zw at hx
 have := (List.dropWhile_sublist (l := l.reverse) (fun x => (V.value x).isEmpty)).subset (List.mem_reverse.1 hx)
 exact List.mem_reverse.1 this
theorem zli (l : List V.Bs) : (V.zw l).length ≤ l.length := by
 unfold V.zw
 have := (List.dropWhile_sublist (l := l.reverse) (fun x => (V.value x).isEmpty)).length_le
 simpa using this
theorem ziq (s t : ByteArray) (w : World) (hm : zk w) (hs : s.size ≤ 1000) (ht : t.size ≤ 1000) :
  Calls Tryz.prog 293 #[.agg #[], .string s, .string t] w fun e w' => e = .returned (.int .i64 (V.zaf s.data.toList t.data.toList)) /\ Below w.heap.size w w' := by
 have HF : Hid (V.zaf s.data.toList t.data.toList = V.qu V.numbers (V.jm s.data.toList) (V.jm t.data.toList)) := rfl
 have hb0 : Below w.heap.size w (w.alloc (.cells #[] 192)) := (ztb _ w).alloc (zta _) _
 have hm0 := hm.below hb0
 have sz : ∀ r : ByteArray, r.size ≤ 1000 -> (V.jm r.data.toList).length ≤ 2000 /\ ∀ x ∈ V.jm r.data.toList, x.length ≤ 1000 := fun r hr => by
  refine ⟨?_, fun x hx => ?_⟩
  ·have h1 := zli (V.ze 46 r.data.toList)
   have h2 := jh 46 r.data.toList
   rw [zf] at h2
   unfold V.jm; omega
  ·have h1 := jx 46 _ x (zmt _ x hx)
   rw [zf] at h1; omega
 have SZ := zs8 sz
 have HB0 := zs8 hb0
 clear sz hb0
 go_enter Tryz.func293, Tryz.ntmps293
 go_wp2
 go_region_held3 (fun W' => zk W' /\ True)
  (first
    | (go_split_ands; exact ⟨zk.below (by assumption) hbq, trivial⟩)
    | (exact ⟨hm0, trivial⟩)
    | go_keep)
  (first
    | (go_at_call 296; refine (zl1 _ _ (by first | assumption | exact And.left (b := True) (by assumption) | exact zk.below (by assumption) (by assumption)) (by assumption)).mono ?_; rintro e wq ⟨vq, rfl, hsq, hbq⟩)
    | (go_at_call 260; refine (zbs _ _ (V.jm s.data.toList) (V.jm t.data.toList) _ #[] V.numbers _ (by first | assumption | exact Strs.below (by assumption) (by assumption)) (by first | assumption | exact Strs.below (by assumption) (by assumption)) (SZ.out s hs).1 (SZ.out t ht).1 (SZ.out s hs).2 (SZ.out t ht).2 (enters_of Tryz.func259 (by kernel_rfl) rfl) (fun x y W _ _ => zoz x y W)).mono ?_; rintro e wq ⟨rfl, hbq⟩))
 rename_i wa va hsa hba wb hbb hH
 have hbx : Below w.heap.size w wq := HB0.out.trans ((((ztb _ (w.alloc (.cells #[] 192))).drew).trans (Below.trans (show Below (w.alloc (.cells #[] 192)).heap.size (w.alloc (.cells #[] 192)).drew wa from hba) ((hbb.trans (hbq.mono hbb.size)).mono hba.size))).mono HB0.out.size)
 have HBX := zs8 hbx
 clear hsa hba hbb hH hsq hbq hbx
 go_wp2
 go_ret
 exact ⟨zj HF.out.symm, HBX.out⟩
open Go.RowKit
open Go.RowKit
theorem Strs.at {w : World} {a : Option Addr} {n cap : Nat} {l : List V.Bs} (h : Strs w (.slice a n cap) l) (j : Nat) (hj : j < l.length) :
  ∃ b off, a = some ⟨b, off, none⟩ /\ b < w.heap.size /\ w.cell? ⟨b, off + j, none⟩ = some (.string ⟨(l.getD j []).toArray⟩) := by
 obtain ⟨a', c, e, hc⟩ := h
 obtain ⟨b, off, ea, hb, hcell⟩ := hc j hj
 cases e
 refine ⟨b, off, ea, hb, ?_⟩
 rw [List.getD_eq_getElem?_getD, List.getElem?_eq_getElem hj]
 exact hcell
theorem Strs.slice {w : World} {v : Value} {l : List V.Bs} (h : Strs w v l) : ∃ a cap, v = .slice a l.length cap := by
 obtain ⟨a, c, e, _⟩ := h
 exact ⟨a, c, e⟩
theorem Strs.head {w : World} {v : Value} {l : List V.Bs} (h : Strs w v l) (h0 : 0 < l.length) :
  ∃ b off cap, v = .slice (some ⟨b, off, none⟩) l.length cap /\ b < w.heap.size /\ ∀ j, j < l.length -> w.cell? ⟨b, off + j, none⟩ = some (.string ⟨(l.getD j []).toArray⟩) := by
 obtain ⟨a, c, e, hc⟩ := h
 obtain ⟨b, off, rfl, hb, _⟩ := hc 0 h0
 refine ⟨b, off, c, e, hb, fun j hj => ?_⟩
 obtain ⟨b', off', ea, _, hcell⟩ := hc j hj
 cases ea
 rw [List.getD_eq_getElem?_getD, List.getElem?_eq_getElem hj]
 exact hcell
open Go.RowKit
theorem zn9 (k : Nat) (w : World) : (method (k + 1) 190 (.agg #[]) "admission/version.valid").run Tryz.prog w = .ok (257, .agg #[]) w := by kernel_rfl
theorem znh (k : Nat) (w : World) : (method (k + 1) 191 (.agg #[]) "admission/version.valid").run Tryz.prog w = .ok (283, .agg #[]) w := by kernel_rfl
theorem zn8 (k : Nat) (w : World) : (method (k + 1) 192 (.agg #[]) "admission/version.valid").run Tryz.prog w = .ok (295, .agg #[]) w := by kernel_rfl
theorem zut {P : Prop} (h : P := by
 go_enter Tryz.func124, Tryz.ntmps124
 go_wp2
 go_ret
 exact ⟨rfl, rfl⟩) : P := h
theorem zgn (w : World) : Calls Tryz.prog 124 #[.int .i64 1] w fun e w' => e = .returned (.iface 190 (.agg #[])) /\ w = w' := by
 exact zut
theorem zgh (w : World) : Calls Tryz.prog 124 #[.int .i64 2] w fun e w' => e = .returned (.iface 191 (.agg #[])) /\ w = w' := by
 exact zut
theorem zgg (w : World) : Calls Tryz.prog 124 #[.int .i64 3] w fun e w' => e = .returned (.iface 192 (.agg #[])) /\ w = w' := by
 exact zut
theorem zqv (n : Int) (h1 : n ≠ 1) (h2 : n ≠ 2) (h3 : n ≠ 3) (w : World) : Calls Tryz.prog 124 #[.int .i64 n] w fun e w' => e = .returned .nilIface /\ w = w' := by
 have b1 : (n == 1) = false := by simpa using h1
 have b2 : (n == 2) = false := by simpa using h2
 have b3 : (n == 3) = false := by simpa using h3
 exact zut
theorem zu3 {P : Prop} (h : P := by
 rintro e w' ⟨rfl, rfl⟩
 go_wp2
 go_ret
 exact ⟨zc HF.out.symm, ztb _ _⟩) : P := h
theorem zw7 {P : Prop} (h : P := by
 rintro e w1 ⟨rfl, hb⟩
 go_wp2
 go_ret
 exact ⟨zc (by rw [HF.out]), hb⟩) : P := h
theorem zhm (s : ByteArray) (w : World) (hm : zk w) (hs : s.size ≤ maxLen) :
  Calls Tryz.prog 84 #[.int .i64 1, .string s] w fun e w' => e = .returned (.bool (V.valid 1 s.data.toList)) /\ Below w.heap.size w w' := by
 unfold maxLen at hs
 have hmeth := zn9
 by_cases h1 : 1 ≤ s.size
 ·have b1 : (1 : Int) ≤ (s.size : Int) := by omega
  by_cases h2 : s.size ≤ 64
  ·have HF : Hid (V.valid 1 s.data.toList = (V.zi s.data.toList).isSome) := zs8 (by unfold V.valid V.xq; rw [zf]; simp [h1, h2])
   have b2 : (s.size : Int) ≤ 64 := by omega
   go_enter Tryz.func84, Tryz.ntmps84
   go_wp2_with fail
   refine (zgn _).mono ?_
   rintro e w' ⟨rfl, rfl⟩
   go_wp2_with fail
   refine (zlk s _ hm (by omega)).mono ?_
   exact zw7
  ·have HF : Hid (V.valid 1 s.data.toList = false) := zs8 (by unfold V.valid; rw [zf]; simp [h2])
   have b2 : ¬ (s.size : Int) ≤ 64 := by omega
   go_enter Tryz.func84, Tryz.ntmps84
   go_wp2_with fail
   refine (zgn _).mono ?_
   exact zu3
 ·have HF : Hid (V.valid 1 s.data.toList = false) := zs8 (by unfold V.valid; rw [zf]; simp [h1])
  have b1 : ¬ (1 : Int) ≤ (s.size : Int) := by omega
  go_enter Tryz.func84, Tryz.ntmps84
  go_wp2_with fail
  refine (zgn _).mono ?_
  exact zu3
theorem zgx (s : ByteArray) (w : World) (hm : zk w) (hs : s.size ≤ maxLen) :
  Calls Tryz.prog 84 #[.int .i64 2, .string s] w fun e w' => e = .returned (.bool (V.valid 2 s.data.toList)) /\ Below w.heap.size w w' := by
 unfold maxLen at hs
 have hmeth := znh
 by_cases h1 : 1 ≤ s.size
 ·have b1 : (1 : Int) ≤ (s.size : Int) := by omega
  by_cases h2 : s.size ≤ 64
  ·have HF : Hid (V.valid 2 s.data.toList = (V.zn s.data.toList).isSome) := zs8 (by unfold V.valid V.xq; rw [zf]; simp [h1, h2])
   have b2 : (s.size : Int) ≤ 64 := by omega
   go_enter Tryz.func84, Tryz.ntmps84
   go_wp2_with fail
   refine (zgh _).mono ?_
   rintro e w' ⟨rfl, rfl⟩
   go_wp2_with fail
   refine (zms s _ hm (by omega)).mono ?_
   exact zw7
  ·have HF : Hid (V.valid 2 s.data.toList = false) := zs8 (by unfold V.valid; rw [zf]; simp [h2])
   have b2 : ¬ (s.size : Int) ≤ 64 := by omega
   go_enter Tryz.func84, Tryz.ntmps84
   go_wp2_with fail
   refine (zgh _).mono ?_
   exact zu3
 ·have HF : Hid (V.valid 2 s.data.toList = false) := zs8 (by unfold V.valid; rw [zf]; simp [h1])
  have b1 : ¬ (1 : Int) ≤ (s.size : Int) := by omega
  go_enter Tryz.func84, Tryz.ntmps84
  go_wp2_with fail
  refine (zgh _).mono ?_
  exact zu3
theorem zh9 (s : ByteArray) (w : World) (_hm : zk w) (hs : s.size ≤ maxLen) :
  Calls Tryz.prog 84 #[.int .i64 3, .string s] w fun e w' => e = .returned (.bool (V.valid 3 s.data.toList)) /\ Below w.heap.size w w' := by
 unfold maxLen at hs
 have hmeth := zn8
 by_cases h1 : 1 ≤ s.size
 ·have b1 : (1 : Int) ≤ (s.size : Int) := by omega
  by_cases h2 : s.size ≤ 64
  ·have HF : Hid (V.valid 3 s.data.toList = V.zdd s.data.toList) := zs8 (by unfold V.valid V.xq; rw [zf]; simp [h1, h2])
   have b2 : (s.size : Int) ≤ 64 := by omega
   go_enter Tryz.func84, Tryz.ntmps84
   go_wp2_with fail
   refine (zgg _).mono ?_
   rintro e w' ⟨rfl, rfl⟩
   go_wp2_with fail
   refine (zl6 s _ (by unfold maxLen; omega)).mono ?_
   exact zw7
  ·have HF : Hid (V.valid 3 s.data.toList = false) := zs8 (by unfold V.valid; rw [zf]; simp [h2])
   have b2 : ¬ (s.size : Int) ≤ 64 := by omega
   go_enter Tryz.func84, Tryz.ntmps84
   go_wp2_with fail
   refine (zgg _).mono ?_
   exact zu3
 ·have HF : Hid (V.valid 3 s.data.toList = false) := zs8 (by unfold V.valid; rw [zf]; simp [h1])
  have b1 : ¬ (1 : Int) ≤ (s.size : Int) := by omega
  go_enter Tryz.func84, Tryz.ntmps84
  go_wp2_with fail
  refine (zgg _).mono ?_
  exact zu3
theorem zo6 (n : Int) (h1 : n ≠ 1) (h2 : n ≠ 2) (h3 : n ≠ 3) (s : ByteArray) (w : World) :
  Calls Tryz.prog 84 #[.int .i64 n, .string s] w fun e w' => e = .returned (.bool (V.valid n s.data.toList)) /\ Below w.heap.size w w' := by
 have HF : Hid (V.valid n s.data.toList = false) := zs8 (by unfold V.valid V.xq; simp [h1, h2, h3])
 go_enter Tryz.func84, Tryz.ntmps84
 go_wp2_with fail
 refine (zqv n h1 h2 h3 _).mono ?_
 rintro e w' ⟨rfl, rfl⟩
 go_wp2
 go_ret
 exact ⟨zc HF.out.symm, ztb _ _⟩
theorem yq (n : Int) (s : ByteArray) (w : World) (hm : zk w) (hs : s.size ≤ maxLen) :
  Calls Tryz.prog 84 #[.int .i64 n, .string s] w fun e w' => e = .returned (.bool (V.valid n s.data.toList)) /\ Below w.heap.size w w' := by
 by_cases h1 : n = 1
 ·subst h1; exact zhm s w hm hs
 ·by_cases h2 : n = 2
  ·subst h2; exact zgx s w hm hs
  ·by_cases h3 : n = 3
   ·subst h3; exact zh9 s w hm hs
   ·exact zo6 n h1 h2 h3 s w
open Go.RowKit
theorem zsx (k : Nat) (w : World) : (method (k + 1) 190 (.agg #[]) "admission/version.compare").run Tryz.prog w = .ok (255, .agg #[]) w := by kernel_rfl
theorem zsu (k : Nat) (w : World) : (method (k + 1) 191 (.agg #[]) "admission/version.compare").run Tryz.prog w = .ok (281, .agg #[]) w := by kernel_rfl
theorem zso (k : Nat) (w : World) : (method (k + 1) 192 (.agg #[]) "admission/version.compare").run Tryz.prog w = .ok (293, .agg #[]) w := by kernel_rfl
def zo3 (T : Nat) (ok : Bool) (e : Ending) : Prop :=
 e = .returned (if ok then .tuple #[.func (.method "admission/version.compare") #[.iface T (.agg #[])] #[], .int .i64 0] else .tuple #[.nilFunc, .int .i64 1])
theorem zu1 {P : Prop} (h : P := by
 have HF := zs8 (NEXT.out HVX.out)
 go_roundw
 case rel => exact ⟨k + 1, by omega, by go_num, HF.out, HB1.out⟩
 case measure => simp [intOf]; omega) : P := h
theorem zww {P : Prop} (h : P := by
 have HF := zs8 (BAD.out HVX.out)
 go_ret2
 exact ⟨by rw [HF.out]; rfl, HB1.out⟩) : P := h
theorem zij (v : Value) (l : List V.Bs) (w : World) (hm : zk w) (hv : Strs w v l) (hl : l.length ≤ maxLen) (hx : ∀ x ∈ l, x.length ≤ maxLen) :
  Calls Tryz.prog 155 #[.int .i64 1, v] w fun e w' =>
   zo3 190 (l.all (V.valid 1)) e /\ Below w.heap.size w w' := by
 obtain ⟨a, cap, rfl, hc⟩ := hv
 unfold maxLen at hl
 have HC := zs8 hc
 have HX := zs8 hx
 have HM := zs8 hm
 clear hc hx hm
 go_enter Tryz.func155, Tryz.ntmps155
 go_wp2_with fail
 refine (zgn _).mono ?_
 rintro e w' ⟨rfl, rfl⟩
 go_wp2
 go_loopw [15] (fun i wr => ∃ k : Nat, k ≤ l.length /\ i = .int .i64 k /\ (∀ j, j < k -> V.valid 1 (l.getD j []) = true) /\ Below w.heap.size w wr) (fun i _ => l.length - (intOf i).toNat)
 case atStart => exact ⟨0, Nat.zero_le _, rfl, fun j hj => by omega, ztb _ _⟩
 case round =>
  obtain ⟨k, hk, rfl, hz, hB⟩ := hrel
  have HZ := zs8 hz
  have HB := zs8 hB
  clear hz hB
  by_cases hlt : k < l.length
  ·obtain ⟨b, o, ha, hb, hcell⟩ := HC.out k hlt
   have hx1 := (HB.out.cell (p := ⟨b, o + k, none⟩) hb).trans hcell
   rw [← jp hlt] at hx1
   have s1 := HX.out _ (List.getElem_mem hlt)
   rw [← jp hlt] at s1
   have BAD : Hid (V.valid 1 (l.getD k []) = false -> l.all (V.valid 1) = false) := zs8 (fun h => by
     rw [List.all_eq_false]
     exact ⟨l[k], List.getElem_mem hlt, by rw [← jp hlt, h]; simp⟩)
   have NEXT : Hid (V.valid 1 (l.getD k []) = true -> ∀ j, j < k + 1 -> V.valid 1 (l.getD j []) = true) := zs8 (fun h0 j hj => by
     by_cases e : j = k
     · subst e; exact h0
     · exact HZ.out j (by omega))
   subst ha
   clear hcell
   generalize l.getD k [] = x at *
   rcases hvx : V.valid 1 x with _ | _
   all_goals
    have HVX := zs8 hvx
    clear hvx
    go_wp2_with fail
    refine (zhm ⟨x.toArray⟩ _ (HM.out.below HB.out) s1).mono ?_
    rintro e w1 ⟨rfl, hb1⟩
    simp only [HVX.out]
    have HB1 := zs9 HB hb1
    clear hb1
    go_wp2
   ·exact zww
   ·exact zu1
  ·have HF : Hid (l.all (V.valid 1) = true) := zs8 (by
     rw [List.all_eq_true]
     intro x hx
     obtain ⟨j, hj, e⟩ := List.getElem_of_mem hx
     have := HZ.out j (by omega)
     rw [jp hj] at this
     rw [← e]; exact this)
   go_wp2
   go_ret2
   exact ⟨by rw [HF.out]; rfl, HB.out⟩
theorem zg9 (v : Value) (l : List V.Bs) (w : World) (hm : zk w) (hv : Strs w v l) (hl : l.length ≤ maxLen) (hx : ∀ x ∈ l, x.length ≤ maxLen) :
  Calls Tryz.prog 155 #[.int .i64 2, v] w fun e w' =>
   zo3 191 (l.all (V.valid 2)) e /\ Below w.heap.size w w' := by
 obtain ⟨a, cap, rfl, hc⟩ := hv
 unfold maxLen at hl
 have HC := zs8 hc
 have HX := zs8 hx
 have HM := zs8 hm
 clear hc hx hm
 go_enter Tryz.func155, Tryz.ntmps155
 go_wp2_with fail
 refine (zgh _).mono ?_
 rintro e w' ⟨rfl, rfl⟩
 go_wp2
 go_loopw [15] (fun i wr => ∃ k : Nat, k ≤ l.length /\ i = .int .i64 k /\ (∀ j, j < k -> V.valid 2 (l.getD j []) = true) /\ Below w.heap.size w wr) (fun i _ => l.length - (intOf i).toNat)
 case atStart => exact ⟨0, Nat.zero_le _, rfl, fun j hj => by omega, ztb _ _⟩
 case round =>
  obtain ⟨k, hk, rfl, hz, hB⟩ := hrel
  have HZ := zs8 hz
  have HB := zs8 hB
  clear hz hB
  by_cases hlt : k < l.length
  ·obtain ⟨b, o, ha, hb, hcell⟩ := HC.out k hlt
   have hx1 := (HB.out.cell (p := ⟨b, o + k, none⟩) hb).trans hcell
   rw [← jp hlt] at hx1
   have s1 := HX.out _ (List.getElem_mem hlt)
   rw [← jp hlt] at s1
   have BAD : Hid (V.valid 2 (l.getD k []) = false -> l.all (V.valid 2) = false) := zs8 (fun h => by
     rw [List.all_eq_false]
     exact ⟨l[k], List.getElem_mem hlt, by rw [← jp hlt, h]; simp⟩)
   have NEXT : Hid (V.valid 2 (l.getD k []) = true -> ∀ j, j < k + 1 -> V.valid 2 (l.getD j []) = true) := zs8 (fun h0 j hj => by
     by_cases e : j = k
     · subst e; exact h0
     · exact HZ.out j (by omega))
   subst ha
   clear hcell
   generalize l.getD k [] = x at *
   rcases hvx : V.valid 2 x with _ | _
   all_goals
    have HVX := zs8 hvx
    clear hvx
    go_wp2_with fail
    refine (zgx ⟨x.toArray⟩ _ (HM.out.below HB.out) s1).mono ?_
    rintro e w1 ⟨rfl, hb1⟩
    simp only [HVX.out]
    have HB1 := zs9 HB hb1
    clear hb1
    go_wp2
   ·exact zww
   ·exact zu1
  ·have HF : Hid (l.all (V.valid 2) = true) := zs8 (by
     rw [List.all_eq_true]
     intro x hx
     obtain ⟨j, hj, e⟩ := List.getElem_of_mem hx
     have := HZ.out j (by omega)
     rw [jp hj] at this
     rw [← e]; exact this)
   go_wp2
   go_ret2
   exact ⟨by rw [HF.out]; rfl, HB.out⟩
theorem zh0 (v : Value) (l : List V.Bs) (w : World) (hm : zk w) (hv : Strs w v l) (hl : l.length ≤ maxLen) (hx : ∀ x ∈ l, x.length ≤ maxLen) :
  Calls Tryz.prog 155 #[.int .i64 3, v] w fun e w' =>
   zo3 192 (l.all (V.valid 3)) e /\ Below w.heap.size w w' := by
 obtain ⟨a, cap, rfl, hc⟩ := hv
 unfold maxLen at hl
 have HC := zs8 hc
 have HX := zs8 hx
 have HM := zs8 hm
 clear hc hx hm
 go_enter Tryz.func155, Tryz.ntmps155
 go_wp2_with fail
 refine (zgg _).mono ?_
 rintro e w' ⟨rfl, rfl⟩
 go_wp2
 go_loopw [15] (fun i wr => ∃ k : Nat, k ≤ l.length /\ i = .int .i64 k /\ (∀ j, j < k -> V.valid 3 (l.getD j []) = true) /\ Below w.heap.size w wr) (fun i _ => l.length - (intOf i).toNat)
 case atStart => exact ⟨0, Nat.zero_le _, rfl, fun j hj => by omega, ztb _ _⟩
 case round =>
  obtain ⟨k, hk, rfl, hz, hB⟩ := hrel
  have HZ := zs8 hz
  have HB := zs8 hB
  clear hz hB
  by_cases hlt : k < l.length
  ·obtain ⟨b, o, ha, hb, hcell⟩ := HC.out k hlt
   have hx1 := (HB.out.cell (p := ⟨b, o + k, none⟩) hb).trans hcell
   rw [← jp hlt] at hx1
   have s1 := HX.out _ (List.getElem_mem hlt)
   rw [← jp hlt] at s1
   have BAD : Hid (V.valid 3 (l.getD k []) = false -> l.all (V.valid 3) = false) := zs8 (fun h => by
     rw [List.all_eq_false]
     exact ⟨l[k], List.getElem_mem hlt, by rw [← jp hlt, h]; simp⟩)
   have NEXT : Hid (V.valid 3 (l.getD k []) = true -> ∀ j, j < k + 1 -> V.valid 3 (l.getD j []) = true) := zs8 (fun h0 j hj => by
     by_cases e : j = k
     · subst e; exact h0
     · exact HZ.out j (by omega))
   subst ha
   clear hcell
   generalize l.getD k [] = x at *
   rcases hvx : V.valid 3 x with _ | _
   all_goals
    have HVX := zs8 hvx
    clear hvx
    go_wp2_with fail
    refine (zh9 ⟨x.toArray⟩ _ (HM.out.below HB.out) s1).mono ?_
    rintro e w1 ⟨rfl, hb1⟩
    simp only [HVX.out]
    have HB1 := zs9 HB hb1
    clear hb1
    go_wp2
   ·exact zww
   ·exact zu1
  ·have HF : Hid (l.all (V.valid 3) = true) := zs8 (by
     rw [List.all_eq_true]
     intro x hx
     obtain ⟨j, hj, e⟩ := List.getElem_of_mem hx
     have := HZ.out j (by omega)
     rw [jp hj] at this
     rw [← e]; exact this)
   go_wp2
   go_ret2
   exact ⟨by rw [HF.out]; rfl, HB.out⟩
theorem zqk (n : Int) (h1 : n ≠ 1) (h2 : n ≠ 2) (h3 : n ≠ 3) (v : Value) (w : World) :
  Calls Tryz.prog 155 #[.int .i64 n, v] w fun e w' => e = .returned (.tuple #[.nilFunc, .int .i64 14]) /\ w = w' := by
 go_enter Tryz.func155, Tryz.ntmps155
 go_wp2_with fail
 refine (zqv n h1 h2 h3 _).mono ?_
 rintro e w' ⟨rfl, rfl⟩
 go_wp2
 go_ret2
 exact ⟨rfl, rfl⟩
end Go.Proofs.YtnhfaincdabdkaaGreatDoor
