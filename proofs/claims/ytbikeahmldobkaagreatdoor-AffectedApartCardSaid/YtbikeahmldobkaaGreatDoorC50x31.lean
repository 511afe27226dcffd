/-
  Lemmas for the law.
-/
import Derived.Test.YtbikeahmldobkaaGreatDoorC50x30
import Derived.Test.YtbikeahmldobkaaGreatDoorC50x13
import Derived.Test.YtbikeahmldobkaaGreatDoorC50x01
import Derived.Test.YtbikeahmldobkaaGreatDoorC50x20
import Derived.Test.YtbikeahmldobkaaGreatDoorC50x19
import Derived.Test.YtbikeahmldobkaaGreatDoorC50x04
import Derived.Test.YtbikeahmldobkaaGreatDoorC50x16
import Derived.BigRegion
import Derived.Deep.DeepCutAuto
import Derived.Lib.AppendStr
set_option linter.all false
set_option maxRecDepth 100000
set_option maxHeartbeats 6400000
namespace Go.Proofs.YtbikeahmldobkaaGreatDoor
open Go.RowKit
namespace V
def zam (n : Int) (s cur : Bs) (ys : List Note) (st : Bs × Bool) (v : Bs) : Bs × Bool :=
 if abv n v cur = false ∨ (ys.any fun x => covP x.adv n s v) = true then st else if st.2 = false ∨ (zw n v st.1).1 < 0 then (v, true) else st
def yu (n : Int) (s cur : Bs) (ys : List Note) (vs : List Bs) (k : Nat) : Bs × Bool := (vs.take k).foldl (zam n s cur ys) ([], false)
theorem zfj {n : Int} {s cur : Bs} {ys : List Note} {vs : List Bs} {k : Nat} (h : k < vs.length) : yu n s cur ys vs (k + 1) = zam n s cur ys (yu n s cur ys vs k) vs[k] := by
 unfold yu
 rw [List.take_succ_eq_append_getElem h, List.foldl_append]
 rfl
theorem zlx {n : Int} {s cur : Bs} {ys : List Note} {vs : List Bs} {m : Nat} (h : ∀ v ∈ vs, v.length ≤ m) : ∀ {k : Nat}, (yu n s cur ys vs k).1.length ≤ m
 | 0 => by simp [yu]
 | k + 1 => by
  have ih := zlx (n := n) (s := s) (cur := cur) (ys := ys) h (k := k)
  by_cases hk : k < vs.length
  ·rw [zfj hk]
   unfold zam
   split
   ·exact ih
   ·split
    ·exact h _ (List.getElem_mem hk)
    ·exact ih
  ·unfold yu at *
   rw [List.take_of_length_le (by omega)] at *
   exact ih
theorem zl5 {n : Int} {a b : Bs} (h : abv n a b = true) : scheme n = true /\ valid n a = true /\ valid n b = true /\ 0 < cmpV n a b := by
 unfold abv zw at h
 by_cases hs : scheme n = true
 ·by_cases hv : (valid n a && valid n b) = true
  ·rw [if_neg (by rw [hs]; simp), if_pos hv] at h
   have g0 := Bool.and_eq_true_iff.1 hv
   exact ⟨hs, g0.1, g0.2, by simpa using h⟩
  ·rw [if_neg (by rw [hs]; simp), if_neg hv] at h
   simp at h
 ·rw [if_pos (by simpa using hs)] at h
  simp at h
theorem zuv {n : Int} (hn : scheme n = true) {a b : Bs} (ha : valid n a = true) (hb : valid n b = true) : cmpV n b a = - cmpV n a b := by
 rw [← wl hn ha hb, ← wl hn hb ha]
 exact kd _ _
theorem zbp {n : Int} {a b : Bs} (hn : scheme n = true) (ha : valid n a = true) (hb : valid n b = true) : zw n a b = (cmpV n a b, 0) := by
 unfold zw
 rw [hn, ha, hb]
 rfl
theorem abv_lt {n : Int} {a b : Bs} (hn : scheme n = true) (ha : valid n a = true) (hb : valid n b = true) : abv n a b = true ↔ (zw n b a).1 < 0 := by
 unfold abv
 rw [zbp hn ha hb, zbp hn hb ha]
 simp only [zuv hn ha hb]
 simp
theorem zti {n : Int} {s cur : Bs} {ys : List Note} {vs : List Bs} : ∀ {k : Nat}, upTo n s cur ys vs k = yu n s cur ys vs k /\ ((upTo n s cur ys vs k).2 = true -> abv n (upTo n s cur ys vs k).1 cur = true)
 | 0 => ⟨rfl, fun h => by simp [upTo] at h⟩
 | k + 1 => by
  obtain ⟨ih, hi⟩ := zti (n := n) (s := s) (cur := cur) (ys := ys) (vs := vs) (k := k)
  by_cases hk : k < vs.length
  ·rw [zel hk, zfj hk, ← ih]
   generalize upTo n s cur ys vs k = st at *
   generalize vs[k] = v at *
   unfold zc4 zam
   cases hab : abv n v cur with
   | false => simp only [Bool.not_false, Bool.true_or, if_true, true_or]; exact ⟨trivial, hi⟩
   | true =>
    cases hc : (ys.any fun x => covP x.adv n s v) with
    | true =>
     simp only [Bool.not_true, Bool.false_or, or_true, if_true, ite_self]
     exact ⟨trivial, hi⟩
    | false =>
     obtain ⟨b, f⟩ := st
     cases f with
     | false => simp [hab]
     | true =>
      have hb := hi rfl
      obtain ⟨p1, p2, _, _⟩ := zl5 hb
      obtain ⟨q1, q2, _, _⟩ := zl5 hab
      have e := abv_lt p1 p2 q2
      simp only at e hb ⊢
      cases hbv : abv n b v with
      | true => rw [hbv] at e; simp [e.1 rfl, hab]
      | false =>
       have h0 : ¬ (zw n v b).1 < 0 := fun h => by rw [e.2 h] at hbv; cases hbv
       simp [h0, hb]
  ·have e1 : upTo n s cur ys vs (k + 1) = upTo n s cur ys vs k := by unfold upTo; rw [List.take_of_length_le (by omega), List.take_of_length_le (by omega)]
   have e2 : yu n s cur ys vs (k + 1) = yu n s cur ys vs k := by unfold yu; rw [List.take_of_length_le (by omega), List.take_of_length_le (by omega)]
   rw [e1, e2]
   exact ⟨ih, hi⟩
end V
theorem zzf {P : Prop} (h : P := by
 clear HST2
 go_wp2
 go_roundw
 case rel => exact ⟨k + 1, y, true, by omega, by go_num, rfl, rfl, HE.out, HB5.out⟩
 case measure => simp [intOf]; omega) : P := h
theorem zgs (v : Value) (xs : List NV) (n : Int) (s cur : V.Bs) (sv : Value) (vs : List V.Bs) (w : World) (hm : zj w) (hv : Notes w v xs) (hl : xs.length ≤ 1000000) (hc : cur.length ≤ maxLen) (hs : Strs w sv vs) (hsl : vs.length ≤ 1000000) (g6 : ∀ x ∈ vs, x.length ≤ maxLen) :
  Calls Tryz.prog 28 #[v, .int .i64 n, .string ⟨s.toArray⟩, .string ⟨cur.toArray⟩, sv] w fun e w' => e = .returned (.tuple #[.string ⟨(V.upTo n s cur (xs.map (·.n)) vs vs.length).1.toArray⟩, .bool (V.upTo n s cur (xs.map (·.n)) vs vs.length).2]) /\ Below w.heap.size w w' := by
 have HM := zwg hm
 have HV := zwg hv
 have HS := zwg hs
 have HC := zwg hc
 have g7 := zwg g6
 have g2 : Hid (V.upTo n s cur (xs.map (·.n)) vs vs.length = V.yu n s cur (xs.map (·.n)) vs vs.length) := zwg V.zti.1
 obtain ⟨sa, sc, rfl⟩ := hs.slice
 clear hm hv hs hc g6
 go_enter Tryz.func28, Tryz.ntmps28
 go_wp2_with fail
 generalize g3 : xs.map (·.n) = ys
 have h0 : Hid (∀ y, (ys.any fun x => V.covP x.adv n s y) = (xs.any fun x => V.covP x.n.adv n s y)) := zwg (fun y => by rw [← g3, List.any_map]; rfl)
 have g4 := zwg g3
 clear g3
 go_loopw [12, 13, 14] (fun bv fv iv wx => ∃ (k : Nat) (b : V.Bs) (f : Bool), k ≤ vs.length /\ iv = .int .i64 k /\ bv = .string ⟨b.toArray⟩ /\ fv = .bool f /\ V.yu n s cur ys vs k = (b, f) /\ Below w.heap.size w wx) (fun _ _ iv _ => vs.length - (intOf iv).toNat)
 case atStart => exact ⟨0, [], false, Nat.zero_le _, rfl, rfl, rfl, rfl, zwj _ _⟩
 case round =>
  obtain ⟨k, b, f, hk, rfl, rfl, rfl, g0, g1⟩ := hrel
  have h1 := zwg g0
  have HBX := zwg g1
  by_cases hlt : k < vs.length
  ·obtain ⟨g, off, h2, hg, hc⟩ := HS.out.atS k hlt
   subst h2
   have g8 := (g1.cell (p := ⟨g, off + k, none⟩) hg).trans hc
   obtain ⟨y, hy⟩ : ∃ y, y = vs[k] := ⟨_, rfl⟩
   have g5 : Hid (y.length ≤ maxLen) := zwg (by rw [hy]; exact g7.out _ (List.getElem_mem hlt))
   have h3 : Hid (b.length ≤ maxLen) := zwg (by have := V.zlx (n := n) (s := s) (cur := cur) (ys := ys) g7.out (k := k); rw [g0] at this; exact this)
   have HST : Hid (V.yu n s cur ys vs (k + 1) = V.zam n s cur ys (b, f) y) := zwg (by rw [V.zfj hlt, g0, hy])
   rw [← hy] at g8
   have i1 : (0 : Int) ≤ (k : Int) := by omega
   have i2 : (k : Int) < (vs.length : Int) := by omega
   have h4 : k < 1000000 := by omega
   clear hy hc g0 g1
   go_wp2_with fail
   clear g8
   refine (zgn n ⟨y.toArray⟩ ⟨cur.toArray⟩ wr (HM.out.below HBX.out) (by simpa [ByteArray.size] using g5.out) (by simpa [ByteArray.size] using HC.out)).mono ?_
   rintro e w3 ⟨rfl, hb3⟩
   have HB3 := zwh HBX hb3
   rw [zag, zag]
   clear hb3
   obtain ⟨⟨c1, e1⟩, hr⟩ : ∃ r, r = V.zw n y cur := ⟨_, rfl⟩
   have HAB : Hid (V.abv n y cur = (decide (e1 = 0) && decide (0 < c1))) := zwg (by unfold V.abv; rw [← hr])
   rw [← hr]
   clear hr
   simp only
   by_cases he : e1 = 0
   ·subst he
    by_cases hc1 : 0 < c1
    ·have HA : Hid (V.abv n y cur = true) := zwg (by rw [HAB.out]; simp [hc1])
     clear HAB
     go_wp2_with fail
     refine (zqi v xs n s y w3 (HM.out.below HB3.out) (HV.out.below HB3.out) hl g5.out).mono ?_
     rintro e w4 ⟨rfl, g9⟩
     rw [← h0.out]
     have HB4 := zwh HB3 g9
     clear g9
     rcases hcv : (ys.any fun x => V.covP x.adv n s y) with _ | _
     ·have HST2 : Hid (V.yu n s cur ys vs (k + 1) = if f = false ∨ (V.zw n y b).1 < 0 then (y, true) else (b, f)) := zwg (by rw [HST.out]; unfold V.zam; rw [HA.out, hcv, if_neg (by simp)])
      clear hcv
      go_wp2_with fail
      refine (zgn n ⟨y.toArray⟩ ⟨b.toArray⟩ w4 (HM.out.below HB4.out) (by simpa [ByteArray.size] using g5.out) (by simpa [ByteArray.size] using h3.out)).mono ?_
      rintro e w5 ⟨rfl, hb5⟩
      have HB5 := zwh HB4 hb5
      rw [zag, zag]
      clear hb5
      obtain ⟨⟨c2, e2⟩, hr⟩ : ∃ r, r = V.zw n y b := ⟨_, rfl⟩
      rw [← hr] at HST2 ⊢
      clear hr
      simp only at HST2 ⊢
      rcases f with _ | _
      ·have HE : Hid (V.yu n s cur ys vs (k + 1) = (y, true)) := zwg (by rw [HST2.out, if_pos (.inl rfl)])
       exact zzf
      ·by_cases hc2 : c2 < 0
       ·have HE : Hid (V.yu n s cur ys vs (k + 1) = (y, true)) := zwg (by rw [HST2.out, if_pos (.inr hc2)])
        exact zzf
       ·have HE : Hid (V.yu n s cur ys vs (k + 1) = (b, true)) := zwg (by rw [HST2.out, if_neg (by simp [hc2])])
        clear HST2
        go_wp2
        go_roundw
        case rel => exact ⟨k + 1, b, true, by omega, by go_num, rfl, rfl, HE.out, HB5.out⟩
        case measure => simp [intOf]; omega
     ·have HE : Hid (V.yu n s cur ys vs (k + 1) = (b, f)) := zwg (by rw [HST.out]; unfold V.zam; rw [hcv, if_pos (.inr rfl)])
      clear hcv
      go_wp2
      go_roundw
      case rel => exact ⟨k + 1, b, f, by omega, by go_num, rfl, rfl, HE.out, HB4.out⟩
      case measure => simp [intOf]; omega
    ·have h5 : c1 ≤ 0 := by omega
     have HE : Hid (V.yu n s cur ys vs (k + 1) = (b, f)) := zwg (by rw [HST.out]; unfold V.zam; rw [HAB.out, if_pos (.inl (by simp [hc1]))])
     exact zyd
   ·have h6 : (e1 == 0) = false := by simp [he]
    have HE : Hid (V.yu n s cur ys vs (k + 1) = (b, f)) := zwg (by rw [HST.out]; unfold V.zam; rw [HAB.out, if_pos (.inl (by simp [he]))])
    exact zyd
  ·obtain rfl : k = vs.length := by omega
   have HE : Hid (V.yu n s cur ys vs vs.length = (b, f)) := h1
   clear g0 g1
   go_wp2
   go_ret2
   exact ⟨by rw [g4.out] at g2; rw [g4.out, g2.out, HE.out]; rfl, HBX.out⟩
open Go.RowKit
theorem zsk (x n : Int) (h0 : 0 ≤ n) (h1 : n ≤ 32) : ∃ y : Int, ∀ w, Calls Tryz.prog 192 #[.int .u32 x, .int .i64 n] w fun e w' => e = .returned (.int .u32 y) /\ w' = w := by
 apply Exists.intro
 intro w
 have h2 : (0 : Int) ≤ 32 - n := by omega
 go_enter Tryz.func192, Tryz.ntmps192
 go_wp2
 go_ret
 exact ⟨rfl, rfl⟩
noncomputable def rotF (x n : Int) : Int := if h : 0 ≤ n /\ n ≤ 32 then (zsk x n h.1 h.2).choose else 0
theorem zf1 (x n : Int) (w : World) (h : 0 ≤ n /\ n ≤ 32) : Calls Tryz.prog 192 #[.int .u32 x, .int .i64 n] w fun e w' => e = .returned (.int .u32 (rotF x n)) /\ w' = w := by
 have e : rotF x n = (zsk x n h.1 h.2).choose := by unfold rotF; rw [dif_pos h]
 rw [e]
 exact (zsk x n h.1 h.2).choose_spec w
def u32c (l : List Int) : Array Value := (l.map fun n => Value.int .u32 n).toArray
theorem xo {w : World} {g k : Nat} {l : List Int} {T : TypeId} {fr : Nat × Nat} (h : w.heap[g]? = some (.cells (u32c l) T fr)) (hk : k < l.length) : w.cell? ⟨g, k, none⟩ = some (.int .u32 (l.getD k 0)) := by
 unfold World.cell?
 rw [h]
 simp [u32c, hk]
theorem zkg (l : List Int) (k : Nat) (x : Int) : (u32c l).setIfInBounds k (.int .u32 x) = u32c (l.set k x) := by
 unfold u32c
 rw [List.setIfInBounds_toArray, List.map_set]
def z64 : List Int := List.replicate 64 0
def kC : List Int := [1116352408, 1899447441, 3049323471, 3921009573, 961987163, 1508970993, 2453635748, 2870763221, 3624381080, 310598401, 607225278, 1426881987, 1925078388, 2162078206, 2614888103, 3248222580, 3835390401, 4022224774, 264347078, 604807628, 770255983, 1249150122, 1555081692, 1996064986, 2554220882, 2821834349, 2952996808, 3210313671, 3336571891, 3584528711, 113926993, 338241895, 666307205, 773529912, 1294757372, 1396182291, 1695183700, 1986661051, 2177026350, 2456956037, 2730485921, 2820302411, 3259730800, 3345764771, 3516065817, 3600352804, 4094571909, 275423344, 430227734, 506948616, 659060556, 883997877, 958139571, 1322822218, 1537002063, 1747873779, 1955562222, 2024104815, 2227730452, 2361852424, 2428436474, 2756734187, 3204031479, 3329325298]
theorem a64_info : (Tryz.prog.info? 223).map (·.size) = some 64 := by kernel_rfl
theorem load64 {l : List Int} (hl : l.length = 64) {w : World} {g : Nat} {t : TypeId} (hg : w.heap[g]? = some (.cells (u32c l) t (0, 0))) : (loadVar 223 ⟨g, 0, none⟩).run Tryz.prog w = .ok (.agg (u32c l)) w :=
 run_loadVar_row _ _ _ _ _ (0, 0) _ hg Tryz.underlying223 rfl (by rw [a64_info]; simp [u32c, hl])
theorem zli (w : World) : Calls Tryz.prog 193 #[] w fun e w' => e = .returned (.agg (u32c kC)) /\ Below w.heap.size w w' := by
 have g0 : Below w.heap.size w (w.alloc (.cells (u32c z64) 223)) := (zwj _ w).alloc (zwi _) _
 go_enter Tryz.func193, Tryz.ntmps193
 go_wp2_with (first | (refine zy rfl 223 _ _ rfl w.heap.size (u32c z64) 223 (heap_alloc_new w _) rfl (u32c kC) rfl rfl (by kernel_rfl) (by kernel_rfl) ?_; intro W2 hp2) | fail)
 exact bodyPost_ret (v := .agg (u32c kC)) (qr Tryz.results193 rfl (load64 rfl hp2.here)) rfl ⟨rfl, hp2.below g0 (zwi _)⟩
theorem zrk {w w' : World} {row : Option Nat} (h : w.grownBy w' row) : w.grownBy w'.drew row := ⟨h.os, h.tape, h.output, h.size, h.block⟩
theorem list8 {l : List Int} (h : l.length = 8) : ∃ b0 b1 b2 b3 b4 b5 b6 b7, l = [b0, b1, b2, b3, b4, b5, b6, b7] := by
 match l, h with
 | [b0, b1, b2, b3, b4, b5, b6, b7], _ => exact ⟨b0, b1, b2, b3, b4, b5, b6, b7, rfl⟩
theorem load8 {c0 c1 c2 c3 c4 c5 c6 c7 : Value} {w : World} {g : Nat} {t : TypeId} (hg : w.heap[g]? = some (.cells #[c0, c1, c2, c3, c4, c5, c6, c7] t (0, 0))) : (loadVar 200 ⟨g, 0, none⟩).run Tryz.prog w = .ok (.agg #[c0, c1, c2, c3, c4, c5, c6, c7]) w :=
 run_loadVar_row _ _ _ _ _ (0, 0) _ hg Tryz.underlying200 rfl (by kernel_rfl)
theorem zuq (a0 a1 a2 a3 a4 a5 a6 a7 : Int) (b off cap : Nat) (w : World) (hp : ∀ j, j < 64 -> ∃ x : Int, w.cell? ⟨b, off + j, none⟩ = some (.int .u8 x)) (hb : b < w.heap.size) (v2 : 64 ≤ cap) :
  Calls Tryz.prog 167 #[.agg #[.int .u32 a0, .int .u32 a1, .int .u32 a2, .int .u32 a3, .int .u32 a4, .int .u32 a5, .int .u32 a6, .int .u32 a7], .slice (some ⟨b, off, none⟩) 64 cap] w
   fun e w' => (∃ b0 b1 b2 b3 b4 b5 b6 b7 : Int, e = .returned (.agg #[.int .u32 b0, .int .u32 b1, .int .u32 b2, .int .u32 b3, .int .u32 b4, .int .u32 b5, .int .u32 b6, .int .u32 b7])) /\ Below w.heap.size w w' := by
 have HP := zwg hp
 have HBB := zwg hb
 obtain ⟨W0, hW0⟩ : ∃ W0, W0 = ((w.alloc (.cells #[.int .u32 a0, .int .u32 a1, .int .u32 a2, .int .u32 a3, .int .u32 a4, .int .u32 a5, .int .u32 a6, .int .u32 a7] 200)).alloc (.cells #[.int .u32 0, .int .u32 0, .int .u32 0, .int .u32 0, .int .u32 0, .int .u32 0, .int .u32 0, .int .u32 0] 200)).alloc (.cells #[.int .u32 0, .int .u32 0, .int .u32 0, .int .u32 0, .int .u32 0, .int .u32 0, .int .u32 0, .int .u32 0, .int .u32 0, .int .u32 0, .int .u32 0, .int .u32 0, .int .u32 0, .int .u32 0, .int .u32 0, .int .u32 0, .int .u32 0, .int .u32 0, .int .u32 0, .int .u32 0, .int .u32 0, .int .u32 0, .int .u32 0, .int .u32 0, .int .u32 0, .int .u32 0, .int .u32 0, .int .u32 0, .int .u32 0, .int .u32 0, .int .u32 0, .int .u32 0, .int .u32 0, .int .u32 0, .int .u32 0, .int .u32 0, .int .u32 0, .int .u32 0, .int .u32 0, .int .u32 0, .int .u32 0, .int .u32 0, .int .u32 0, .int .u32 0, .int .u32 0, .int .u32 0, .int .u32 0, .int .u32 0, .int .u32 0, .int .u32 0, .int .u32 0, .int .u32 0, .int .u32 0, .int .u32 0, .int .u32 0, .int .u32 0, .int .u32 0, .int .u32 0, .int .u32 0, .int .u32 0, .int .u32 0, .int .u32 0, .int .u32 0, .int .u32 0] 223) := ⟨_, rfl⟩
 have j7 : Below w.heap.size w W0 := by rw [hW0]; exact (((zwj _ w).alloc (zwi _) _).alloc (by simp) _).alloc (by simp; omega) _
 have K0 : W0.heap[w.heap.size]? = some (.cells #[.int .u32 a0, .int .u32 a1, .int .u32 a2, .int .u32 a3, .int .u32 a4, .int .u32 a5, .int .u32 a6, .int .u32 a7] 200 (0, 0)) := by
  rw [hW0, heap_alloc, if_neg (by simp; omega), heap_alloc, if_neg (by simp), heap_alloc, if_pos rfl]
 have K1 : W0.heap[w.heap.size + 1]? = some (.cells #[.int .u32 0, .int .u32 0, .int .u32 0, .int .u32 0, .int .u32 0, .int .u32 0, .int .u32 0, .int .u32 0] 200 (0, 0)) := by
  rw [hW0, heap_alloc, if_neg (by simp), heap_alloc, if_pos (by simp)]
 have K2 : W0.heap[w.heap.size + 1 + 1]? = some (.cells (u32c z64) 223 (0, 0)) := by
  rw [hW0, heap_alloc, if_pos (by simp)]
  rfl
 have HW := zwg hW0
 have HB0 := zwg j7
 have HK := zwg (And.intro K0 K1)
 have q8 := zwg K2
 have HZ0 : Hid (w.heap.size + 1 + 1 + 1 = W0.heap.size) := zwg (by rw [hW0]; simp)
 clear hp hb hW0 j7 K0 K1 K2
 go_enter Tryz.func167, Tryz.ntmps167
 go_wp2_with fail
 rw [← HW.out]
 go_loopw [6] (fun iv wx => ∃ (i : Nat) (l : List Int), i ≤ 16 /\ iv = .int .i64 i /\ l.length = 64 /\ wx.heap[w.heap.size + 1 + 1]? = some (.cells (u32c l) 223 (0, 0)) /\ Below (w.heap.size + 1 + 1) W0 wx) (fun iv _ => 16 - (intOf iv).toNat)
 case atStart => exact ⟨0, z64, by omega, rfl, rfl, q8.out, zwj _ _⟩
 case round =>
  obtain ⟨i, l, hi, rfl, hl, hx, g4⟩ := hrel
  have HX := zwg hx
  have HBX := zwg g4
  have HL := zwg hl
  clear hx g4 hl
  by_cases hlt : i < 16
  ·have g5 : ∀ j, j < 64 -> ∃ x : Int, wr.cell? ⟨b, off + j, none⟩ = some (.int .u8 x) := fun j hj => by
    obtain ⟨x, hc⟩ := HP.out j hj
    exact ⟨x, (HBX.out.cell (p := ⟨b, off + j, none⟩) (by have := HBB.out; show b < _; omega)).trans ((HB0.out.cell (p := ⟨b, off + j, none⟩) HBB.out).trans hc)⟩
   obtain ⟨x0, c0⟩ := g5 (4 * i) (by omega)
   obtain ⟨x1, c1⟩ := g5 (4 * i + 1) (by omega)
   obtain ⟨x2, c2⟩ := g5 (4 * i + 2) (by omega)
   obtain ⟨x3, c3⟩ := g5 (4 * i + 3) (by omega)
   have cx := xo HX.out (k := i) (by rw [HL.out]; omega)
   have hf := ko (o := i) HX.out
   clear g5
   go_wp2_with fail
   go_region
   rename_i hK
   refine hK _ _ ?_
   clear hK c0 c1 c2 c3 cx
   go_wp2
   go_roundw
   case rel => exact ⟨i + 1, _, by omega, by go_num, (List.length_set ..).trans HL.out, (yj i _ HX.out).trans (by rw [zkg]), (Below.grown (row := some (w.heap.size + 1 + 1)) HBX.out (jt _ _ _ _) (by have := HZ0.out; have := HBX.out.size; omega) (fun c e => by cases e; omega)).drew⟩
   case measure => simp [intOf]; omega
  ·obtain rfl : i = 16 := by omega
   go_wp2_with fail
   go_loopw [7] (fun iv wx => ∃ (i : Nat) (l : List Int), 16 ≤ i /\ i ≤ 64 /\ iv = .int .i64 i /\ l.length = 64 /\ wx.heap[w.heap.size + 1 + 1]? = some (.cells (u32c l) 223 (0, 0)) /\ Below (w.heap.size + 1 + 1) W0 wx) (fun iv _ => 64 - (intOf iv).toNat)
   case atStart => exact ⟨16, l, by omega, by omega, rfl, HL.out, HX.out, HBX.out⟩
   case round =>
    clear HX HBX HL
    obtain ⟨i, l, v3, hi, rfl, hl, hx, g4⟩ := hrel
    have HX := zwg hx
    have HBX := zwg g4
    have HL := zwg hl
    clear hx g4 hl
    by_cases hlt : i < 64
    ·obtain ⟨j1, j8⟩ : ∃ j : Nat, (i : Int) - 15 = (j : Int) /\ j < 64 := ⟨i - 15, by omega, by omega⟩
     obtain ⟨j2, j9⟩ : ∃ j : Nat, (i : Int) - 2 = (j : Int) /\ j < 64 := ⟨i - 2, by omega, by omega⟩
     obtain ⟨j3, k0⟩ : ∃ j : Nat, (i : Int) - 16 = (j : Int) /\ j < 64 := ⟨i - 16, by omega, by omega⟩
     obtain ⟨j4, k1⟩ : ∃ j : Nat, (i : Int) - 7 = (j : Int) /\ j < 64 := ⟨i - 7, by omega, by omega⟩
     have d1 := xo HX.out (k := j1) (by rw [HL.out]; exact j8.2)
     have d2 := xo HX.out (k := j2) (by rw [HL.out]; exact j9.2)
     have d3 := xo HX.out (k := j3) (by rw [HL.out]; exact k0.2)
     have d4 := xo HX.out (k := j4) (by rw [HL.out]; exact k1.2)
     have cx := xo HX.out (k := i) (by rw [HL.out]; omega)
     have hf := ko (o := i) HX.out
     obtain ⟨e1, b1⟩ := j8
     obtain ⟨e2, b2⟩ := j9
     obtain ⟨e3, b3⟩ := k0
     obtain ⟨e4, b4⟩ := k1
     go_wp2_with fail
     go_quiet ((go_at_call 192; exact Calls.quiet_of_same (zf1 _ _ _ (by decide))))
     have HX2 : Hid ((wr.drewN nq).heap[w.heap.size + 1 + 1]? = some (.cells (u32c l) 223 (0, 0))) := zwg HX.out
     have g8 := zwg (below_drewN HBX.out nq)
     clear d1 d2 d3 d4 cx hf HX HBX
     generalize wr.drewN nq = W1 at *
     clear nq
     have d2 := xo HX2.out (k := j2) (by rw [HL.out]; exact b2)
     go_wp2_with fail
     go_quiet ((go_at_call 192; exact Calls.quiet_of_same (zf1 _ _ _ (by decide))))
     have g6 : Hid ((W1.drewN nq).heap[w.heap.size + 1 + 1]? = some (.cells (u32c l) 223 (0, 0))) := zwg HX2.out
     have g9 := zwg (below_drewN g8.out nq)
     clear d2 HX2 g8
     generalize W1.drewN nq = W2 at *
     clear nq
     have d3 := xo g6.out (k := j3) (by rw [HL.out]; exact b3)
     have d4 := xo g6.out (k := j4) (by rw [HL.out]; exact b4)
     have cx := xo g6.out (k := i) (by rw [HL.out]; omega)
     have hf := ko (o := i) g6.out
     go_wp2_with fail
     go_region
     rename_i hK
     refine hK _ _ ?_
     clear hK d3 d4 cx e1 e2 e3 e4
     go_wp2
     go_roundw
     case rel => exact ⟨i + 1, _, by omega, by omega, by go_num, (List.length_set ..).trans HL.out, (yj i _ g6.out).trans (by rw [zkg]), (Below.grown (row := some (w.heap.size + 1 + 1)) g9.out (jt _ _ _ _) (by have := HZ0.out; have := g9.out.size; omega) (fun c e => by cases e; omega)).drew⟩
     case measure => simp [intOf]; omega
    ·obtain rfl : i = 64 := by omega
     have HB5 : Hid (Below w.heap.size w wr) := zwg (HB0.out.trans (HBX.out.mono (by omega)))
     have h0 := zwg ((HBX.out.block w.heap.size (by omega)).trans HK.out.1)
     have h4 := zwg ((HBX.out.block (w.heap.size + 1) (by omega)).trans HK.out.2)
     clear HBX
     go_wp2_with fail
     refine (zli wr).mono ?_
     rintro e w5 ⟨rfl, hb5⟩
     have HB6 := zwh HB5 hb5
     have h5 := (Array.getElem?_eq_some_iff.1 HX.out).1
     have k2 := zwg ((hb5.block _ h5).trans HX.out)
     have k3 := zwg ((hb5.block _ (Array.getElem?_eq_some_iff.1 h0.out).1).trans h0.out)
     have k4 := zwg ((hb5.block _ (Array.getElem?_eq_some_iff.1 h4.out).1).trans h4.out)
     have g1 : Hid (w.heap.size + 1 + 1 < w5.heap.size) := zwg (Nat.lt_of_lt_of_le h5 hb5.size)
     have k5 : Below w5.heap.size w5 (w5.alloc (.cells (u32c z64) 223)) := (zwj _ w5).alloc (zwi _) _
     have g7 := zwg k5
     clear hb5 k5 h5 HB5 HX h0 h4
     go_wp2_with (first | (refine zy rfl 223 _ _ rfl w5.heap.size (u32c z64) 223 (heap_alloc_new w5 _) rfl (u32c kC) rfl rfl (by kernel_rfl) (by kernel_rfl) ?_; intro W6 hp6; have hA := hp6.other ((g7.out.block _ (by have := g1.out; omega)).trans k3.out) (by have := g1.out; omega); have x0 := zwf hA 0; have x1 := zwf hA 1; have x2 := zwf hA 2; have x3 := zwf hA 3; have x4 := zwf hA 4; have x5 := zwf hA 5; have x6 := zwf hA 6; have x7 := zwf hA 7; simp only [List.getElem?_toArray, List.getElem?_cons_zero, List.getElem?_cons_succ] at x0 x1 x2 x3 x4 x5 x6 x7) | fail)
     have k6 := zwg hp6.here
     have k7 := zwg (hp6.other ((g7.out.block _ g1.out).trans k2.out) (by have := g1.out; omega))
     have k8 := zwg hA
     have k9 := zwg (hp6.other ((g7.out.block _ (by have := g1.out; omega)).trans k4.out) (by have := g1.out; omega))
     have HB7 := zwg (HB6.out.trans ((hp6.below g7.out (zwi _)).mono HB6.out.size))
     have q0 := (Array.getElem?_eq_some_iff.1 hp6.here).1
     have hb8 : Below W6.heap.size W6 (W6.alloc (.cells #[.int .u32 a0, .int .u32 a1, .int .u32 a2, .int .u32 a3, .int .u32 a4, .int .u32 a5, .int .u32 a6, .int .u32 a7] 200)) := (zwj _ W6).alloc (zwi _) _
     have h6 : Hid ((W6.alloc (.cells #[.int .u32 a0, .int .u32 a1, .int .u32 a2, .int .u32 a3, .int .u32 a4, .int .u32 a5, .int .u32 a6, .int .u32 a7] 200)).heap[W6.heap.size]? = some (.cells #[.int .u32 a0, .int .u32 a1, .int .u32 a2, .int .u32 a3, .int .u32 a4, .int .u32 a5, .int .u32 a6, .int .u32 a7] 200 (0, 0))) := zwg (heap_alloc_new _ _)
     have HB8 := zwg hb8
     have g3 := zwg q0
     clear hp6 hA x0 x1 x2 x3 x4 x5 x6 x7 g7 k2 k3 k4 HB6 hb8 q0
     generalize w5.heap.size = Kb at *
     generalize W6.alloc (.cells #[.int .u32 a0, .int .u32 a1, .int .u32 a2, .int .u32 a3, .int .u32 a4, .int .u32 a5, .int .u32 a6, .int .u32 a7] 200) = W7 at *
     obtain ⟨S, hS⟩ : ∃ S, S = W6.heap.size := ⟨_, rfl⟩
     have v4 := zwg hS
     rw [← hS] at h6 HB8 g3 ⊢
     clear hS
     go_loopw [12] (fun iv wx => ∃ (i : Nat) (s0 s1 s2 s3 s4 s5 s6 s7 : Int), i ≤ 64 /\ iv = .int .i64 i /\ wx.heap[S]? = some (.cells #[.int .u32 s0, .int .u32 s1, .int .u32 s2, .int .u32 s3, .int .u32 s4, .int .u32 s5, .int .u32 s6, .int .u32 s7] 200 (0, 0)) /\ Below S W7 wx) (fun iv _ => 64 - (intOf iv).toNat)
     case atStart => exact ⟨0, a0, a1, a2, a3, a4, a5, a6, a7, by omega, rfl, h6.out, zwj _ _⟩
     case round =>
      clear h6
      obtain ⟨i, s0, s1, s2, s3, s4, s5, s6, s7, hi, rfl, hs, q1⟩ := hrel
      have g0 := zwg hs
      have HBS := zwg q1
      clear hs q1
      by_cases hlt : i < 64
      case neg =>
       obtain rfl : i = 64 := by omega
       have q9 : Hid (wr.heap[w.heap.size]? = some (.cells #[.int .u32 a0, .int .u32 a1, .int .u32 a2, .int .u32 a3, .int .u32 a4, .int .u32 a5, .int .u32 a6, .int .u32 a7] 200 (0, 0))) := zwg (by
         have h1 := g3.out
         have h2 := g1.out
         exact (HBS.out.block _ (by omega)).trans ((HB8.out.block _ (by omega)).trans k8.out))
       have HRE : Hid (wr.heap[w.heap.size + 1]? = some (.cells #[.int .u32 0, .int .u32 0, .int .u32 0, .int .u32 0, .int .u32 0, .int .u32 0, .int .u32 0, .int .u32 0] 200 (0, 0))) := zwg (by
         have h1 := g3.out
         have h2 := g1.out
         exact (HBS.out.block _ (by omega)).trans ((HB8.out.block _ (by omega)).trans k9.out))
       have HBE : Hid (Below w.heap.size w wr) := zwg (by
         have h1 := g3.out
         have h2 := g1.out
         have h3 := HB8.out.size
         exact HB7.out.trans (((HB8.out).mono (by omega)).trans (HBS.out.mono (by omega))))
       have v0 : Hid (w.heap.size + 1 < S) := zwg (by have h1 := g3.out; have h2 := g1.out; omega)
       clear HBS HB8 k8 k9 HB7 k6 k7
       go_wp2_with fail
       go_loopw [17] (fun iv wx => ∃ (i : Nat) (h : List Int), i ≤ 8 /\ iv = .int .i64 i /\ h.length = 8 /\ wx.heap[w.heap.size]? = some (.cells (u32c h) 200 (0, 0)) /\ wr.grownBy wx (some w.heap.size)) (fun iv _ => 8 - (intOf iv).toNat)
       case atStart => exact ⟨0, [a0, a1, a2, a3, a4, a5, a6, a7], by omega, rfl, rfl, q9.out, World.grownBy.refl _ _⟩
       case round =>
        obtain ⟨i, h, hi, rfl, hh, hx, hg⟩ := hrel
        have HX := zwg hx
        have HG := zwg hg
        have HH := zwg hh
        clear hx hg hh
        by_cases hlt : i < 8
        ·have cx := xo HX.out (k := i) (by rw [HH.out]; exact hlt)
         have hf := ko (o := i) HX.out
         have q2 := (HG.out.block S (Array.getElem?_eq_some_iff.1 g0.out).1 (fun e => by cases e; have := v0.out; omega)).trans g0.out
         have cs := xo (l := [s0, s1, s2, s3, s4, s5, s6, s7]) q2 (k := i) (by show i < 8; exact hlt)
         obtain ⟨vs, q3⟩ : ∃ v, v = ([s0, s1, s2, s3, s4, s5, s6, s7] : List Int).getD i 0 := ⟨_, rfl⟩
         rw [← q3] at cs
         clear q3 q2
         go_wp2_with fail
         go_region
         rename_i hK
         refine hK _ _ ?_
         clear hK cx cs
         go_wp2
         go_roundw
         case rel => exact ⟨i + 1, _, by omega, by go_num, (List.length_set ..).trans HH.out, (yj i _ HX.out).trans (by rw [zkg]), zrk (HG.out.trans (jt _ _ _ _))⟩
         case measure => simp [intOf]; omega
        ·obtain rfl : i = 8 := by omega
         obtain ⟨b0, b1, b2, b3, b4, b5, b6, b7, rfl⟩ := list8 HH.out
         have g2 : wr.heap[w.heap.size]? = some (.cells #[.int .u32 b0, .int .u32 b1, .int .u32 b2, .int .u32 b3, .int .u32 b4, .int .u32 b5, .int .u32 b6, .int .u32 b7] 200 (0, 0)) := HX.out
         have x0 := zwf g2 0
         have x1 := zwf g2 1
         have x2 := zwf g2 2
         have x3 := zwf g2 3
         have x4 := zwf g2 4
         have x5 := zwf g2 5
         have x6 := zwf g2 6
         have x7 := zwf g2 7
         simp only [List.getElem?_toArray, List.getElem?_cons_zero, List.getElem?_cons_succ] at x0 x1 x2 x3 x4 x5 x6 x7
         have v1 := zwg ((HG.out.block (w.heap.size + 1) (Array.getElem?_eq_some_iff.1 HRE.out).1 (fun e => by have := Option.some.inj e; omega)).trans HRE.out)
         have HBF := zwg (HBE.out.grown HG.out HBE.out.size (fun c e => by cases e; omega))
         clear g2
         go_wp2_with (first | (refine zy rfl 200 _ _ rfl (w.heap.size + 1) #[.int .u32 0, .int .u32 0, .int .u32 0, .int .u32 0, .int .u32 0, .int .u32 0, .int .u32 0, .int .u32 0] 200 v1.out rfl #[.int .u32 b0, .int .u32 b1, .int .u32 b2, .int .u32 b3, .int .u32 b4, .int .u32 b5, .int .u32 b6, .int .u32 b7] rfl rfl (by kernel_rfl) (by simp [Value.oneCell']) ?_; intro W2 hp2) | fail)
         exact bodyPost_ret (v := .agg #[.int .u32 b0, .int .u32 b1, .int .u32 b2, .int .u32 b3, .int .u32 b4, .int .u32 b5, .int .u32 b6, .int .u32 b7]) (qr Tryz.results167 rfl (load8 hp2.here)) rfl ⟨⟨b0, b1, b2, b3, b4, b5, b6, b7, rfl⟩, hp2.below HBF.out (by omega)⟩
      obtain ⟨vk, q4⟩ : ∃ v, v = kC.getD i 0 := ⟨_, rfl⟩
      obtain ⟨vw, q5⟩ : ∃ v, v = l.getD i 0 := ⟨_, rfl⟩
      have q6 : Hid (∀ W, Below S W7 W -> W.cell? ⟨Kb, i, none⟩ = some (.int .u32 vk) /\ W.cell? ⟨w.heap.size + 1 + 1, i, none⟩ = some (.int .u32 vw)) := zwg (fun W hW => by
        have h1 := g3.out
        have h2 := g1.out
        rw [q4, q5]
        exact ⟨xo ((hW.block Kb (by omega)).trans ((HB8.out.block Kb (by omega)).trans k6.out)) (by show i < 64; exact hlt), xo ((hW.block _ (by omega)).trans ((HB8.out.block _ (by omega)).trans k7.out)) (by rw [HL.out]; exact hlt)⟩)
      have c0 : wr.cell? ⟨S, 0, none⟩ = some (.int .u32 s0) := zwf g0.out 0
      have c1 : wr.cell? ⟨S, 1, none⟩ = some (.int .u32 s1) := zwf g0.out 1
      have c2 : wr.cell? ⟨S, 2, none⟩ = some (.int .u32 s2) := zwf g0.out 2
      have c3 : wr.cell? ⟨S, 3, none⟩ = some (.int .u32 s3) := zwf g0.out 3
      have c4 : wr.cell? ⟨S, 4, none⟩ = some (.int .u32 s4) := zwf g0.out 4
      have c5 : wr.cell? ⟨S, 5, none⟩ = some (.int .u32 s5) := zwf g0.out 5
      have c6 : wr.cell? ⟨S, 6, none⟩ = some (.int .u32 s6) := zwf g0.out 6
      have c7 : wr.cell? ⟨S, 7, none⟩ = some (.int .u32 s7) := zwf g0.out 7
      go_wp2_with fail
      go_quiet ((go_at_call 192; exact Calls.quiet_of_same (zf1 _ _ _ (by decide))))
      have h7 : Hid ((wr.drewN nq).heap[S]? = some (.cells #[.int .u32 s0, .int .u32 s1, .int .u32 s2, .int .u32 s3, .int .u32 s4, .int .u32 s5, .int .u32 s6, .int .u32 s7] 200 (0, 0))) := zwg g0.out
      have h8 := zwg (below_drewN HBS.out nq)
      clear g0 HBS c0 c1 c2 c3 c4 c5 c6 c7
      generalize wr.drewN nq = W1 at *
      clear nq
      have g0 := h7
      have HBS := h8
      clear h7 h8
      have c0 : W1.cell? ⟨S, 0, none⟩ = some (.int .u32 s0) := zwf g0.out 0
      have c1 : W1.cell? ⟨S, 1, none⟩ = some (.int .u32 s1) := zwf g0.out 1
      have c2 : W1.cell? ⟨S, 2, none⟩ = some (.int .u32 s2) := zwf g0.out 2
      have c3 : W1.cell? ⟨S, 3, none⟩ = some (.int .u32 s3) := zwf g0.out 3
      have c4 : W1.cell? ⟨S, 4, none⟩ = some (.int .u32 s4) := zwf g0.out 4
      have c5 : W1.cell? ⟨S, 5, none⟩ = some (.int .u32 s5) := zwf g0.out 5
      have c6 : W1.cell? ⟨S, 6, none⟩ = some (.int .u32 s6) := zwf g0.out 6
      have c7 : W1.cell? ⟨S, 7, none⟩ = some (.int .u32 s7) := zwf g0.out 7
      go_wp2_with fail
      generalize bits BinOp.xor IntKind.u32 (bits BinOp.xor IntKind.u32 (rotF s4 6) (rotF s4 11)) (rotF s4 25) = te at *
      clear q4 q5
      obtain ⟨ck, cw⟩ := q6.out W1 HBS.out
      go_quiet (fail)
      have h9 : Hid ((W1.drewN nq).heap[S]? = some (.cells #[.int .u32 s0, .int .u32 s1, .int .u32 s2, .int .u32 s3, .int .u32 s4, .int .u32 s5, .int .u32 s6, .int .u32 s7] 200 (0, 0))) := zwg g0.out
      have j0 := zwg (below_drewN HBS.out nq)
      clear g0 HBS c0 c1 c2 c3 c4 c5 c6 c7 ck cw
      generalize W1.drewN nq = W2 at *
      clear nq
      have g0 := h9
      have HBS := j0
      clear h9 j0
      have c0 : W2.cell? ⟨S, 0, none⟩ = some (.int .u32 s0) := zwf g0.out 0
      have c1 : W2.cell? ⟨S, 1, none⟩ = some (.int .u32 s1) := zwf g0.out 1
      have c2 : W2.cell? ⟨S, 2, none⟩ = some (.int .u32 s2) := zwf g0.out 2
      have c3 : W2.cell? ⟨S, 3, none⟩ = some (.int .u32 s3) := zwf g0.out 3
      have c4 : W2.cell? ⟨S, 4, none⟩ = some (.int .u32 s4) := zwf g0.out 4
      have c5 : W2.cell? ⟨S, 5, none⟩ = some (.int .u32 s5) := zwf g0.out 5
      have c6 : W2.cell? ⟨S, 6, none⟩ = some (.int .u32 s6) := zwf g0.out 6
      have c7 : W2.cell? ⟨S, 7, none⟩ = some (.int .u32 s7) := zwf g0.out 7
      generalize ((s7 + te + bits BinOp.xor IntKind.u32 (bits BinOp.and IntKind.u32 s4 s5) (bits BinOp.and IntKind.u32 (bits BinOp.xor IntKind.u32 (if IntKind.u32.signed = true then -1 else IntKind.u32.max) s4) s6) + vk) % 4294967296 + vw) % 4294967296 = tx at *
      clear q6
      go_wp2_with fail
      go_quiet ((go_at_call 192; exact Calls.quiet_of_same (zf1 _ _ _ (by decide))))
      have j5 : Hid ((W2.drewN nq).heap[S]? = some (.cells #[.int .u32 s0, .int .u32 s1, .int .u32 s2, .int .u32 s3, .int .u32 s4, .int .u32 s5, .int .u32 s6, .int .u32 s7] 200 (0, 0))) := zwg g0.out
      have j6 := zwg (below_drewN HBS.out nq)
      clear g0 HBS c0 c1 c2 c3 c4 c5 c6 c7
      generalize W2.drewN nq = W3 at *
      clear nq
      have g0 := j5
      have HBS := j6
      clear j5 j6
      have c0 : W3.cell? ⟨S, 0, none⟩ = some (.int .u32 s0) := zwf g0.out 0
      have c1 : W3.cell? ⟨S, 1, none⟩ = some (.int .u32 s1) := zwf g0.out 1
      have c2 : W3.cell? ⟨S, 2, none⟩ = some (.int .u32 s2) := zwf g0.out 2
      have c3 : W3.cell? ⟨S, 3, none⟩ = some (.int .u32 s3) := zwf g0.out 3
      have c4 : W3.cell? ⟨S, 4, none⟩ = some (.int .u32 s4) := zwf g0.out 4
      have c5 : W3.cell? ⟨S, 5, none⟩ = some (.int .u32 s5) := zwf g0.out 5
      have c6 : W3.cell? ⟨S, 6, none⟩ = some (.int .u32 s6) := zwf g0.out 6
      have c7 : W3.cell? ⟨S, 7, none⟩ = some (.int .u32 s7) := zwf g0.out 7
      generalize bits BinOp.xor IntKind.u32 (bits BinOp.xor IntKind.u32 (rotF s0 2) (rotF s0 13)) (rotF s0 22) = ta at *
      go_upto_region 21 with fail
      generalize (ta + bits BinOp.xor IntKind.u32 (bits BinOp.xor IntKind.u32 (bits BinOp.and IntKind.u32 s0 s1) (bits BinOp.and IntKind.u32 s0 s2)) (bits BinOp.and IntKind.u32 s1 s2)) % 4294967296 = ty at *
      go_wp2_with (first | (refine zy rfl 200 _ _ rfl S #[.int .u32 s0, .int .u32 s1, .int .u32 s2, .int .u32 s3, .int .u32 s4, .int .u32 s5, .int .u32 s6, .int .u32 s7] 200 g0.out rfl #[.int .u32 ((tx + ty) % 4294967296), .int .u32 s0, .int .u32 s1, .int .u32 s2, .int .u32 ((s3 + tx) % 4294967296), .int .u32 s4, .int .u32 s5, .int .u32 s6] rfl rfl (by kernel_rfl) (by simp [Value.oneCell']) ?_; intro W9 q7) | fail)
      clear c0 c1 c2 c3 c4 c5 c6 c7
      go_roundw
      case rel => exact ⟨i + 1, _, _, _, _, _, _, _, _, by omega, by go_num, q7.here, q7.below HBS.out (zwi _)⟩
      case measure => simp [intOf]; omega
open Go.RowKit
end Go.Proofs.YtbikeahmldobkaaGreatDoor
