/-
  Lemmas for the law.
-/
import Derived.Test.YtbikeahmldobkaaGreatDoorC50x09
import Derived.Test.YtbikeahmldobkaaGreatDoorC50x02
import Derived.Test.YtbikeahmldobkaaGreatDoorC50x01
import Derived.Test.YtbikeahmldobkaaGreatDoorC50x07
import Derived.Deep.RegionHeld3
import Derived.Lib.BufSteps
import Derived.OwnWalk
set_option linter.all false
set_option maxRecDepth 100000
set_option maxHeartbeats 3200000
namespace Go.Proofs.YtbikeahmldobkaaGreatDoor
open Go.RowKit
theorem zkl (a b : V.Bs) (W : World) (ha : a.length ≤ 1000) (hb : b.length ≤ 1000) : Calls Tryz.prog 231 (#[.string ⟨a.toArray⟩, .string ⟨b.toArray⟩] ++ #[]) W fun e w' => e = .returned (.int .i64 (V.kf a b)) /\ Below W.heap.size W w' := by
 have h := zjj ⟨a.toArray⟩ ⟨b.toArray⟩ W (by show a.length ≤ _; unfold maxLen; omega) (by show b.length ≤ _; unfold maxLen; omega)
 simp only  at h
 exact h
theorem zj6 (w : World) (a b c : Int) (t : TypeId) : ∀ j, j < [a, b, c].length -> (w.alloc (.cells #[.int .i64 a, .int .i64 b, .int .i64 c] t)).cell? ⟨w.heap.size, j, none⟩ = some (.int .i64 ([a, b, c].getD j 0)) := by
 intro j hj
 rw [World.cell?_alloc_new]
 have : j = 0 ∨ j = 1 ∨ j = 2 := by simp at hj; omega
 rcases this with rfl | rfl | rfl <;> rfl
theorem zan {s : V.Bs} {l pre : List V.Bs} (h : V.zo s = some (l, pre)) : pre.length ≤ s.length + 1 /\ ∀ x ∈ pre, x.length ≤ s.length := by
 unfold V.zo at h
 split at h
 ·cases h
 ·split at h
  ·simp only [Option.some.injEq, Prod.mk.injEq] at h
   obtain ⟨_, h⟩ := h
   have h1 := yr 43 s
   have h2 := yr 45 (V.cut1 43 s).1
   have h3 := jm 46 (V.cut1 45 (V.cut1 43 s).1).2.1
   split at h
   ·subst h
    exact ⟨by omega, fun x hx => by have := ki 46 _ x hx; omega⟩
   ·subst h; simp
  ·cases h
theorem zen {W W' : World} {b o : Nat} {v : Value} (hb : Below W.heap.size W W') (h : W.cell? ⟨b, o, none⟩ = some v) : W'.cell? ⟨b, o, none⟩ = some v :=
 (hb.cell (p := ⟨b, o, none⟩) (World.block_lt_of_cell? _ _ h)).trans h
theorem zkx {r : Option (List V.Bs × List V.Bs)} {l pre : List V.Bs} {x0 x1 x2 : V.Bs} {w : World} {e : Ending} {w' : World} (h : zix r w e w') (hr : r = some (l, pre)) (h0 : l.getD 0 [] = x0) (h1 : l.getD 1 [] = x1) (h2 : l.getD 2 [] = x2) :
  ∃ a cap, e = .returned (.tuple #[.agg #[.string ⟨x0.toArray⟩, .string ⟨x1.toArray⟩, .string ⟨x2.toArray⟩, .slice a pre.length cap], .bool true]) /\ Strs w' (.slice a pre.length cap) pre /\ Below w.heap.size w w' := by
 subst h0 h1 h2
 obtain ⟨pv, rfl, g0, hb⟩ := zf3 h hr
 have g1 := g0
 obtain ⟨a, cap, rfl, hc⟩ := g0
 exact ⟨a, cap, rfl, g1, hb⟩
theorem zzu {P : Prop} (h : P := by
 go_wp2_with fail
 refine (Tryz.cmp_Compare_int _ _ _).mono ?_
 rintro e wz ⟨rfl, rfl⟩
 go_wp2
 go_ret
 exact ⟨zv HF3.out.symm, HB4.out⟩) : P := h
theorem zjd (s t : ByteArray) (la pa lb pb : List V.Bs) (w : World) (hm : zj w) (hs : s.size ≤ 1000) (ht : t.size ≤ 1000)
  (hp : V.zo s.data.toList = some (la, pa)) (hq : V.zo t.data.toList = some (lb, pb)) :
  Calls Tryz.prog 225 #[.agg #[], .string s, .string t] w fun e w' => e = .returned (.int .i64 (V.jl (la, pa) (lb, pb))) /\ Below w.heap.size w w' := by
 obtain ⟨x0, g7⟩ : ∃ x, la.getD 0 [] = x := ⟨_, rfl⟩
 obtain ⟨x1, g8⟩ : ∃ x, la.getD 1 [] = x := ⟨_, rfl⟩
 obtain ⟨x2, g9⟩ : ∃ x, la.getD 2 [] = x := ⟨_, rfl⟩
 obtain ⟨y0, h1⟩ : ∃ x, lb.getD 0 [] = x := ⟨_, rfl⟩
 obtain ⟨y1, h2⟩ : ∃ x, lb.getD 1 [] = x := ⟨_, rfl⟩
 obtain ⟨y2, h3⟩ : ∃ x, lb.getD 2 [] = x := ⟨_, rfl⟩
 have HF : Hid (V.jl (la, pa) (lb, pb) = V.cor (V.orI [V.numbers x0 y0, V.numbers x1 y1, V.numbers x2 y2]) (V.zdk pa pb)) := zwg (by
   unfold V.jl; simp only [g7, g8, g9, h1, h2, h3])
 have h4 : Below w.heap.size w (w.alloc (.cells #[] 203)) := (zwj _ w).alloc (zwi _) _
 have j5 := hm.below h4
 have HP := zwg hp
 have HQ := zwg hq
 have HB0 := zwg h4
 have HX0 := zwg g7
 have HX1 := zwg g8
 have HX2 := zwg g9
 have k6 := zwg h1
 have k7 := zwg h2
 have k8 := zwg h3
 clear hp hq h4 g7 g8 g9 h1 h2 h3
 go_enter Tryz.func225, Tryz.ntmps225
 go_wp2_with fail
 refine (zay s _ j5 hs).mono ?_
 rintro e w1 h
 obtain ⟨a, cap, rfl, j6, hb1⟩ := zkx h HP.out HX0.out HX1.out HX2.out
 have h5 := HB0.out.trans (hb1.mono HB0.out.size)
 have HB1 := zwg h5
 have hm1 := hm.below h5
 have j7 := zwg j6
 clear h hb1 j6 h5
 go_wp2_with fail
 have g6 : Below w1.heap.size w1 (w1.alloc (.cells #[.string ⟨x0.toArray⟩, .string ⟨x1.toArray⟩, .string ⟨x2.toArray⟩, .slice a pa.length cap] 260)) := (zwj _ _).alloc (zwi _) _
 refine (zay t _ (hm1.below g6) ht).mono ?_
 rintro e w2 h
 obtain ⟨a2, cap2, rfl, j8, hb2⟩ := zkx h HQ.out k6.out k7.out k8.out
 have j9 : ∀ i, w2.cell? ⟨w1.heap.size, i, none⟩ = #[Value.string ⟨x0.toArray⟩, .string ⟨x1.toArray⟩, .string ⟨x2.toArray⟩, .slice a pa.length cap][i]? := jb hb2 (by simp) (fun i => by rw [zh, if_pos rfl])
 have h6 := g6.trans (hb2.mono g6.size)
 have k0 : w1.heap.size < w2.heap.size := Nat.lt_of_lt_of_le (by simp) hb2.size
 have h7 := zwg (j7.out.below h6)
 have h8 := zwg j8
 have HB2 := zwh HB1 h6
 clear h hb2 j8 g6 h6 j7
 go_wp2_with fail
 obtain ⟨W3, g5⟩ : ∃ W3, W3 = w2.alloc (.cells #[.string ⟨y0.toArray⟩, .string ⟨y1.toArray⟩, .string ⟨y2.toArray⟩, .slice a2 pb.length cap2] 260) := ⟨_, rfl⟩
 rw [← g5]
 have hb3 : Below w2.heap.size w2 W3 := by rw [g5]; exact (zwj _ _).alloc (zwi _) _
 have e : ∀ i, W3.cell? ⟨w1.heap.size, i, none⟩ = #[Value.string ⟨x0.toArray⟩, .string ⟨x1.toArray⟩, .string ⟨x2.toArray⟩, .slice a pa.length cap][i]? := jb hb3 k0 j9
 have g : ∀ i, W3.cell? ⟨w2.heap.size, i, none⟩ = #[Value.string ⟨y0.toArray⟩, .string ⟨y1.toArray⟩, .string ⟨y2.toArray⟩, .slice a2 pb.length cap2][i]? := fun i => by rw [g5, zh, if_pos rfl]
 have e0 := e 0
 have e1 := e 1
 have e2 := e 2
 have e3 := e 3
 have g0 := g 0
 have g1 := g 1
 have g2 := g 2
 have g3 := g 3
 simp at e0 e1 e2 e3 g0 g1 g2 g3
 have h9 := zwg (h7.out.below hb3)
 have j0 := zwg (h8.out.below hb3)
 have HB3 := zwh HB2 hb3
 have k9 : w2.heap.size < W3.heap.size := by rw [g5]; simp
 have hz4 : w1.heap.size < W3.heap.size := by omega
 clear g5 hb3 e g j9 j5 hm1 h7 h8 HB1 HB2 HB0
 go_region_held3 (fun W' => (W'.cell? ⟨w1.heap.size, 0, none⟩ = some (.string ⟨x0.toArray⟩) /\ W'.cell? ⟨w1.heap.size, 1, none⟩ = some (.string ⟨x1.toArray⟩) /\ W'.cell? ⟨w1.heap.size, 2, none⟩ = some (.string ⟨x2.toArray⟩) /\
     W'.cell? ⟨w2.heap.size, 0, none⟩ = some (.string ⟨y0.toArray⟩) /\ W'.cell? ⟨w2.heap.size, 1, none⟩ = some (.string ⟨y1.toArray⟩) /\ W'.cell? ⟨w2.heap.size, 2, none⟩ = some (.string ⟨y2.toArray⟩)))
  (first
    | go_keep
    | (go_split_ands
       refine ⟨?_, ?_, ?_, ?_, ?_, ?_⟩ <;> (refine zen j1 ?_; first | assumption | (simp only [World.cell?_drew]; assumption))))
  (first
    | (go_at_call 229; refine (ws _ _ _).mono ?_; rintro e wq ⟨rfl, j1⟩)
    | (go_at_call 152; refine (znw _ [V.numbers x0 y0, V.numbers x1 y1, V.numbers x2 y2] _ (by simp) (zj6 _ _ _ _ _)).mono ?_; rintro e wq ⟨rfl, rfl⟩))
 rename_i wa hba wb hbb hS
 have j2 : Below W3.heap.size W3 wq := ((zwj W3.heap.size W3).drew).trans (Below.trans (show Below W3.heap.size W3.drew wa from hba) ((hbb.trans (j1.mono hbb.size)).mono hba.size))
 obtain ⟨W4, j4⟩ : ∃ W4, W4 = wq.alloc (.cells #[.int .i64 (V.numbers x0 y0), .int .i64 (V.numbers x1 y1), .int .i64 (V.numbers x2 y2)] 3) := ⟨_, rfl⟩
 rw [← j4]
 have g4 : Below W3.heap.size W3 W4 := j2.trans (by rw [j4]; exact ((zwj wq.heap.size wq).alloc (zwi _) _).mono j2.size)
 clear hba hbb j1 j2 j4 hS
 have k3 := zen g4 e3
 have j3 := zen g4 g3
 have k2 := zwg (h9.out.below g4)
 have k4 := zwg (j0.out.below g4)
 have HB4 := zwh HB3 g4
 clear e0 e1 e2 e3 g0 g1 g2 g3 g4 h9 j0 HB3 k0 k9 hz4
 by_cases h0 : V.orI [V.numbers x0 y0, V.numbers x1 y1, V.numbers x2 y2] = 0
 ·have HF2 : Hid (V.jl (la, pa) (lb, pb) = V.zdk pa pb) := zwg (by rw [HF.out, h0]; rfl)
  rw [h0]
  clear h0
  have hP : Hid (V.zdk pa pb = if pa.isEmpty || pb.isEmpty then Lib.compareInt pb.length pa.length else V.je V.kf pa pb) := rfl
  by_cases hpa : pa.length = 0
  ·have HF3 : Hid (V.jl (la, pa) (lb, pb) = Lib.compareInt pb.length pa.length) := zwg (by
     rw [HF2.out, hP.out, if_pos]; rw [List.eq_nil_of_length_eq_zero hpa]; rfl)
   have hbo : ((pa.length : Int) == 0) = true := by rw [hpa]; rfl
   clear hpa
   exact zzu
  ·have hbo : ((pa.length : Int) == 0) = false := by rw [zwk]; omega
   by_cases hpb : pb.length = 0
   ·have HF3 : Hid (V.jl (la, pa) (lb, pb) = Lib.compareInt pb.length pa.length) := zwg (by
      rw [HF2.out, hP.out, if_pos]; rw [List.eq_nil_of_length_eq_zero hpb]; simp)
    have k5 : ((pb.length : Int) == 0) = true := by rw [hpb]; rfl
    clear hpa hpb
    exact zzu
   ·have k5 : ((pb.length : Int) == 0) = false := by rw [zwk]; omega
    have HF3 : Hid (V.jl (la, pa) (lb, pb) = V.je V.kf pa pb) := zwg (by
      rw [HF2.out, hP.out, if_neg]
      cases pa <;> cases pb <;> simp at hpa hpb ⊢)
    clear hpa hpb
    go_wp2_with fail
    refine (zdp _ _ pa pb 231 #[] V.kf _ k2.out k4.out ?_ ?_ ?_ ?_ (enters_of Tryz.func231 (by kernel_rfl) rfl) (fun x y W hx hy => zkl x y W hx hy)).mono ?_
    ·have := zan HP.out; rw [zi] at this; omega
    ·have := zan HQ.out; rw [zi] at this; omega
    ·intro x hx; have := (zan HP.out).2 x hx; rw [zi] at this; omega
    ·intro x hx; have := (zan HQ.out).2 x hx; rw [zi] at this; omega
    rintro e wz ⟨rfl, k1⟩
    have HB5 := zwh HB4 k1
    clear k1
    go_wp2
    go_ret
    exact ⟨zv HF3.out.symm, HB5.out⟩
 ·have HF2 : Hid (V.jl (la, pa) (lb, pb) = V.orI [V.numbers x0 y0, V.numbers x1 y1, V.numbers x2 y2]) := zwg (by rw [HF.out, V.ke h0])
  have hb : (V.orI [V.numbers x0 y0, V.numbers x1 y1, V.numbers x2 y2] != 0) = true := by simpa using h0
  generalize V.orI [V.numbers x0 y0, V.numbers x1 y1, V.numbers x2 y2] = c at *
  clear h0
  go_wp2
  go_ret
  exact ⟨zv HF2.out.symm, HB4.out⟩
theorem zjn {s : ByteArray} {k : Nat} : (s.extract 0 k).data.toList = s.data.toList.take k := by
 rw [Lib.extract_data]; simp
theorem zxb {P : Prop} (h : P := by
 go_region
 all_goals
  go_wp2
  go_ret2
  exact ⟨by rw [HF.out.1, HF.out.2]; rfl, by first | exact zwj _ _ | exact (zwj _ _).drew⟩) : P := h
theorem zyo {P : Prop} (h : P := by
 go_round
 case rel => exact ⟨k + 1, by omega, by go_num, by rw [HT.out, HP.out, HE.out]; show (true && (V.digB s[k].toNat == false)) = true; rw [HD.out]; rfl⟩
 case measure => simp [intOf]; omega) : P := h
theorem zyp {P : Prop} (h : P := by
 go_round
 case rel => exact ⟨k + 1, by omega, by go_num, by rw [HT.out, HP.out, HE.out]; show (true && (V.digB s[k].toNat == true)) = true; rw [HD.out]; rfl⟩
 case measure => simp [intOf]; omega) : P := h
theorem z0o {P : Prop} (h : P := by
 refine zwg ⟨ye ?_, ye ?_⟩
 ·rw [zjn, this.1]; simp [V.qb]
 ·rw [Lib.extract_to_end, this.2]; simp [V.qb]) : P := h
theorem zgk (s : ByteArray) (d : Bool) (w : World) (hs : s.size ≤ maxLen) :
  Calls Tryz.prog 259 #[.string s, .bool d] w fun e w' => e = .returned (.tuple #[.string ⟨(V.qb s.data.toList d).1.toArray⟩, .string ⟨(V.qb s.data.toList d).2.toArray⟩]) /\ Below w.heap.size w w' := by
 unfold maxLen at hs
 go_enter Tryz.func259, Tryz.ntmps259
 go_wp2
 go_loop [6] (fun i => ∃ k : Nat, k ≤ s.size /\ i = .int .i64 k /\ (s.data.toList.take k).all (fun c => V.dig c == d) = true) (fun i => s.size - (intOf i).toNat)
 case atStart => exact ⟨0, Nat.zero_le _, rfl, rfl⟩
 case round =>
  obtain ⟨k, hk, rfl, hp⟩ := hrel
  have HP := zwg hp
  clear hp
  have fin : (k = s.size ∨ ∃ h : k < s.size, (V.digB s[k].toNat == d) = false) -> Hid (s.extract 0 k = ⟨(V.qb s.data.toList d).1.toArray⟩ /\ s.extract k s.size = ⟨(V.qb s.data.toList d).2.toArray⟩) := fun h => by
   have := V.ztn s.data.toList (fun c => V.dig c == d) k (by rw [zi]; exact hk) HP.out (by
     rcases h with h | ⟨h, h2⟩
     · left; rw [zi]; exact h
     · right
       have e : s.data.toList[k]'(by rw [zi]; exact h) = s[k] := by simp; rfl
       exact ⟨by rw [zi]; exact h, by rw [e]; exact h2⟩)
   exact z0o
  have FIN := zwg fin
  clear fin
  by_cases hlt : k < s.size
  ·have hl : k < s.data.toList.length := by rw [zi]; exact hlt
   have HT := zwg (V.zcn (p := fun c => V.dig c == d) hl)
   have HE : Hid (s.data.toList[k] = s[k]) := zwg (by simp; rfl)
   rcases hD : V.digB s[k].toNat with _ | _ <;> cases d
   all_goals
    have HD := zwg hD
    clear hD
    go_wp2_with fail
    refine (wh _ _).mono ?_
    rintro e w' ⟨rfl, rfl⟩
    simp only [HD.out]
    go_wp2
   ·exact zyo
   ·have HF := FIN.out (.inr ⟨hlt, by rw [HD.out]; rfl⟩)
    exact zxb
   ·have HF := FIN.out (.inr ⟨hlt, by rw [HD.out]; rfl⟩)
    exact zxb
   ·exact zyp
  ·have HF := FIN.out (.inl (by omega))
   go_wp2
   exact zxb
theorem or128 (c : UInt8) : bits .or .u8 (c.toNat : Int) 128 = ((c ||| 128).toNat : Int) := by
 have h : ∀ n : Fin 256, bits .or .u8 ((n.val : Nat) : Int) 128 = (((n.val ||| 128 : Nat)) : Int) := by decide +kernel
 have := h ⟨c.toNat, c.toNat_lt⟩
 rw [this, UInt8.toNat_or]; rfl
theorem zt3 {s : ByteArray} {i : Nat} (h : i < s.size) : s.data.toList.getD i 0 = s[i] := by
 have : i < s.data.toList.length := by rw [zi]; exact h
 simp [List.getD, List.getElem?_eq_getElem this]; rfl
theorem zz2 {P : Prop} (h : P := by
 go_enter Tryz.func261, Tryz.ntmps261
 go_wp2
 go_ret
 exact ⟨zv HW.out.symm, rfl⟩) : P := h
theorem z0s {P : Prop} (h : P := by
 rw [zwk]; intro e; apply h1; rw [← UInt8.toNat_inj]
 have : s[i].toNat = 126 := by omega
 rw [this]; rfl) : P := h
theorem zj2 (s : ByteArray) (i : Nat) (w : World) (_hs : s.size ≤ maxLen) (_hi : i ≤ maxLen) :
  Calls Tryz.prog 261 #[.string s, .int .i64 i] w fun e w' => e = .returned (.int .u8 (V.wt s.data.toList i)) /\ w = w' := by
 unfold maxLen at _hs _hi
 by_cases hlt : i < s.size
 ·have HG := zwg (zt3 hlt)
  by_cases h1 : s[i] = 126
  ·have HW : Hid (V.wt s.data.toList i = 1) := zwg (by unfold V.wt; rw [if_neg (by rw [zi]; omega), HG.out, if_pos h1])
   have hb : ((s[i].toNat : Int) == 126) = true := by rw [h1]; rfl
   clear h1
   exact zz2
  ·have hb : ((s[i].toNat : Int) == 126) = false := by
    exact z0s
   rcases hL : V.letB s[i].toNat with _ | _
   ·have HW : Hid (V.wt s.data.toList i = (s[i] ||| 128).toNat) := zwg (by
      unfold V.wt; rw [if_neg (by rw [zi]; omega), HG.out, if_neg h1, if_neg]
      unfold V.lett; rw [hL]; simp)
    have HL := zwg hL
    clear hL h1
    go_enter Tryz.func261, Tryz.ntmps261
    go_wp2_with fail
    refine (zdf _ _).mono ?_
    rintro e w' ⟨rfl, rfl⟩
    simp only [HL.out]
    go_wp2
    go_ret
    refine ⟨?_, rfl⟩
    rw [HW.out, ← or128]
    rfl
   ·have HW : Hid (V.wt s.data.toList i = s[i].toNat) := zwg (by
      unfold V.wt; rw [if_neg (by rw [zi]; omega), HG.out, if_neg h1, if_pos]
      unfold V.lett; rw [hL])
    have HL := zwg hL
    clear hL h1
    go_enter Tryz.func261, Tryz.ntmps261
    go_wp2_with fail
    refine (zdf _ _).mono ?_
    rintro e w' ⟨rfl, rfl⟩
    simp only [HL.out]
    go_wp2
    go_ret
    exact ⟨zv HW.out.symm, rfl⟩
 ·have HW : Hid (V.wt s.data.toList i = 2) := zwg (by unfold V.wt; rw [if_pos (by rw [zi]; omega)])
  exact zz2
theorem zp7 (x : Int) (w : World) :
  Calls Tryz.prog 262 #[.int .u8 x] w fun e w' => e = .returned (.bool false) /\ w = w' := by
 have h : (x != x) = false := by simp
 go_enter Tryz.func262, Tryz.ntmps262
 go_wp2
 go_ret
 exact ⟨zg (by simp), rfl⟩
theorem zpz (x y : Int) (w : World) :
  Calls Tryz.prog 260 #[.int .u8 x, .int .u8 y] w fun e w' => e = .returned (.int .i64 (Lib.compareInt x y)) /\ w = w' := by
 go_enter Tryz.func260, Tryz.ntmps260
 go_wp2_with (go_at_call 262; refine (zp7 _ _).mono ?_; rintro e w' ⟨rfl, rfl⟩)
 all_goals go_ret
 all_goals exact ⟨zv (by unfold Lib.compareInt; (repeat' split) <;> omega), rfl⟩
open Go.RowKit
theorem zpo (x y : V.Bs) (k : Nat) (hk : k < max x.length y.length) (h : ∀ j, j < k -> Lib.compareInt (V.wt x j) (V.wt y j) = 0) (h0 : Lib.compareInt (V.wt x k) (V.wt y k) ≠ 0) :
  V.wcmp x y = Lib.compareInt (V.wt x k) (V.wt y k) := by
 have e : ∀ j, j < max x.length y.length -> ((List.range (max x.length y.length)).map fun i => Lib.compareInt (V.wt x i) (V.wt y i)).getD j 0 = Lib.compareInt (V.wt x j) (V.wt y j) := fun j hj => by
  simp [List.getD, List.getElem?_range hj]
 unfold V.wcmp
 rw [V.orI_hit _ k (fun j hj => by rw [e j (by omega)]; exact h j hj) (by simpa using hk) (by rw [e k hk]; exact h0), e k hk]
theorem zlo (x y : V.Bs) (h : ∀ j, j < max x.length y.length -> Lib.compareInt (V.wt x j) (V.wt y j) = 0) : V.wcmp x y = 0 := by
 have e : ∀ j, j < max x.length y.length -> ((List.range (max x.length y.length)).map fun i => Lib.compareInt (V.wt x i) (V.wt y i)).getD j 0 = Lib.compareInt (V.wt x j) (V.wt y j) := fun j hj => by
  simp [List.getD, List.getElem?_range hj]
 unfold V.wcmp
 exact V.orI_zero _ (fun j hj => by have g0 : j < max x.length y.length := by simpa using hj
                                    rw [e j g0]; exact h j g0)
theorem zxv {P : Prop} (h : P := by
 by_cases ha : a.data.toList = []
 ·have hb : b.data.toList ≠ [] := fun e => HNE.out (by rw [ha, e]; rfl)
  have := V.yi _ hb
  rw [hyb] at this
  simp only [hqb, zi] at this
  simp only at l1 l3; omega
 ·have := V.yi _ ha
  rw [hxa] at this
  simp only [hpa, zi] at this
  simp only at l2 l4; omega) : P := h
theorem zx2 {P : Prop} (h : P := by
 have HR : Hid (V.qk s.data.toList t.data.toList = V.numbers p q) := zwg (by
   rw [HSTEP.out, HZ0.out, V.uy, V.ke h0])
 have hb : (V.numbers p q != 0) = true := by simpa using h0
 generalize V.numbers p q = c at *
 clear h0
 go_wp2
 go_ret
 exact ⟨zv HR.out.symm, HB5.out⟩) : P := h
theorem zyi {P : Prop} (h : P := by
 have HR : Hid (V.qk s.data.toList t.data.toList = 0) := zwg (by
   rw [Lib.toList_data] at hea heb
   rw [← HT.out, List.isEmpty_iff.1 hea, List.isEmpty_iff.1 heb]; rfl)
 go_wp2
 go_ret
 exact ⟨zv HR.out.symm, HB.out⟩) : P := h
theorem z0j {P : Prop} (h : P := by
 clear h0
 go_wp2
 go_ret
 exact ⟨zv HR.out.symm, HB2.out⟩) : P := h
theorem zuu (s t : ByteArray) (w : World) (hs : s.size ≤ maxLen) (ht : t.size ≤ maxLen) :
  Calls Tryz.prog 255 #[.agg #[], .string s, .string t] w fun e w' => e = .returned (.int .i64 (V.qk s.data.toList t.data.toList)) /\ Below w.heap.size w w' := by
 unfold maxLen at hs ht
 go_enter Tryz.func255, Tryz.ntmps255
 go_wp2
 go_loopw [1, 2] (fun v1 v2 wr => ∃ a b : ByteArray, v1 = .string a /\ v2 = .string b /\ a.size ≤ s.size /\ b.size ≤ t.size /\ V.qk a.data.toList b.data.toList = V.qk s.data.toList t.data.toList /\ Below w.heap.size w wr) (fun v1 v2 _ => szOf v1 + szOf v2)
 case atStart => exact ⟨s, t, rfl, rfl, zwi _, zwi _, rfl, (zwj _ _).alloc (zwi _) _⟩
 case round =>
  obtain ⟨a, b, rfl, rfl, h4, h5, g4, hB⟩ := hrel
  have HT := zwg g4
  have HB := zwg hB
  clear g4 hB
  rcases hea : a.toList.isEmpty with _ | _ <;> rcases heb : b.toList.isEmpty with _ | _
  case true.true =>
   exact zyi
  all_goals
   have g1 : ¬ (a.data.toList.isEmpty && b.data.toList.isEmpty) = true := by rw [← Lib.toList_data, ← Lib.toList_data, hea, heb]; simp
   have g0 := V.zed _ _ g1
   have HNE := zwg g1
   clear g1
   obtain ⟨x, a1, hxa⟩ : ∃ x a1, V.qb a.data.toList false = (x, a1) := ⟨_, _, rfl⟩
   obtain ⟨y, b1, hyb⟩ : ∃ y b1, V.qb b.data.toList false = (y, b1) := ⟨_, _, rfl⟩
   obtain ⟨p, a2, hpa⟩ : ∃ p a2, V.qb a1 true = (p, a2) := ⟨_, _, rfl⟩
   obtain ⟨q, b2, hqb⟩ : ∃ q b2, V.qb b1 true = (q, b2) := ⟨_, _, rfl⟩
   have l1 := V.qn a.data.toList false
   have l2 := V.qn b.data.toList false
   have l3 := V.qn a1 true
   have l4 := V.qn b1 true
   rw [hxa, zi] at l1
   rw [hyb, zi] at l2
   rw [hpa] at l3
   rw [hqb] at l4
   have l5 : a2.length + b2.length < a.size + b.size := by
    exact zxv
   rw [hxa, hyb] at g0
   simp only [hpa, hqb] at g0
   rw [HT.out] at g0
   have HSTEP := zwg g0
   have g6 := zwg hxa
   have g7 := zwg hyb
   have g8 := zwg hpa
   have g9 := zwg hqb
   simp only at l1 l2 l3 l4
   have m1 : x.length ≤ s.size := by omega
   have m2 : y.length ≤ t.size := by omega
   have m3 : a1.length ≤ s.size := by omega
   have m4 : b1.length ≤ t.size := by omega
   have m5 : a2.length ≤ s.size := by omega
   have m6 : b2.length ≤ t.size := by omega
   have L5 := zwg l5
   clear g0 hxa hyb hpa hqb l1 l2 l3 l4 l5
   go_wp2_with fail
   refine (zgk a false _ (by unfold maxLen; omega)).mono ?_
   rintro e w1 ⟨rfl, hb1⟩
   simp only [g6.out]
   go_wp2_with fail
   refine (zgk b false _ (by unfold maxLen; omega)).mono ?_
   rintro e w2 ⟨rfl, hb2⟩
   simp only [g7.out]
   have HB2 := zwg (HB.out.trans ((hb1.trans (hb2.mono hb1.size)).mono HB.out.size))
   clear hb1 hb2
   go_wp2
   go_loop [9] (fun i => ∃ k : Nat, k ≤ max x.length y.length /\ i = .int .i64 k /\ ∀ j, j < k -> Lib.compareInt (V.wt x j) (V.wt y j) = 0) (fun i => max x.length y.length - (intOf i).toNat)
   case atStart => exact ⟨0, Nat.zero_le _, rfl, fun j hj => by omega⟩
   case round =>
    obtain ⟨k, hk, rfl, hz⟩ := hrel
    have HZ := zwg hz
    clear hz
    by_cases hlt : k < max x.length y.length
    ·have h3 : (k < x.length) ∨ (¬ k < x.length /\ k < y.length) := by omega
     have g2 := zpo x y k hlt HZ.out
     have g5 := zwg g2
     have HLT := zwg hlt
     clear g2 hlt
     rcases h3 with h1 | ⟨h1, h2⟩
     all_goals
      go_wp2_with fail
      refine (zj2 ⟨x.toArray⟩ k _ (by show x.length ≤ _; unfold maxLen; omega) (by unfold maxLen; omega)).mono ?_
      rintro e w' ⟨rfl, rfl⟩
      go_wp2_with fail
      refine (zj2 ⟨y.toArray⟩ k _ (by show y.length ≤ _; unfold maxLen; omega) (by unfold maxLen; omega)).mono ?_
      rintro e w' ⟨rfl, rfl⟩
      go_wp2_with fail
      refine (zpz _ _ _).mono ?_
      rintro e w' ⟨rfl, rfl⟩
      simp only
      by_cases h0 : Lib.compareInt (V.wt x k) (V.wt y k) = 0
      ·have HR : Hid (∀ j, j < k + 1 -> Lib.compareInt (V.wt x j) (V.wt y j) = 0) := zwg (fun j hj => by
         by_cases e : j = k
         · subst e; exact h0
         · exact HZ.out j (by omega))
       rw [h0]
       have h6 := HLT.out
       exact zym
      ·have HR : Hid (V.qk s.data.toList t.data.toList = Lib.compareInt (V.wt x k) (V.wt y k)) := zwg (by
         rw [HSTEP.out, g5.out h0, V.ke h0])
       have hb : (Lib.compareInt (V.wt x k) (V.wt y k) != 0) = true := by simpa using h0
       generalize Lib.compareInt (V.wt x k) (V.wt y k) = c at *
       exact z0j
    ·have HZ0 : Hid (V.wcmp x y = 0) := zwg (zlo x y (fun j hj => HZ.out j (by omega)))
     have h1 : ¬ k < x.length := by omega
     have h2 : ¬ k < y.length := by omega
     clear hlt
     go_wp2_with fail
     refine (zgk ⟨a1.toArray⟩ true _ (by show a1.length ≤ _; unfold maxLen; omega)).mono ?_
     rintro e w3 ⟨rfl, hb3⟩
     simp only [g8.out]
     go_wp2_with fail
     refine (zgk ⟨b1.toArray⟩ true _ (by show b1.length ≤ _; unfold maxLen; omega)).mono ?_
     rintro e w4 ⟨rfl, g3⟩
     simp only [g9.out]
     go_wp2_with fail
     refine (ws ⟨p.toArray⟩ ⟨q.toArray⟩ _).mono ?_
     rintro e w5 ⟨rfl, hb5⟩
     simp only
     have HB5 := zwg (HB2.out.trans ((hb3.trans ((g3.trans (hb5.mono g3.size)).mono hb3.size)).mono HB2.out.size))
     clear hb3 g3 hb5
     by_cases h0 : V.numbers p q = 0
     ·have HR : Hid (V.qk a2 b2 = V.qk s.data.toList t.data.toList) := zwg (by
        rw [HSTEP.out, HZ0.out, h0]; rfl)
      rw [h0]
      clear h0
      go_wp2
      go_roundw
      case rel => exact ⟨⟨a2.toArray⟩, ⟨b2.toArray⟩, rfl, rfl, m5, m6, by simp only ; exact HR.out, HB5.out⟩
      case measure => exact L5.out
     ·exact zx2
theorem texts_at (x y : V.Bs) (w : World) (hx : x.length ≤ 1000) (hy : y.length ≤ 1000) :
  Calls Tryz.prog 255 #[.agg #[], .string ⟨x.toArray⟩, .string ⟨y.toArray⟩] w fun e w' => e = .returned (.int .i64 (V.qk x y)) /\ Below w.heap.size w w' := by
 have h := zuu ⟨x.toArray⟩ ⟨y.toArray⟩ w (by show x.length ≤ _; unfold maxLen; omega) (by show y.length ≤ _; unfold maxLen; omega)
 simp only  at h
 exact h
theorem zhy {E v a b c : V.Bs} (h : V.jg E v = some (a, b, c)) : a = E /\ b.length ≤ v.length /\ c.length ≤ v.length := by
 unfold V.jg at h
 split at h
 ·split at h
  ·simp at h; obtain ⟨rfl, rfl, rfl⟩ := h; simp
  ·cases h
 ·split at h
  ·split at h
   ·simp at h; obtain ⟨rfl, rfl, rfl⟩ := h; simp; omega
   ·cases h
  ·cases h
theorem zgw {v a b c : V.Bs} (h : V.zz v = some (a, b, c)) : a.length ≤ v.length /\ b.length ≤ v.length /\ c.length ≤ v.length := by
 unfold V.zz at h
 have hl := yr 58 v
 split at h
 ·split at h
  ·have := zhy h; obtain ⟨rfl, h1, h2⟩ := this; omega
  ·cases h
 ·have := zhy h; obtain ⟨rfl, h1, h2⟩ := this; simp; omega
theorem zjt (s t : ByteArray) (x0 x1 x2 y0 y1 y2 : V.Bs) (w : World) (hm : zj w) (hs : s.size ≤ 1000) (ht : t.size ≤ 1000)
  (hp : V.zz s.data.toList = some (x0, x1, x2)) (hq : V.zz t.data.toList = some (y0, y1, y2)) :
  Calls Tryz.prog 251 #[.agg #[], .string s, .string t] w fun e w' => e = .returned (.int .i64 (V.ul (x0, x1, x2) (y0, y1, y2))) /\ Below w.heap.size w w' := by
 have HF : Hid (V.ul (x0, x1, x2) (y0, y1, y2) = V.orI [V.numbers x0 y0, V.qk x1 y1, V.qk x2 y2]) := rfl
 have g6 : Below w.heap.size w (w.alloc (.cells #[] 204)) := (zwj _ w).alloc (zwi _) _
 have g8 := hm.below g6
 have g9 := zgw hp
 have h0 := zgw hq
 rw [zi] at g9 h0
 obtain ⟨lx0, lx1, lx2⟩ := g9
 obtain ⟨ly0, ly1, ly2⟩ := h0
 have HP := zwg hp
 have HQ := zwg hq
 have HB0 := zwg g6
 clear hp hq g6
 go_enter Tryz.func251, Tryz.ntmps251
 go_wp2_with fail
 refine (zau s _ g8 hs).mono ?_
 rintro e w1 h
 obtain ⟨rfl, hb1⟩ := zc1 h HP.out
 have g7 := HB0.out.trans (hb1.mono HB0.out.size)
 have HB1 := zwg g7
 have hm1 := hm.below g7
 clear h hb1 g7
 go_wp2_with fail
 have g4 : Below w1.heap.size w1 (w1.alloc (.cells #[.string ⟨x0.toArray⟩, .string ⟨x1.toArray⟩, .string ⟨x2.toArray⟩] 280)) := (zwj _ _).alloc (zwi _) _
 refine (zau t _ (hm1.below g4) ht).mono ?_
 rintro e w2 h
 obtain ⟨rfl, hb2⟩ := zc1 h HQ.out
 have h1 : ∀ i, w2.cell? ⟨w1.heap.size, i, none⟩ = #[Value.string ⟨x0.toArray⟩, .string ⟨x1.toArray⟩, .string ⟨x2.toArray⟩][i]? := jb hb2 (by simp) (fun i => by rw [zh, if_pos rfl])
 have h2 := g4.trans (hb2.mono g4.size)
 have h3 : w1.heap.size < w2.heap.size := Nat.lt_of_lt_of_le (by simp) hb2.size
 have HB2 := zwh HB1 h2
 clear h hb2 g4 h2
 go_wp2_with fail
 obtain ⟨W3, g3⟩ : ∃ W3, W3 = w2.alloc (.cells #[.string ⟨y0.toArray⟩, .string ⟨y1.toArray⟩, .string ⟨y2.toArray⟩] 280) := ⟨_, rfl⟩
 rw [← g3]
 have hb3 : Below w2.heap.size w2 W3 := by rw [g3]; exact (zwj _ _).alloc (zwi _) _
 have e : ∀ i, W3.cell? ⟨w1.heap.size, i, none⟩ = #[Value.string ⟨x0.toArray⟩, .string ⟨x1.toArray⟩, .string ⟨x2.toArray⟩][i]? := jb hb3 h3 h1
 have g : ∀ i, W3.cell? ⟨w2.heap.size, i, none⟩ = #[Value.string ⟨y0.toArray⟩, .string ⟨y1.toArray⟩, .string ⟨y2.toArray⟩][i]? := fun i => by rw [g3, zh, if_pos rfl]
 have e0 := e 0
 have e1 := e 1
 have e2 := e 2
 have g0 := g 0
 have g1 := g 1
 have g2 := g 2
 simp at e0 e1 e2 g0 g1 g2
 have HB3 := zwh HB2 hb3
 have h5 : w2.heap.size < W3.heap.size := by rw [g3]; simp
 have hz4 : w1.heap.size < W3.heap.size := by omega
 clear g3 hb3 e g h1 g8 hm1 HB1 HB2 HB0
 go_region_held3 (fun W' => (W'.cell? ⟨w1.heap.size, 0, none⟩ = some (.string ⟨x0.toArray⟩) /\ W'.cell? ⟨w1.heap.size, 1, none⟩ = some (.string ⟨x1.toArray⟩) /\ W'.cell? ⟨w1.heap.size, 2, none⟩ = some (.string ⟨x2.toArray⟩) /\
     W'.cell? ⟨w2.heap.size, 0, none⟩ = some (.string ⟨y0.toArray⟩) /\ W'.cell? ⟨w2.heap.size, 1, none⟩ = some (.string ⟨y1.toArray⟩) /\ W'.cell? ⟨w2.heap.size, 2, none⟩ = some (.string ⟨y2.toArray⟩)))
  (first
    | go_keep
    | (go_split_ands
       refine ⟨?_, ?_, ?_, ?_, ?_, ?_⟩ <;> (refine zen g5 ?_; first | assumption | (simp only [World.cell?_drew]; assumption))))
  (first
    | (go_at_call 229; refine (ws _ _ _).mono ?_; rintro e wq ⟨rfl, g5⟩)
    | (go_at_call 255; refine (texts_at _ _ _ (by omega) (by omega)).mono ?_; rintro e wq ⟨rfl, g5⟩)
    | (go_at_call 152; refine (znw _ [V.numbers x0 y0, V.qk x1 y1, V.qk x2 y2] _ (by simp) (zj6 _ _ _ _ _)).mono ?_; rintro e wq ⟨rfl, rfl⟩))
 rename_i wa hba wb hbb hS
 have h4 : Below W3.heap.size W3 wq := ((zwj W3.heap.size W3).drew).trans (Below.trans (show Below W3.heap.size W3.drew wa from hba) ((hbb.trans (g5.mono hbb.size)).mono hba.size))
 have HB4 := zwh HB3 h4
 clear e0 e1 e2 g0 g1 g2 hba hbb g5 h4 hS HB3 h3 h5 hz4
 go_wp2
 go_ret
 exact ⟨zv HF.out.symm, HB4.out.alloc HB4.out.size _⟩
open Go.RowKit
def zuc (l : List V.Bs) (w : World) (e : Ending) (w' : World) : Prop := ∃ v, e = .returned v /\ Strs w' v l /\ Below w.heap.size w w'
def lenOf : Value -> Nat
 | .slice _ n _ => n
 | _ => 0
theorem zrs {L : List V.Bs} {k : Nat} (hk : k < L.length) (h : (V.value (L.getD k [])).isEmpty = true) : V.qe (L.take (k + 1)) = V.qe (L.take k) := by
 rw [List.take_succ_eq_append_getElem hk]
 rw [jw hk] at h
 exact V.zld _ _ h
theorem zq5 {L : List V.Bs} {k : Nat} (hk : k < L.length) (h : (V.value (L.getD k [])).isEmpty = false) : V.qe (L.take (k + 1)) = L.take (k + 1) := by
 rw [List.take_succ_eq_append_getElem hk]
 rw [jw hk] at h
 exact V.zlb _ _ h
theorem zn4 (s : ByteArray) (w : World) (hm : zj w) (hs : s.size ≤ 1000) :
  Calls Tryz.prog 266 #[.agg #[], .string s] w (zuc (V.js s.data.toList) w) := by
 have g1 : Below w.heap.size w (w.alloc (.cells #[] 205)) := (zwj _ w).alloc (zwi _) _
 have g2 := hm.below g1
 obtain ⟨L, hL⟩ : ∃ L, V.zm 46 s.data.toList = L := ⟨_, rfl⟩
 have HP : Hid (V.js s.data.toList = V.qe L) := zwg (by unfold V.js; rw [hL])
 have g5 : L.length ≤ s.size + 1 := by have := jm 46 s.data.toList; rw [hL, zi] at this; exact this
 have HL := zwg hL
 have HB0 := zwg g1
 clear hL g1
 go_enter Tryz.func266, Tryz.ntmps266
 go_wp2_with fail
 refine (ku s 46 _ g2 (by omega)).mono ?_
 rintro e w1 ⟨rfl, g0⟩
 simp only [HL.out, World.size_alloc] at g0 ⊢
 have hz : w.heap.size + 1 < w1.heap.size := by rw [g0]; simp
 have hcs : ∀ j, j < L.length -> w1.cell? ⟨w.heap.size + 1, j, none⟩ = some (.string ⟨(L.getD j []).toArray⟩) := fun j hj => by
  rw [g0, zh, if_pos (by simp), wv L j hj, jw hj]
 have HB1 : Hid (Below w.heap.size w w1) := zwg (by rw [g0]; exact HB0.out.alloc HB0.out.size _)
 have g3 := zwg hcs
 clear g0 hcs HB0 g2
 go_wp2
 go_loop [5] (fun v => ∃ k : Nat, k ≤ L.length /\ v = .slice (some ⟨w.heap.size + 1, 0, none⟩) k L.length /\ V.qe (L.take k) = V.qe L) (fun v => lenOf v)
 case atStart => exact ⟨L.length, zwi _, rfl, by rw [List.take_of_length_le (zwi _)]⟩
 case round =>
  obtain ⟨k, hk, rfl, g4⟩ := hrel
  have HST := zwg g4
  clear g4
  have FIN : Hid (∀ l, l = L.take k -> V.qe L = l -> zuc (V.js s.data.toList) w (.returned (.slice (some ⟨w.heap.size + 1, 0, none⟩) k L.length)) w1) := zwg (fun l hl hs => by
    refine ⟨_, rfl, ⟨some ⟨w.heap.size + 1, 0, none⟩, L.length, ?_, fun j hj => ⟨_, _, rfl, hz, ?_⟩⟩, HB1.out⟩
    · rw [HP.out, hs, hl, List.length_take, Nat.min_eq_left hk]
    · have hlt : j < L.length := by
        rw [HP.out, hs, hl, List.length_take] at hj; omega
      rw [Nat.zero_add, g3.out j hlt, jw hlt]
      congr 3
      have e : V.js s.data.toList = L.take k := by rw [HP.out, hs, hl]
      simp only [e, List.getElem_take])
  cases k with
  | zero =>
   have HF := zwg (FIN.out (L.take 0) rfl (by rw [← HST.out]; rfl))
   go_wp2
   go_ret
   exact HF.out
  | succ k =>
   have hcell := g3.out k (by omega)
   have g6 : ((k + 1 : Nat) : Int) = (k : Int) + 1 := by omega
   rcases hv : (V.value (L.getD k [])).isEmpty with _ | _
   all_goals
    have HV := zwg hv
    clear hv
    generalize hX : L.getD k [] = X at *
    have HX := zwg hX
    clear hX
    go_wp2_with fail
    refine (zhj ⟨X.toArray⟩ _).mono ?_
    rintro e w' ⟨rfl, rfl⟩
    simp only
    have hv := HV.out
    go_wp2
   ·have HF := zwg (FIN.out (L.take (k + 1)) rfl (by rw [← HST.out]; exact zq5 (by omega) (by rw [HX.out]; exact HV.out)))
    go_ret
    exact HF.out
   ·go_round
    case rel => exact ⟨k, by omega, rfl, by rw [← zrs (k := k) (by omega) (by rw [HX.out]; exact HV.out)]; exact HST.out⟩
    case measure => simp [lenOf]
theorem zra (a b : V.Bs) (W : World) : Calls Tryz.prog 229 (#[.string ⟨a.toArray⟩, .string ⟨b.toArray⟩] ++ #[]) W fun e w' => e = .returned (.int .i64 (V.numbers a b)) /\ Below W.heap.size W w' := by
 have h := ws ⟨a.toArray⟩ ⟨b.toArray⟩ W
 simp only  at h
 exact h
theorem zou (l : List V.Bs) : ∀ x ∈ V.qe l, x ∈ l := by
 intro x hx
 unfold V.qe at hx
 have := (List.dropWhile_sublist (l := l.reverse) (fun x => (V.value x).isEmpty)).subset (List.mem_reverse.1 hx)
 exact List.mem_reverse.1 this
theorem znl (l : List V.Bs) : (V.qe l).length ≤ l.length := by
 unfold V.qe
 have := (List.dropWhile_sublist (l := l.reverse) (fun x => (V.value x).isEmpty)).length_le
 simpa using this
theorem zkv (s t : ByteArray) (w : World) (hm : zj w) (hs : s.size ≤ 1000) (ht : t.size ≤ 1000) :
  Calls Tryz.prog 263 #[.agg #[], .string s, .string t] w fun e w' => e = .returned (.int .i64 (V.zbl s.data.toList t.data.toList)) /\ Below w.heap.size w w' := by
 have HF : Hid (V.zbl s.data.toList t.data.toList = V.je V.numbers (V.js s.data.toList) (V.js t.data.toList)) := rfl
 have g1 : Below w.heap.size w (w.alloc (.cells #[] 205)) := (zwj _ w).alloc (zwi _) _
 have g3 := hm.below g1
 have sz : ∀ r : ByteArray, r.size ≤ 1000 -> (V.js r.data.toList).length ≤ 2000 /\ ∀ x ∈ V.js r.data.toList, x.length ≤ 1000 := fun r hr => by
  refine ⟨?_, fun x hx => ?_⟩
  ·have h1 := znl (V.zm 46 r.data.toList)
   have h2 := jm 46 r.data.toList
   rw [zi] at h2
   unfold V.js; omega
  ·have h1 := ki 46 _ x (zou _ x hx)
   rw [zi] at h1; omega
 have SZ := zwg sz
 have HB0 := zwg g1
 clear sz g1
 go_enter Tryz.func263, Tryz.ntmps263
 go_wp2
 go_region_held3 (fun W' => zj W' /\ True)
  (first
    | (go_split_ands; exact ⟨zj.below (by assumption) g0, trivial⟩)
    | (exact ⟨g3, trivial⟩)
    | go_keep)
  (first
    | (go_at_call 266; refine (zn4 _ _ (by first | assumption | exact And.left (b := True) (by assumption) | exact zj.below (by assumption) (by assumption)) (by assumption)).mono ?_; rintro e wq ⟨vq, rfl, g4, g0⟩)
    | (go_at_call 230; refine (zdp _ _ (V.js s.data.toList) (V.js t.data.toList) _ #[] V.numbers _ (by first | assumption | exact Strs.below (by assumption) (by assumption)) (by first | assumption | exact Strs.below (by assumption) (by assumption)) (SZ.out s hs).1 (SZ.out t ht).1 (SZ.out s hs).2 (SZ.out t ht).2 (enters_of Tryz.func229 (by kernel_rfl) rfl) (fun x y W _ _ => zra x y W)).mono ?_; rintro e wq ⟨rfl, g0⟩))
 rename_i wa va hsa hba wb hbb hH
 have g2 : Below w.heap.size w wq := HB0.out.trans ((((zwj _ (w.alloc (.cells #[] 205))).drew).trans (Below.trans (show Below (w.alloc (.cells #[] 205)).heap.size (w.alloc (.cells #[] 205)).drew wa from hba) ((hbb.trans (g0.mono hbb.size)).mono hba.size))).mono HB0.out.size)
 have HBX := zwg g2
 clear hsa hba hbb hH g4 g0 g2
 go_wp2
 go_ret
 exact ⟨zv HF.out.symm, HBX.out⟩
open Go.RowKit
theorem Strs.at {w : World} {a : Option Addr} {n cap : Nat} {l : List V.Bs} (h : Strs w (.slice a n cap) l) (j : Nat) (hj : j < l.length) :
  ∃ b off, a = some ⟨b, off, none⟩ /\ b < w.heap.size /\ w.cell? ⟨b, off + j, none⟩ = some (.string ⟨(l.getD j []).toArray⟩) := by
 obtain ⟨a', c, e, hc⟩ := h
 obtain ⟨b, off, ea, hb, hcell⟩ := hc j hj
 cases e
 refine ⟨b, off, ea, hb, ?_⟩
 rw [List.getD_eq_getElem?_getD, List.getElem?_eq_getElem hj]
 exact hcell
theorem Strs.slice {w : World} {v : Value} {l : List V.Bs} (h : Strs w v l) : ∃ a cap, v = .slice a l.length cap := by
 obtain ⟨a, c, e, _⟩ := h
 exact ⟨a, c, e⟩
theorem Strs.head {w : World} {v : Value} {l : List V.Bs} (h : Strs w v l) (h0 : 0 < l.length) :
  ∃ b off cap, v = .slice (some ⟨b, off, none⟩) l.length cap /\ b < w.heap.size /\ ∀ j, j < l.length -> w.cell? ⟨b, off + j, none⟩ = some (.string ⟨(l.getD j []).toArray⟩) := by
 obtain ⟨a, c, e, hc⟩ := h
 obtain ⟨b, off, rfl, hb, _⟩ := hc 0 h0
 refine ⟨b, off, c, e, hb, fun j hj => ?_⟩
 obtain ⟨b', off', ea, _, hcell⟩ := hc j hj
 cases ea
 rw [List.getD_eq_getElem?_getD, List.getElem?_eq_getElem hj]
 exact hcell
open Go.RowKit
open Go.RowKit
theorem zv5 (k : Nat) (w : World) : (method (k + 1) 203 (.agg #[]) "admission/version.compare").run Tryz.prog w = .ok (225, .agg #[]) w := by kernel_rfl
theorem zv3 (k : Nat) (w : World) : (method (k + 1) 204 (.agg #[]) "admission/version.compare").run Tryz.prog w = .ok (251, .agg #[]) w := by kernel_rfl
theorem zv0 (k : Nat) (w : World) : (method (k + 1) 205 (.agg #[]) "admission/version.compare").run Tryz.prog w = .ok (263, .agg #[]) w := by kernel_rfl
end Go.Proofs.YtbikeahmldobkaaGreatDoor
