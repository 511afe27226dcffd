/-
  Lemmas for the law.
-/
import Derived.Test.YtbikeahmldobkaaGreatDoorC41x05
import Derived.Test.YtbikeahmldobkaaGreatDoorC41x12
import Derived.Test.YtbikeahmldobkaaGreatDoorC41x10
set_option linter.all false
set_option maxRecDepth 100000
set_option maxHeartbeats 3200000
namespace Go.Proofs.YtbikeahmldobkaaGreatDoor
open Go.RowKit
variable {F : Fence} {n : Nat} {P : Program}
def HandsP {α : Type} (F : Fence) (n : Nat) (P : Program) (g : Nat) (lb : Array Value) (encs : α -> Array Value) (Kp : World -> World -> Prop) (S Sp : List α -> Prop) (Ok : List α -> α -> Prop) (w : World) (b : Nat) : Prop :=
 ∀ (l : Nat) (J Jx : List α -> World -> Prop) (W : World), Below w.heap.size w W -> (∀ s A v, J s A -> J s (A.setCell ⟨b, 0, none⟩ v)) ->
  (∀ pre x W1, J pre W1 -> Ok pre x -> YieldAt F (n - 1) P l (encs x) W1 fun e W' =>
    (e = .returned (.bool true) /\ J (pre ++ [x]) W' /\ Kp W1 W') ∨ (e = .returned (.bool false) /\ Jx (pre ++ [x]) W')) ->
  J [] W ->
  CallsIn F n P g (#[.func (.yield l) #[] #[]] ++ lb) W fun e W' => (∃ v, e = .returned v) /\ ((∃ xs, S xs /\ J xs W') ∨ (∃ pre, Sp pre /\ Jx pre W'))
structure RoundP {α : Type} (F : Fence) (n : Nat) (P : Program) (B b : Nat) (ps : Array Tmp) (t : Array Value) (assign body : Code) (encs : α -> Array Value) (Kp : World -> World -> Prop) (Ok : List α -> α -> Prop) (I : List α -> World -> Prop) (Ix : Code -> List α -> World -> Prop) (act : α -> Act) : Prop where
 own : OwnFrom B I
 ownx : ∀ c, OwnFrom B (Ix c)
 state : ∀ s A v, I s A -> I s (A.setCell ⟨b, 0, none⟩ v)
 assigned : ∀ (l : Nat) (x : α) (W : World) (K : Act -> World -> Prop), K (act x) W ->
  assign.wpIn (F.inRound l) (n - 1 - 1) P (Exit.then K (fun _ _ _ => False)) { tmps := (ps.zip (encs x)).foldl (fun t (p, v) => t.setIfInBounds p v) t, defers := [] } W
 run : ∀ (l : Nat) (pre : List α) (x : α) (W : World), I pre W -> Ok pre x -> body.wpIn (F.inRound l) (n - 1 - 1) P (ownPostK Kp I Ix (pre ++ [x]) W) (act x) W
theorem RoundP.yields {α : Type} {B b : Nat} {ps : Array Tmp} {t : Array Value} {assign body : Code} {encs : α -> Array Value} {Kp : World -> World -> Prop} {Ok : List α -> α -> Prop} {I : List α -> World -> Prop} {Ix : Code -> List α -> World -> Prop} {act : α -> Act}
  (h : RoundP F n P B b ps t assign body encs Kp Ok I Ix act) {fn : FuncId} (hfn : F.fn fn) (hps : ∀ x, (encs x).size = ps.size)
  (hKt : ∀ {A C D : World}, Kp A C -> Kp C D -> Kp A D) (hKb : ∀ (W : World) (l : Nat) (o o' : Obj), B ≤ l -> W.heap[l]? = some o -> o.isCells = false -> o.isWalk = false -> Kp W (W.putObj l o'))
  {pre : List α} {x : α} {W : World} (hi : I pre W) (hB : Booked B (recd fn t ps assign body B .ready none) W) (hx : Ok pre x) :
  YieldAt F (n - 1 - 1) P (B + 1) (encs x) W fun e W' =>
   (e = .returned (.bool true) /\ (I (pre ++ [x]) W' /\ Booked B (recd fn t ps assign body B .ready none) W') /\ Kp W W') ∨
   (e = .returned (.bool false) /\ ∃ c, Ix c (pre ++ [x]) W' /\ Booked B (recd fn t ps assign body B .done (some c)) W') := by
 have hbusy := hB.turn (recd fn t ps assign body B .busy none)
 have hk0 := hKb W (B + 1) _ (.loop (recd fn t ps assign body B .busy none)) (Nat.le_succ B) hB.at1 rfl rfl
 refine ⟨fn, _, assign, body, run_yield (P := P) (args := encs x) hB.at1 (hps x), roundIn_of_wpIn hfn (h.assigned _ x W _ ⟨_, run_beginRound hB.at1 rfl, ?_⟩)⟩
 refine wpIn_mono (h.run _ pre x _ (hB.own h.own hi _) hx) fun e a3 W3 hp => ?_
 have left : ∀ c, KeepsOthers (W.putObj (B + 1) (.loop (recd fn t ps assign body B .busy none))) W3 -> Ix c (pre ++ [x]) W3 ->
   ∃ c', Ix c' (pre ++ [x]) (W3.putObj (B + 1) (.loop (recd fn t ps assign body B .done (some c)))) /\ Booked B (recd fn t ps assign body B .done (some c')) (W3.putObj (B + 1) (.loop (recd fn t ps assign body B .done (some c)))) :=
  fun c k hx => ⟨c, (hbusy.keep k).own (h.ownx c) hx _, (hbusy.keep k).turn _⟩
 cases e with
 | normal => exact ⟨_, _, (hbusy.keep hp.1).ends none, .inl ⟨rfl, ⟨(hbusy.keep hp.1).own h.own hp.2.2 _, (hbusy.keep hp.1).turn _⟩, hKt (hKt hk0 hp.2.1) (hKb _ _ _ _ (Nat.le_succ B) (hbusy.keep hp.1).at1 rfl rfl)⟩⟩
 | ret => exact ⟨_, _, (hbusy.keep hp.1).ends (some .ret), .inr ⟨rfl, left _ hp.1 hp.2⟩⟩
 | exit id => exact ⟨_, _, (hbusy.keep hp.1).ends (some (.exit id)), .inr ⟨rfl, left _ hp.1 hp.2⟩⟩
 | goto c => exact ⟨_, _, (hbusy.keep hp.1).ends (some (.goto c)), .inr ⟨rfl, left _ hp.1 hp.2⟩⟩
 | panic ch => exact hp.elim
 | outgrown => exact hp.elim
theorem zcd {α : Type} {g : Operand} {ps : Array Tmp} {assign body : Code} {Q : Exit -> Act -> World -> Prop} {a : Act} {w : World}
  (hro : F.round = none) (h1 : 1 ≤ n) {gf : Nat} {lb : Array Value} (hg : a.eval g = .func (.func gf) #[] lb) (hFg : F.fn gf) (eg : ∀ args w, (callFunc gf args).run P w = .ok (.enter gf args) w)
  {encs : α -> Array Value} {Kp : World -> World -> Prop} {S Sp : List α -> Prop} {Ok : List α -> α -> Prop} {b : Nat} (hb : b < w.heap.size) (hseq : HandsP F (n - 1) P gf lb encs Kp S Sp Ok w b)
  (hKt : ∀ {A B C : World}, Kp A B -> Kp B C -> Kp A C) (hKb : ∀ (W : World) (l : Nat) (o o' : Obj), w.heap.size ≤ l -> W.heap[l]? = some o -> o.isCells = false -> o.isWalk = false -> Kp W (W.putObj l o')) (hps : ∀ x, (encs x).size = ps.size)
  {I : List α -> World -> Prop} {Ix : Code -> List α -> World -> Prop} {act : α -> Act} (hr : RoundP F n P w.heap.size b ps a.tmps assign body encs Kp Ok I Ix act) (h0 : I [] w)
  (hdone : ∀ (D : Nat) (xs : List α) (W : World), w.heap.size ≤ D -> S xs -> I xs W -> W.heap[D]? = some (.deferred (some [])) -> Q .normal { a with defers := { target := .collected D, args := #[] } :: a.defers } W)
  (hstop : ∀ (D : Nat) (c : Code) (pre : List α) (W : World), w.heap.size ≤ D -> Sp pre -> Ix c pre W -> W.heap[D]? = some (.deferred (some [])) -> c.wpIn F n P Q { a with defers := { target := .collected D, args := #[] } :: a.defers } W) :
  (Code.rangeFunc g ps assign body).wpIn F n P Q a w := by
 refine wpIn_rangeFunc fun fn hfn => ?_
 have hbk := Booked.fresh w (recd fn a.tmps ps assign body w.heap.size .ready none)
 have hbel : Below w.heap.size w ((w.alloc (.deferred (some []))).alloc (.loop (recd fn a.tmps ps assign body w.heap.size .ready none))) := ((zpd _ w).alloc (zpc _) _).alloc (by simp) _
 have hI1 := hr.own.alloc (.loop (recd fn a.tmps ps assign body w.heap.size .ready none)) (hr.own.alloc (.deferred (some [])) h0)
 rw [hro]
 have hent := run_enterLoop_outer (P := P) (w := w) fn a.tmps ps assign body
 obtain ⟨W1, hW1⟩ : ∃ W1, W1 = (w.alloc (.deferred (some []))).alloc (.loop (recd fn a.tmps ps assign body w.heap.size .ready none)) := ⟨_, rfl⟩
 rw [← hW1] at hbk hbel hI1
 refine ⟨w.heap.size + 1, [{ target := .collected w.heap.size, args := #[] }], W1, { target := .fn (.func gf) lb, args := #[.func (.yield (w.heap.size + 1)) #[] #[]] }, W1, gf,
   #[.func (.yield (w.heap.size + 1)) #[] #[]] ++ lb, W1, by rw [hW1]; exact hent, ?called, ?led, ?entered, fun _ => h1, ?it⟩
 case called => simp only [resolve, hg]; simp [go_sem]
 case led => intro f' hf'; simp [Target.leads] at hf'; exact hf' ▸ hFg
 case entered => simp [invoke, go_sem, eg]
 case it =>
  exact zpp
theorem zhc {d : List Int} (hd : d.length = 32) (time : Int) (v : Value) : (icells d time v)[32]? = some (.int .i64 time) := by
 unfold icells zk
 simp [hd]
theorem xq {d : List Int} (hd : d.length = 32) (time : Int) (v : Value) : (icells d time v)[33]? = some v := by
 unfold icells zk
 simp [hd]
theorem xy {d : List Int} {time : Int} {l : List V.Comp} (h : d = qh ∨ time < 0 ∨ 1099511627776 < time ∨ 128 < l.length) : V.qc d time l = false := by
 have : V.ze1 d time l = false := by
  unfold V.ze1
  rcases h with h | h | h | h
  ·have : decide (d = List.replicate 32 0) = true := decide_eq_true h
   rw [this]; rfl
  ·have : decide (0 ≤ time) = false := decide_eq_false (by omega)
   rw [this]; simp
  ·have : decide (time ≤ 1099511627776) = false := decide_eq_false (by omega)
   rw [this]; simp
  ·have : decide (l.length ≤ 128) = false := decide_eq_false (by omega)
   rw [this]; simp
 unfold V.qc; rw [this]; rfl
theorem zj7 {d : List Int} {time : Int} {l : List V.Comp} (h1 : ¬ d = qh) (h2 : ¬ time < 0) (h3 : ¬ 1099511627776 < time) (h4 : ¬ 128 < l.length) : V.qc d time l = V.zy l l.length := by
 have : V.ze1 d time l = true := by
  unfold V.ze1
  have a1 : decide (d = List.replicate 32 0) = false := decide_eq_false h1
  have a2 : decide (0 ≤ time) = true := decide_eq_true (by omega)
  have a3 : decide (time ≤ 1099511627776) = true := decide_eq_true (by omega)
  have a4 : decide (l.length ≤ 128) = true := decide_eq_true (by omega)
  rw [a1, a2, a3, a4]; rfl
 unfold V.qc; rw [this]; rfl
theorem zkx {l : List V.Comp} {k : Nat} (hk : k < l.length) (h : V.uu l k l[k] = false) : V.zy l l.length = false :=
 V.uv (k := k + 1) (by omega) (by rw [V.yl hk, h]; simp)
theorem zpo {P : Prop} (h : P := by
 clear c1
 go_enter Tryz.func38, Tryz.ntmps38
 go_wp2_with (first | (refine wpList_load_mid rfl 26 _ rfl w.heap.size 0 rfl (zk d) _ HR.out Tryz.underlying26 rfl HI.out ?_) | (refine wn rfl 26 26 _ _ rfl (dcells d) (dcells qh) rfl rfl jo false (HQ.out _) ?_) | fail)
 go_ret
 exact ⟨zf HV.out.symm, (zpd _ w).alloc (zpc _) _⟩) : P := h
theorem zd2 (d : List Int) (time : Int) (v : Value) (l : List V.Comp) (w : World) (hm : zm w) (hd : d.length = 32) (hdw : ∀ n ∈ d, (Lit.int .u8 n).wf = true) (hv : Comps w v l) (hl : l.length ≤ maxLen) :
  Calls Tryz.prog 38 #[.agg (icells d time v)] w fun e w' => e = .returned (.bool (V.qc d time l)) /\ Below w.heap.size w w' := by
 have HM := zpa hm
 have HL := zpa hv
 have h32 := zhc hd time v
 have h33 := xq hd time v
 have HR := zpa (zcu w 29 time v hd)
 have HI : Hid ((Tryz.prog.info? 26).map (·.size) = some (zk d).length) := zpa (by rw [zch]; unfold zk; simp [hd])
 have HQ : Hid (∀ w, (Op.equalIn 10000 26 (.agg (dcells d)) (.agg (dcells qh))).run Tryz.prog w = .ok (decide (d = qh)) w) := zpa (fun w => zim hd hdw (by decide) (by decide) w)
 have hmm := @run_makeMap Tryz.prog
 obtain ⟨va, vc, rfl, _⟩ := hv
 unfold maxLen at hl
 clear hm hd hdw
 generalize icells d time (.slice va l.length vc) = ic at *
 by_cases c1 : d = qh
 ·have HV := zpa (xy (time := time) (l := l) (.inl c1))
  have HD : Hid (decide (d = qh) = true) := zpa (decide_eq_true c1)
  clear c1
  rw [HD.out] at HQ
  go_enter Tryz.func38, Tryz.ntmps38
  go_wp2_with (first | (refine wpList_load_mid rfl 26 _ rfl w.heap.size 0 rfl (zk d) _ HR.out Tryz.underlying26 rfl HI.out ?_) | (refine wn rfl 26 26 _ _ rfl (dcells d) (dcells qh) rfl rfl jo true (HQ.out _) ?_) | fail)
  go_ret
  exact ⟨zf HV.out.symm, (zpd _ w).alloc (zpc _) _⟩
 ·have HD : Hid (decide (d = qh) = false) := zpa (decide_eq_false c1)
  rw [HD.out] at HQ
  by_cases c2 : time < 0
  ·have HV := zpa (xy (d := d) (l := l) (.inr (.inl c2)))
   exact zpo
  ·by_cases c3 : 1099511627776 < time
   ·have HV := zpa (xy (d := d) (l := l) (.inr (.inr (.inl c3))))
    exact zpo
   ·by_cases c4 : 128 < l.length
    ·have HV := zpa (xy (d := d) (time := time) (.inr (.inr (.inr c4))))
     exact zpo
    ·have HV := zpa (zj7 c1 c2 c3 c4)
     have c4' : l.length ≤ 128 := by omega
     have HMP := zpa (CMap.made (w.alloc (.cells ic 29)))
     have HB0 : Hid (Below w.heap.size w ((w.alloc (.cells ic 29)).alloc (.map #[] 0))) := zpa (((zpd _ w).alloc (zpc _) _).alloc (by simp) _)
     clear c1 hl
     go_enter Tryz.func38, Tryz.ntmps38
     go_wp2_with (first | (refine wpList_load_mid rfl 26 _ rfl w.heap.size 0 rfl (zk d) _ HR.out Tryz.underlying26 rfl HI.out ?_) | (refine wn rfl 26 26 _ _ rfl (dcells d) (dcells qh) rfl rfl jo false (HQ.out _) ?_) | fail)
     have hmp : CMap ((w.alloc (.cells ic 29)).alloc (.map #[] 0)) (w.heap.size + 1) 0 [] := by have := HMP.out; simpa using this
     have hzz : w.heap.size + 1 < ((w.alloc (.cells ic 29)).alloc (.map #[] 0)).heap.size := by simp
     have HB1 := HB0
     clear HMP HB0 h32 h33 HR HI HQ hmm HD
     go_loopw [30] (fun i wr => ∃ k : Nat, k ≤ l.length /\ i = .int .i64 k /\ V.zy l k = true /\ CMap wr (w.heap.size + 1) k (l.take k) /\ w.heap.size + 1 < wr.heap.size /\ Below w.heap.size w wr) (fun i _ => l.length - (intOf i).toNat)
     case atStart => exact ⟨0, Nat.zero_le _, rfl, rfl, hmp, hzz, HB1.out⟩
     case round =>
      obtain ⟨k, hk, rfl, hto, hcm, hzr, hbr⟩ := hrel
      have HTO := zpa hto
      have HCM := zpa hcm
      have HBR := zpa hbr
      clear hto hcm hbr hmp
      by_cases hlt : k < l.length
      ·obtain ⟨hxw, b, off, rfl, hblt, hxr⟩ := HL.out.at k hlt
       have HST := zpa (V.yl hlt)
       have HSTOP := zpa (zkx hlt)
       have HTAKE : Hid (l.take (k + 1) = l.take k ++ [l[k]]) := zpa (List.take_succ_eq_append_getElem hlt)
       have hca : V.uu l k l[k] = (V.yd l[k] && (decide (-1 ≤ l[k].par) && (decide (l[k].par < k) && !decide (l[k] ∈ l.take k)))) := rfl
       have HCA := zpa hca
       have HX := zpa hxw
       have HXR := zpa (zh hxr HBR.out)
       clear hxw hxr hca
       generalize l[k] = x at *
       have x0 := ccells_0 x
       go_wp2_with (first | (refine vt rfl _ rfl b (off + k * 36) rfl x HX.out HXR.out ?_) | (refine zb7 rfl _ _ rfl _ _ rfl x HX.out rfl rfl ?_) | (refine vt rfl _ rfl wr.heap.size 0 rfl x HX.out (vd x wr _) ?_) | fail)
       have hb1 : Below w.heap.size w (wr.alloc (.cells (ccells x) 60)) := HBR.out.alloc HBR.out.size _
       have hcm1 : CMap (wr.alloc (.cells (ccells x) 60)) (w.heap.size + 1) k (l.take k) := HCM.out.kept ((zpd _ wr).alloc (zpc _) _)
       have hx1 := vd x wr 60
       have hz1 : wr.heap.size < (wr.alloc (.cells (ccells x) 60)).heap.size := by simp
       generalize wr.alloc (.cells (ccells x) 60) = w1 at *
       obtain ⟨X, hXe⟩ : ∃ X, X = wr.heap.size := ⟨_, rfl⟩
       rw [← hXe] at hx1 hz1 hzr ⊢
       clear hXe x0
       refine (zgs x _ (HM.out.below hb1) HX.out).mono ?_
       rintro e w2 ⟨rfl, hb2⟩
       have HB2 := zpa (hb1.trans (hb2.mono hb1.size))
       have HCM2 := zpa (hcm1.kept hb2)
       have hx2 := zh hx1 hb2
       have x0 : w2.cell? ⟨X, 0, none⟩ = some (.int .i64 x.par) := hx2 0 _ rfl
       have HX2 := zpa hx2
       have hz2 : X < w2.heap.size := Nat.lt_of_lt_of_le hz1 hb2.size
       have hpr := wf_rng HX.out.par
       clear hb1 hcm1 hx1 hz1 hb2 hx2
       rcases hok : V.yd x with _ | _
       ·have HF : Hid (V.qc d time l = false) := zpa (by rw [HV.out]; exact HSTOP.out (by rw [HCA.out, hok]; rfl))
        clear hok
        go_wp2
        go_ret
        exact ⟨zf HF.out.symm, HB2.out⟩
       ·by_cases p1 : x.par < -1
        ·have HF : Hid (V.qc d time l = false) := zpa (by rw [HV.out]; exact HSTOP.out (by rw [HCA.out, decide_eq_false (show ¬ -1 ≤ x.par by omega)]; simp))
         clear hok
         go_wp2
         go_ret
         exact ⟨zf HF.out.symm, HB2.out⟩
        ·by_cases p2 : x.par < (k : Int)
         ·have q1 : decide (x.par < -1) = false := decide_eq_false p1
          have q2 : decide ((k : Int) ≤ x.par) = false := decide_eq_false (by omega)
          by_cases p3 : x ∈ l.take k
          ·have HF : Hid (V.qc d time l = false) := zpa (by rw [HV.out]; exact HSTOP.out (by rw [HCA.out, decide_eq_true p3]; simp))
           have HP3 : Hid (decide (x ∈ l.take k) = true) := zpa (decide_eq_true p3)
           clear hok p3
           go_wp2_with (first | (refine zna rfl _ rfl X 0 rfl x HX.out HX2.out ?_) | (refine zgz rfl _ _ rfl (w.heap.size + 1) k (l.take k) rfl HCM2.out x HX.out rfl ?_; rw [HP3.out]) | fail)
           go_ret
           exact ⟨zf HF.out.symm, HB2.out⟩
          ·have HN : Hid (V.zy l (k + 1) = true) := zpa (by
             rw [HST.out, HTO.out, HCA.out, hok, decide_eq_true (show -1 ≤ x.par by omega), decide_eq_true p2, decide_eq_false p3]; rfl)
           have HP3 : Hid (decide (x ∈ l.take k) = false) := zpa (decide_eq_false p3)
           clear hok p3
           go_wp2_with (first | (refine zna rfl _ rfl X 0 rfl x HX.out HX2.out ?_) | (refine zgz rfl _ _ rfl (w.heap.size + 1) k (l.take k) rfl HCM2.out x HX.out rfl ?_; rw [HP3.out]) | (refine zoa rfl _ _ _ rfl (w.heap.size + 1) k (l.take k) rfl HCM2.out (by unfold maxLen; omega) x HX.out rfl rfl ?_; intro w3 hm3 hg3) | fail)
           rw [← HTAKE.out] at hm3
           have HM3 := zpa hm3
           have HB3 := zpa (HB2.out.trans (zdj hg3 (by omega) HB2.out.size))
           have hz3 : w.heap.size + 1 < w3.heap.size := Nat.lt_of_lt_of_le (by omega) hg3.size
           clear hm3 hg3
           go_wp2
           go_roundw
           case rel => exact ⟨k + 1, by omega, by go_num, HN.out, HM3.out, hz3, HB3.out⟩
           case measure => simp [intOf]; omega
         ·have HF : Hid (V.qc d time l = false) := zpa (by rw [HV.out]; exact HSTOP.out (by rw [HCA.out, decide_eq_false p2]; simp))
          clear hok
          go_wp2
          go_ret
          exact ⟨zf HF.out.symm, HB2.out⟩
      ·obtain rfl : k = l.length := by omega
       have HT : Hid (V.qc d time l = true) := zpa (by rw [HV.out]; exact HTO.out)
       go_wp2
       go_ret
       exact ⟨zf HT.out.symm, HBR.out⟩
open Go.RowKit Go.Shelf
attribute [local go_sem] Oper.semAt_some
namespace V
def parOf (l : List Comp) (i : Int) : Int := match l[i.toNat]? with | some c => c.par | none => -1
def ancF (l : List Comp) : Nat -> Int -> List Int
 | 0, _ => []
 | f + 1, i => if i < 0 then [] else i :: ancF l f (parOf l i)
def anc (l : List Comp) (i : Int) : List Int := ancF l (i.toNat + 1) i
theorem zk5 {l : List Comp} {i : Nat} (h : i < l.length) : parOf l i = l[i].par := by
 unfold parOf
 rw [Int.toNat_natCast, List.getElem?_eq_getElem h]
theorem ze3 {l : List Comp} (ho : zy l l.length = true) {i : Nat} (h : i < l.length) : -1 ≤ l[i].par /\ l[i].par < i := by
 have := zm7 ho h
 rw [zms] at this
 exact ⟨this.2.1, this.2.2.1⟩
theorem zh8 {l : List Comp} (ho : zy l l.length = true) : ∀ (f g : Nat) (i : Int), i < l.length -> i.toNat < f -> i.toNat < g -> ancF l f i = ancF l g i
 | 0, _, _, _, h, _ => by omega
 | _, 0, _, _, _, h => by omega
 | f + 1, g + 1, i, hl, hf, hg => by
  unfold ancF
  by_cases h0 : i < 0
  ·rw [if_pos h0, if_pos h0]
  ·rw [if_neg h0, if_neg h0]
   obtain ⟨k, rfl⟩ := Int.eq_ofNat_of_zero_le (show 0 ≤ i by omega)
   have hk : k < l.length := by omega
   have hp := ze3 ho hk
   rw [zk5 hk]
   by_cases hn : l[k].par < 0
   ·congr 1
    cases f with
    | zero => cases g with
     | zero => rfl
     | succ g => unfold ancF; rw [if_pos hn]
    | succ f => cases g with
     | zero => unfold ancF; rw [if_pos hn]
     | succ g => unfold ancF; rw [if_pos hn, if_pos hn]
   ·congr 1
    exact zh8 ho f g _ (by omega) (by omega) (by omega)
theorem zio {l : List Comp} {i : Int} (h : i < 0) : anc l i = [] := by
 unfold anc ancF; rw [if_pos h]
theorem zcx {l : List Comp} (ho : zy l l.length = true) {k : Nat} (h : k < l.length) : anc l k = (k : Int) :: anc l l[k].par := by
 have hp := ze3 ho h
 unfold anc
 rw [show ((k : Int).toNat + 1) = k + 1 by omega]
 conv => lhs; unfold ancF
 rw [if_neg (by omega), zk5 h]
 congr 1
 by_cases hn : l[k].par < 0
 ·cases k with
  | zero => conv => rhs; unfold ancF
            rw [if_pos hn]; rfl
  | succ k => conv => lhs; unfold ancF
              conv => rhs; unfold ancF
              rw [if_pos hn, if_pos hn]
 ·exact zh8 ho _ _ _ (by omega) (by omega) (by omega)
theorem zj4 (l : List Comp) : ∀ (f : Nat) (i : Int), (ancF l f i).length ≤ f
 | 0, _ => by simp [ancF]
 | f + 1, i => by
  unfold ancF
  split
  ·simp
  ·have := zj4 l f (parOf l i)
   simp; omega
theorem zel {l : List Comp} (_ : zy l l.length = true) (i : Int) (h : i < l.length) : (anc l i).length ≤ l.length := by
 unfold anc
 by_cases h0 : i < 0
 ·unfold ancF; rw [if_pos h0]; simp
 ·have := zj4 l (i.toNat + 1) i
  omega
end V
def Spared (B o : Nat) (W W' : World) : Prop := W.heap.size ≤ W'.heap.size /\ ∀ k, k < B -> k ≠ o -> W'.heap[k]? = W.heap[k]?
theorem Spared.cell {B o : Nat} {W W' : World} (h : Spared B o W W') {b : Nat} (hb : b < B) (ho : b ≠ o) (i : Nat) : W'.cell? ⟨b, i, none⟩ = W.cell? ⟨b, i, none⟩ := by
 unfold World.cell?
 rw [h.2 b hb ho]
theorem Spared.frozen {B o : Nat} {W W' : World} (h : Spared B o W W') {b : Nat} (hb : b < B) (ho : b ≠ o) (i : Nat) : W'.frozen? ⟨b, i, none⟩ = W.frozen? ⟨b, i, none⟩ := by
 unfold World.frozen?
 rw [h.2 b hb ho]
def xh (W : World) (B o : Nat) (v : Value) (l : List V.Comp) : Prop :=
 ∃ a cap, v = .slice a l.length cap /\ ∀ j (h : j < l.length), CompWf l[j] /\ ∃ b off, a = some ⟨b, off, none⟩ /\ b < B /\ b ≠ o /\ W.rangeAt b (off + j * 36) (qr l[j])
theorem xh.kept {W W' : World} {B o : Nat} {v : Value} {l : List V.Comp} (h : xh W B o v l) (hs : Spared B o W W') : xh W' B o v l := by
 obtain ⟨a, cap, e, hc⟩ := h
 refine ⟨a, cap, e, fun j hj => ?_⟩
 obtain ⟨hw, b, off, ea, hb, ho, hr⟩ := hc j hj
 exact ⟨hw, b, off, ea, hb, ho, fun i u hu => (hs.cell hb ho _).trans (hr i u hu)⟩
theorem xh.setCell {W : World} {B o : Nat} {v : Value} {l : List V.Comp} {bI : Nat} (h : xh W B o v l) (hbI : B ≤ bI) (u : Value) : xh (W.setCell ⟨bI, 0, none⟩ u) B o v l := by
 refine h.kept ⟨by simp [World.setCell], fun k hk _ => Below.heap_setCell _ _ _ _ (by show k ≠ bI; omega)⟩
def intOfO : Option Value -> Nat
 | some (.int _ n) => (n + 1).toNat
 | _ => 0
end Go.Proofs.YtbikeahmldobkaaGreatDoor
