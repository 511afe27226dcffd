/-
  Lemmas for the law.
-/
import Derived.Test.YtbikeahmldobkaaGreatDoorC41x29
import Derived.Test.YtbikeahmldobkaaGreatDoorC41x30
import Derived.Test.YtbikeahmldobkaaGreatDoorC41x31
import Derived.Test.YtbikeahmldobkaaGreatDoorC41x28
import Derived.Test.YtbikeahmldobkaaGreatDoorC41x10
set_option linter.all false
set_option maxRecDepth 100000
set_option maxHeartbeats 3200000
namespace Go.Proofs.YtbikeahmldobkaaGreatDoor
open Go.RowKit
namespace V
def zbh (x : Adv) (n : Int) (s v : Bs) : Bool := qf x && x.aff.any (fun a => kw n s a && zr a.rs a.its v)
theorem rcov_at {x : Adv} {n : Int} {s v : Bs} {k : Nat} (hk : k < x.aff.length) (h0 : qf x = true) (h : (kw n s x.aff[k] && zr x.aff[k].rs x.aff[k].its v) = true) : zbh x n s v = true := by
 unfold zbh
 rw [h0, Bool.true_and, List.any_eq_true]
 exact ⟨_, List.getElem_mem hk, h⟩
theorem rcov_no {x : Adv} {n : Int} {s v : Bs} (h : ∀ j (hj : j < x.aff.length), (kw n s x.aff[j] && zr x.aff[j].rs x.aff[j].its v) = false) : zbh x n s v = false := by
 unfold zbh
 rw [Bool.and_eq_false_iff]
 refine .inr (List.any_eq_false.2 fun a ha => ?_)
 obtain ⟨j, hj, rfl⟩ := List.mem_iff_getElem.1 ha
 rw [h j hj]; simp
end V
theorem zfe (x : V.Adv) (v : Value) (n : Int) (s ver : V.Bs) (w : World) (hm : zm w) (hv : Affs w v x.aff) (hid : x.id.length ≤ maxLen) (hl : x.aff.length ≤ maxLen) (hs : ver.length ≤ maxLen) :
  Calls Tryz.prog 30 #[advV x v, .int .i64 n, .string ⟨s.toArray⟩, .string ⟨ver.toArray⟩] w fun e w' => e = .returned (.bool (V.zbh x n s ver)) /\ Below w.heap.size w w' := by
 obtain ⟨pa, pc, rfl⟩ := hv.slice
 obtain ⟨hb, c0, c1, c2, c3⟩ := zen x (.slice pa x.aff.length pc) w
 have HM := zpa (hm.below hb)
 have HV := zpa (hv.below hb)
 have HB := zpa hb
 have HI := zpa (And.intro hid (And.intro hl hs))
 unfold maxLen at hl
 clear hm hv hid hb hs
 unfold advV
 go_enter Tryz.func30, Tryz.ntmps30
 go_wp2_with fail
 generalize w.alloc (.cells #[.string ⟨x.id.toArray⟩, .int .i64 x.rev, .int .i64 x.sev, .slice pa x.aff.length pc] 54) = wz at *
 refine (zgp x (.slice pa x.aff.length pc) wz HM.out HV.out HI.out.1 HI.out.2.1).mono ?_
 rintro e w0 ⟨rfl, hb1⟩
 replace HM := zpa (HM.out.below hb1)
 replace HV := zpa (HV.out.below hb1)
 replace HB := zpb HB hb1
 replace c0 := zg hb1 c0
 replace c1 := zg hb1 c1
 replace c2 := zg hb1 c2
 replace c3 := zg hb1 c3
 clear hb1
 rcases hok : V.qf x with _ | _
 ·have HR : Hid (V.zbh x n s ver = false) := zpa (by unfold V.zbh; rw [hok]; rfl)
  clear hok
  exact zqr
 have HOK := zpa hok
 clear hok
 go_wp2_with fail
 go_loopw [9] (fun iv W => ∃ k : Nat, k ≤ x.aff.length /\ iv = .int .i64 k /\ (∀ j (h : j < x.aff.length), j < k -> (V.kw n s x.aff[j] && V.zr x.aff[j].rs x.aff[j].its ver) = false) /\ Below w0.heap.size w0 W) (fun iv _ => x.aff.length - (intOf iv).toNat)
 case atStart => exact ⟨0, Nat.zero_le _, rfl, (fun j _ h => absurd h (Nat.not_lt_zero _)), zpd _ _⟩
 case round =>
  obtain ⟨k, hk, rfl, hno, hbr⟩ := hrel
  have HNO := zpa hno
  have HBR := zpa hbr
  have c3r := zg hbr c3
  clear hno hbr
  by_cases hlt : k < x.aff.length
  ·obtain ⟨hwf, b, off, ua, uc, rfl, hblt, ha⟩ := HV.out.at k hlt
   have HVR := zpa (HV.out.below HBR.out)
   have HW := zpa hwf
   have HA := zpa (ha.below HBR.out)
   have HAT := zpa (V.rcov_at (n := n) (s := s) (v := ver) hlt HOK.out)
   have HNX : Hid ((V.kw n s x.aff[k] && V.zr x.aff[k].rs x.aff[k].its ver) = false -> ∀ j (h : j < x.aff.length), j < k + 1 -> (V.kw n s x.aff[j] && V.zr x.aff[j].rs x.aff[j].its ver) = false) := zpa (fun hf j h hj => by
     by_cases e : j = k
     · subst e; exact hf
     · exact HNO.out j h (by omega))
   generalize x.aff[k] = a at *
   have HPK : Hid (V.kw n s a = (decide (a.sch = n) && decide (a.name = s))) := zpa rfl
   have e0 := HA.out.c0
   have e1 := HA.out.c1
   have e2 := HA.out.c2
   have e3 := HA.out.c3
   have i1 : (0 : Int) ≤ (k : Int) := by omega
   have i2 : (k : Int) < (x.aff.length : Int) := by omega
   have wr1 : IntKind.i64.wrap ((k : Int) + 1) = (k : Int) + 1 := IntWalk.i64_in _ (by omega)
   obtain ⟨hb2, d0, d1, d2, d3⟩ := zcg a (.slice ua a.its.length uc) wr
   have HIT := zpa (HA.out.its.below hb2)
   have HB2 := zpb HBR hb2
   have HM2 := zpa (HM.out.below HB2.out)
   have HV2 := zpa (HVR.out.below hb2)
   have b0 := zg HB2.out c0
   have b1 := zg HB2.out c1
   have b2 := zg HB2.out c2
   have b3 := zg HB2.out c3
   clear hb2 hwf ha HA HVR
   by_cases hp : V.kw n s a = true
   ·rw [hp, Bool.true_and] at HNX HAT
    rw [HPK.out, Bool.and_eq_true, decide_eq_true_eq, decide_eq_true_eq] at hp
    have q1 : (a.sch == n) = true := by simpa using hp.1
    have q2 : (a.name == s) = true := by simpa using hp.2
    have q3 := hp.1
    have q4 := hp.2
    clear hp HPK
    subst q3
    subst q4
    go_wp2_with fail
    generalize wr.alloc (.cells #[.int .i64 a.sch, .string ⟨a.name.toArray⟩, .int .i64 a.rs, .slice ua a.its.length uc] 70) = w2 at *
    refine (zex a.rs (.slice ua a.its.length uc) a.its ver w2 HM2.out HIT.out HW.out.lens HW.out.len HI.out.2.2).mono ?_
    rintro e w3 ⟨rfl, hb3⟩
    have HB3 := zpb HB2 hb3
    clear hb3
    rcases hcl : V.zr a.rs a.its ver with _ | _
    ·have HNY := zpa (HNX.out hcl)
     clear hcl HNX HAT
     go_wp2
     go_roundw
     case rel => exact ⟨k + 1, by omega, by go_num, HNY.out, HB3.out⟩
     case measure => simp [intOf]; omega
    ·have HR := zpa (HAT.out hcl)
     clear hcl HNX HAT
     exact zrw
   ·have hpf : V.kw n s a = false := by simpa using hp
    have HNY := zpa (HNX.out (by rw [hpf]; rfl))
    exact zpq
  ·obtain rfl : k = x.aff.length := by omega
   have HR : Hid (V.zbh x n s ver = false) := zpa (V.rcov_no (fun j hj => HNO.out j hj hj))
   go_wp2
   go_ret
   exact ⟨zf HR.out.symm, HB.out.trans (HBR.out.mono HB.out.size)⟩
open Go.RowKit
namespace V
structure Cmp {α : Type} (c : α -> α -> Int) : Prop where
 zero : ∀ a b, c a b = 0 ↔ a = b
 anti : ∀ a b, c a b < 0 ↔ 0 < c b a
 trans : ∀ a b d, c a b < 0 -> c b d < 0 -> c a d < 0
theorem _root_.Go.Proofs.YtbikeahmldobkaaGreatDoor.zse {P : Prop} (h : P := by
 apply UInt8.toNat_inj.1
 simp only [UInt8.lt_iff_toNat_lt] at h1 h2
 omega) : P := h
theorem zby : ∀ a b : Bs, Lib.compareBytes a b = 0 ↔ a = b
 | [], [] => by simp [Lib.compareBytes]
 | [], y :: b => by simp [Lib.compareBytes]
 | x :: a, [] => by simp [Lib.compareBytes]
 | x :: a, y :: b => by
  have ih := zby a b
  unfold Lib.compareBytes
  by_cases h1 : x < y
  ·rw [if_pos h1]
   simp only [List.cons.injEq]
   exact ⟨fun h => absurd h (by decide), fun h => absurd h1 (by rw [h.1]; exact UInt8.lt_irrefl y)⟩
  ·rw [if_neg h1]
   by_cases h2 : y < x
   ·rw [if_pos h2]
    simp only [List.cons.injEq]
    exact ⟨fun h => absurd h (by decide), fun h => absurd h2 (by rw [h.1]; exact UInt8.lt_irrefl y)⟩
   ·rw [if_neg h2, ih]
    have e : x = y := by
     exact zse
    simp [e]
theorem zga : ∀ a b : Bs, Lib.compareBytes a b = - Lib.compareBytes b a
 | [], [] => by simp [Lib.compareBytes]
 | [], y :: b => by simp [Lib.compareBytes]
 | x :: a, [] => by simp [Lib.compareBytes]
 | x :: a, y :: b => by
  have ih := zga a b
  unfold Lib.compareBytes
  simp only [UInt8.lt_iff_toNat_lt] at *
  by_cases h1 : x.toNat < y.toNat
  ·rw [if_pos h1, if_neg (by omega), if_pos h1]
  ·rw [if_neg h1]
   by_cases h2 : y.toNat < x.toNat
   ·rw [if_pos h2, if_pos h2]; rfl
   ·rw [if_neg h2, if_neg h2, if_neg h1, ih]
theorem _root_.Go.Proofs.YtbikeahmldobkaaGreatDoor.zp8 {P : Prop} (h : P := by
 split at h1
 ·split at h2
  ·rw [if_pos (by omega)]; decide
  ·split at h2
   ·exact absurd h2 (by decide)
   ·rw [if_pos (by omega)]; decide
 ·split at h1
  ·exact absurd h1 (by decide)
  ·split at h2
   ·rw [if_pos (by omega)]; decide
   ·split at h2
    ·exact absurd h2 (by decide)
    ·rw [if_neg (by omega), if_neg (by omega)]
     exact ih h1 h2) : P := h
theorem zap : ∀ a b d : Bs, Lib.compareBytes a b < 0 -> Lib.compareBytes b d < 0 -> Lib.compareBytes a d < 0
 | [], _, [], h1, h2 => by
  rename_i b
  cases b
  ·exact h1
  ·simp [Lib.compareBytes] at h2
 | [], _, _ :: _, _, _ => by simp [Lib.compareBytes]
 | _ :: _, [], _, h1, _ => by simp [Lib.compareBytes] at h1
 | _ :: _, _ :: _, [], _, h2 => by simp [Lib.compareBytes] at h2
 | x :: a, y :: b, z :: d, h1, h2 => by
  have ih := zap a b d
  unfold Lib.compareBytes at h1 h2 ⊢
  simp only [UInt8.lt_iff_toNat_lt] at *
  exact zp8
theorem zbd : Cmp Lib.compareBytes :=
 ⟨zby, fun a b => by rw [zga a b]; omega, zap⟩
theorem aff_lt {a b : Aff} : affC a b < 0 ↔ a.sch < b.sch ∨ a.sch = b.sch /\ Lib.compareBytes a.name b.name < 0 := by
 unfold affC
 have hi : ∀ x y : Int, (Lib.compareInt x y < 0 ↔ x < y) /\ (Lib.compareInt x y = 0 ↔ x = y) := fun x y => by
  unfold Lib.compareInt
  split
  ·omega
  ·split <;> omega
 have h := hi a.sch b.sch
 simp only [orI, cor]
 by_cases e : Lib.compareInt a.sch b.sch = 0
 ·have e2 := h.2.1 e
  rw [if_pos e]
  split <;> omega
 ·have e2 : ¬ a.sch = b.sch := fun q => e (h.2.2 q)
  rw [if_neg e]
  omega
theorem zn1 {a b d : Aff} (h1 : affC a b < 0) (h2 : affC b d < 0) : affC a d < 0 := by
 rw [aff_lt] at *
 rcases h1 with h1 | ⟨e1, h1⟩
 ·rcases h2 with h2 | ⟨e2, h2⟩ <;> omega
 ·rcases h2 with h2 | ⟨e2, h2⟩
  ·omega
  ·exact .inr ⟨by omega, zap _ _ _ h1 h2⟩
theorem znd {a b : Aff} (h : affC a b < 0) : ¬ (a.sch = b.sch /\ a.name = b.name) := fun e => by
 rw [aff_lt] at h
 rcases h with h | ⟨_, h⟩
 ·omega
 ·rw [e.2, (zby _ _).2 rfl] at h
  omega
theorem aff_asc {l : List Aff} (h : kp l l.length = true) : ∀ i j (hi : i < l.length) (hj : j < l.length), i < j -> affC l[i] l[j] < 0 := by
 intro i j hi hj hij
 induction j with
 | zero => omega
 | succ j ih =>
  have h1 := zfc h (j + 1) hj hj
  unfold zai at h1
  rw [Bool.and_eq_true, Bool.or_eq_true, decide_eq_true_eq, decide_eq_true_eq] at h1
  have h2 : affC l[j] l[j + 1] < 0 := by
   rcases h1.1 with h1 | h1
   ·omega
   ·rw [Nat.add_sub_cancel, List.getD_eq_getElem?_getD, List.getElem?_eq_getElem (by omega)] at h1
    exact h1
  by_cases e : i = j
  ·subst e; exact h2
  ·exact zn1 (ih (by omega) (by omega)) h2
theorem cov_rcov (x : Adv) (n : Int) (s v : Bs) : zbh x n s v = covP x n s v := by
 unfold zbh covP
 by_cases hok : qf x = true
 ·rw [hok, Bool.true_and]
  cases hf : x.aff.find? (kw n s) with
  | none =>
   rw [List.find?_eq_none] at hf
   rw [List.any_eq_false]
   intro a ha
   have := hf a ha
   simp only [Bool.not_eq_true] at this
   rw [this]; simp
  | some a =>
   simp only [Bool.and_true]
   have ha := List.mem_of_find?_eq_some hf
   have hp := List.find?_some hf
   have hasc := aff_asc (qv hok).all
   obtain ⟨i, hi, rfl⟩ := List.mem_iff_getElem.1 ha
   rw [Bool.eq_iff_iff, List.any_eq_true]
   constructor
   ·rintro ⟨b, hb, h⟩
    obtain ⟨j, hj, rfl⟩ := List.mem_iff_getElem.1 hb
    rw [Bool.and_eq_true] at h
    have e : i = j := by
     unfold kw at hp h
     simp only [Bool.and_eq_true, decide_eq_true_eq] at hp h
     rcases Nat.lt_trichotomy i j with q | q | q
     ·exact absurd ⟨by rw [hp.1, h.1.1], by rw [hp.2, h.1.2]⟩ (znd (hasc i j hi hj q))
     ·exact q
     ·exact absurd ⟨by rw [hp.1, h.1.1], by rw [hp.2, h.1.2]⟩ (znd (hasc j i hj hi q))
    subst e
    exact h.2
   ·intro h
    exact ⟨_, ha, by rw [hp, h]; rfl⟩
 ·simp only [Bool.not_eq_true] at hok
  rw [hok, Bool.false_and]
  cases x.aff.find? (kw n s) with
  | none => rfl
  | some a => simp
end V
open Go.RowKit
namespace V
section
variable {α : Type} {c : α -> α -> Int}
def AscC (c : α -> α -> Int) (l : List α) : Prop := l.Pairwise fun a b => c a b < 0
theorem Cmp.irr (C : Cmp c) (a : α) : ¬ c a a < 0 := by rw [(C.zero a a).2 rfl]; omega
theorem zjd (C : Cmp c) : ∀ {l m : List α}, AscC c l -> AscC c m -> (∀ x, x ∈ l ↔ x ∈ m) -> l = m
 | [], [], _, _, _ => rfl
 | [], y :: m, _, _, h => absurd ((h y).2 (by simp)) (by simp)
 | x :: l, [], _, _, h => absurd ((h x).1 (by simp)) (by simp)
 | x :: l, y :: m, hl, hm, h => by
  have hl' := List.pairwise_cons.1 hl
  have hm' := List.pairwise_cons.1 hm
  have e : x = y := by
   rcases List.mem_cons.1 ((h x).1 (by simp)) with e | hx
   ·exact e
   ·rcases List.mem_cons.1 ((h y).2 (by simp)) with e | hy
    ·exact e.symm
    ·exact absurd (C.trans _ _ _ (hl'.1 y hy) (hm'.1 x hx)) (C.irr x)
  subst e
  rw [zjd C hl'.2 hm'.2 fun z => ?_]
  constructor
  ·intro hz
   rcases List.mem_cons.1 ((h z).1 (List.mem_cons_of_mem _ hz)) with e | hz'
   ·subst e; exact absurd (hl'.1 _ hz) (C.irr _)
   ·exact hz'
  ·intro hz
   rcases List.mem_cons.1 ((h z).2 (List.mem_cons_of_mem _ hz)) with e | hz'
   ·subst e; exact absurd (hm'.1 _ hz) (C.irr _)
   ·exact hz'
def insC (c : α -> α -> Int) (x : α) : List α -> List α
 | [] => [x]
 | y :: l => if c y x < 0 then y :: insC c x l else x :: y :: l
theorem zet {x y : α} : ∀ {l : List α}, y ∈ insC c x l ↔ y = x ∨ y ∈ l
 | [] => by simp [insC]
 | z :: l => by
  unfold insC
  split
  ·rw [List.mem_cons, zet (l := l), List.mem_cons]
   constructor
   ·rintro (h | h | h)
    ·exact .inr (.inl h)
    ·exact .inl h
    ·exact .inr (.inr h)
   ·rintro (h | h | h)
    ·exact .inr (.inl h)
    ·exact .inl h
    ·exact .inr (.inr h)
  ·rw [List.mem_cons]
theorem zlq (C : Cmp c) {x : α} : ∀ {l : List α}, AscC c l -> x ∉ l -> AscC c (insC c x l)
 | [], _, _ => List.pairwise_singleton _ _
 | y :: l, h, hn => by
  have h' := List.pairwise_cons.1 h
  rw [List.mem_cons, not_or] at hn
  unfold insC
  split
  ·rename_i hlt
   refine List.pairwise_cons.2 ⟨fun z hz => ?_, zlq C h'.2 hn.2⟩
   rcases zet.1 hz with rfl | hz
   ·exact hlt
   ·exact h'.1 z hz
  ·rename_i hnlt
   have hxy : c x y < 0 := by
    rw [C.anti]
    have : c y x ≠ 0 := fun e => hn.1 ((C.zero _ _).1 e).symm
    omega
   refine List.pairwise_cons.2 ⟨fun z hz => ?_, h⟩
   rcases List.mem_cons.1 hz with rfl | hz
   ·exact hxy
   ·exact C.trans _ _ _ hxy (h'.1 z hz)
theorem zcm {x : α} : ∀ {l : List α} {i : Nat}, i ≤ l.length -> (∀ j (h : j < l.length), j < i -> c l[j] x < 0) -> (∀ h : i < l.length, ¬ c l[i] x < 0) -> insC c x l = l.take i ++ x :: l.drop i
 | [], i, hi, _, _ => by obtain rfl : i = 0 := by simpa using hi
                         rfl
 | y :: l, 0, _, _, hn => by
  have h0 : ¬ c y x < 0 := hn (by simp)
  unfold insC
  rw [if_neg h0]
  rfl
 | y :: l, i + 1, hi, hlt, hn => by
  have h0 : c y x < 0 := hlt 0 (by simp) (by omega)
  unfold insC
  rw [if_pos h0, zcm (l := l) (i := i) (by simpa using hi) (fun j h hj => hlt (j + 1) (by simpa using h) (by omega)) (fun h => hn (by simpa using h))]
  rfl
def addC [DecidableEq α] (c : α -> α -> Int) (l : List α) (x : α) : List α := if x ∈ l then l else insC c x l
theorem zey [DecidableEq α] {l : List α} {x y : α} : y ∈ addC c l x ↔ y ∈ l ∨ y = x := by
 unfold addC
 split
 ·constructor
  ·exact .inl
  ·rintro (h | rfl) <;> assumption
 ·rw [zet, or_comm]
theorem addC_asc [DecidableEq α] (C : Cmp c) {l : List α} {x : α} (h : AscC c l) : AscC c (addC c l x) := by
 unfold addC
 split
 ·exact h
 ·rename_i hn; exact zlq C h hn
theorem zjz {x : α} : ∀ {l : List α}, (insC c x l).length = l.length + 1
 | [] => rfl
 | y :: l => by
  unfold insC
  split
  ·rw [List.length_cons, zjz, List.length_cons]
  ·rfl
theorem addC_len [DecidableEq α] {l : List α} {x : α} : (addC c l x).length ≤ l.length + 1 := by
 unfold addC
 split
 ·omega
 ·rw [zjz]; exact zpc _
def ye [DecidableEq α] (c : α -> α -> Int) (l xs : List α) : List α := xs.foldl (addC c) l
theorem zc9 [DecidableEq α] {y : α} : ∀ {xs l : List α}, y ∈ ye c l xs ↔ y ∈ l ∨ y ∈ xs
 | [], l => by simp [ye]
 | x :: xs, l => by
  have := zc9 (y := y) (xs := xs) (l := addC c l x)
  unfold ye at *
  rw [List.foldl_cons, this, zey, List.mem_cons, or_assoc]
theorem zdb [DecidableEq α] (C : Cmp c) : ∀ {xs l : List α}, AscC c l -> AscC c (ye c l xs)
 | [], _, h => h
 | x :: xs, l, h => by
  have := zdb C (xs := xs) (addC_asc C (x := x) h)
  unfold ye at *
  rw [List.foldl_cons]; exact this
theorem yv [DecidableEq α] : ∀ {xs l : List α}, (ye c l xs).length ≤ l.length + xs.length
 | [], l => by simp [ye]
 | x :: xs, l => by
  have h1 := yv (xs := xs) (l := addC c l x)
  have h2 := addC_len (c := c) (l := l) (x := x)
  unfold ye at *
  rw [List.foldl_cons, List.length_cons]
  omega
theorem zew [DecidableEq α] {l xs : List α} {x : α} : ye c l (xs ++ [x]) = addC c (ye c l xs) x := by
 unfold ye; rw [List.foldl_append]; rfl
end
def cmpI : List Int -> List Int -> Int
 | [], [] => 0
 | [], _ :: _ => -1
 | _ :: _, [] => 1
 | x :: a, y :: b => if x < y then -1 else if y < x then 1 else cmpI a b
theorem xm : ∀ a b : List Int, cmpI a b = 0 ↔ a = b
 | [], [] => by simp [cmpI]
 | [], y :: b => by simp [cmpI]
 | x :: a, [] => by simp [cmpI]
 | x :: a, y :: b => by
  have ih := xm a b
  unfold cmpI
  by_cases h1 : x < y
  ·rw [if_pos h1]; simp only [List.cons.injEq]; exact ⟨fun h => absurd h (by decide), fun h => by omega⟩
  ·rw [if_neg h1]
   by_cases h2 : y < x
   ·rw [if_pos h2]; simp only [List.cons.injEq]; exact ⟨fun h => absurd h (by decide), fun h => by omega⟩
   ·rw [if_neg h2, ih]
    obtain rfl : x = y := by omega
    simp
theorem ux : ∀ a b : List Int, cmpI a b = - cmpI b a
 | [], [] => by simp [cmpI]
 | [], y :: b => by simp [cmpI]
 | x :: a, [] => by simp [cmpI]
 | x :: a, y :: b => by
  have ih := ux a b
  unfold cmpI
  by_cases h1 : x < y
  ·rw [if_pos h1, if_neg (by omega), if_pos h1]
  ·rw [if_neg h1]
   by_cases h2 : y < x
   ·rw [if_pos h2, if_pos h2]; rfl
   ·rw [if_neg h2, if_neg h2, if_neg h1, ih]
theorem ue : ∀ a b d : List Int, cmpI a b < 0 -> cmpI b d < 0 -> cmpI a d < 0
 | [], b, [], h1, h2 => by
  cases b
  ·exact h1
  ·simp [cmpI] at h2
 | [], _, _ :: _, _, _ => by simp [cmpI]
 | _ :: _, [], _, h1, _ => by simp [cmpI] at h1
 | _ :: _, _ :: _, [], _, h2 => by simp [cmpI] at h2
 | x :: a, y :: b, z :: d, h1, h2 => by
  have ih := ue a b d
  unfold cmpI at h1 h2 ⊢
  exact zp8
theorem zko : Cmp cmpI := ⟨xm, fun a b => by rw [ux a b]; omega, ue⟩
def cov (x : Note) (c : Comp) : Bool := covP x.adv c.sch c.name c.ver
structure Hit where
 comp : Int
 id : Bs
 sev : Int
 docs : List (List Int)
def selN (xs : List Note) (c : Comp) (id : Bs) : List Note := xs.filter fun x => decide (x.adv.id = id) && cov x c
def sevN (l : List Note) : Int := l.foldl (fun s x => max s x.adv.sev) 0
def ku (l : List Note) : List (List Int) := ye cmpI [] (l.map (·.doc))
def idsN (xs : List Note) : List Bs := ye Lib.compareBytes [] (xs.map (·.adv.id))
def hitN (xs : List Note) (i : Int) (c : Comp) (id : Bs) : Hit := ⟨i, id, sevN (selN xs c id), ku (selN xs c id)⟩
def jk (xs : List Note) (c : Comp) : List Bs := idsN (xs.filter fun x => cov x c)
def um (xs : List Note) (i : Int) (c : Comp) : List Hit := (jk xs c).map (hitN xs i c)
def rhitsC (xs : List Note) (i : Int) (c : Comp) : List Hit := ((idsN xs).map (hitN xs i c)).filter fun h => decide (0 < h.sev)
def qu (xs : List Note) (l : List Comp) : Nat -> List Hit
 | 0 => []
 | k + 1 => qu xs l k ++ match l[k]? with | some c => um xs k c | none => []
def jq (ok : Bool) (xs : List Note) (l : List Comp) : List Hit := if ok then qu xs l l.length else []
theorem zkc : ∀ (l : List Note) (s : Int), s ≤ l.foldl (fun s x => max s x.adv.sev) s /\ ∀ x ∈ l, x.adv.sev ≤ l.foldl (fun s x => max s x.adv.sev) s
 | [], s => ⟨Int.le_refl _, fun x h => by simp at h⟩
 | y :: l, s => by
  have ih := zkc l (max s y.adv.sev)
  rw [List.foldl_cons]
  refine ⟨by omega, fun x hx => ?_⟩
  rcases List.mem_cons.1 hx with rfl | hx
  ·omega
  ·exact ih.2 x hx
theorem cov_sev {x : Note} {c : Comp} (h : cov x c = true) : 1 ≤ x.adv.sev := by
 unfold cov covP at h
 split at h
 ·exact absurd h (by simp)
 ·rw [Bool.and_eq_true] at h
  exact (qv h.2).sev0
theorem sel_sev (xs : List Note) (c : Comp) (id : Bs) : 0 < sevN (selN xs c id) ↔ ∃ x ∈ xs, x.adv.id = id /\ cov x c = true := by
 constructor
 ·intro h
  cases hs : selN xs c id with
  | nil => rw [hs] at h; exact absurd h (by decide)
  | cons x l =>
   have hx : x ∈ selN xs c id := by rw [hs]; simp
   unfold selN at hx
   rw [List.mem_filter, Bool.and_eq_true, decide_eq_true_eq] at hx
   exact ⟨x, hx.1, hx.2.1, hx.2.2⟩
 ·rintro ⟨x, hx, rfl, hc⟩
  have := (zkc (selN xs c x.adv.id) 0).2 x (by unfold selN; rw [List.mem_filter]; exact ⟨hx, by rw [hc]; simp⟩)
  have := cov_sev hc
  unfold sevN
  omega
theorem zge {xs : List Note} {id : Bs} : id ∈ idsN xs ↔ ∃ x ∈ xs, x.adv.id = id := by
 unfold idsN
 rw [zc9]
 simp [List.mem_map]
theorem zce (xs : List Note) : AscC Lib.compareBytes (idsN xs) := zdb zbd List.Pairwise.nil
theorem hits_of (xs : List Note) (i : Int) (c : Comp) : rhitsC xs i c = um xs i c := by
 unfold rhitsC um
 rw [List.filter_map]
 congr 1
 refine zjd zbd ((zce xs).filter _) (zce _) fun id => ?_
 unfold jk
 rw [List.mem_filter, zge, zge, Function.comp, decide_eq_true_eq]
 have := sel_sev xs c id
 unfold hitN
 simp only
 rw [this]
 constructor
 ·rintro ⟨_, x, hx, h1, h2⟩
  exact ⟨x, List.mem_filter.2 ⟨hx, h2⟩, h1⟩
 ·rintro ⟨x, hx, h1⟩
  rw [List.mem_filter] at hx
  exact ⟨⟨x, hx.1, h1⟩, x, hx.1, h1, hx.2⟩
theorem zdz {xs : List Note} {l : List Comp} {k : Nat} (h : k < l.length) : qu xs l (k + 1) = qu xs l k ++ um xs k l[k] := by
 rw [qu, List.getElem?_eq_getElem h]
end V
end Go.Proofs.YtbikeahmldobkaaGreatDoor
