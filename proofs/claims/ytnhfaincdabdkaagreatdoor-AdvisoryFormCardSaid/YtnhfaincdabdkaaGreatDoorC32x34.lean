/-
  Lemmas for the law.
-/
import Derived.Test.YtnhfaincdabdkaaGreatDoorC32x20
import Derived.Test.YtnhfaincdabdkaaGreatDoorC32x16
import Derived.Test.YtnhfaincdabdkaaGreatDoorC32x18
import Derived.Test.YtnhfaincdabdkaaGreatDoorC32x19
import Derived.Deep.RegionHeld3
import Derived.Lib.BufferRead
set_option linter.all false
set_option maxRecDepth 100000
set_option maxHeartbeats 3200000
namespace Go.Proofs.YtnhfaincdabdkaaGreatDoor
open Go.RowKit
theorem V.docSz_max {ls : List (List V.Bs)} {M : Nat} (h : ∀ x ∈ ls, V.kf x x.length ≤ M) : ∀ k, k ≤ ls.length -> V.ku ls k ≤ k * M
 | 0, _ => by simp [V.ku]
 | k + 1, hk => by
  rw [V.za7 (by omega)]
  have h1 := V.docSz_max h k (by omega)
  have h2 := h _ (List.getElem_mem (show k < ls.length by omega))
  rw [Nat.succ_mul]
  omega
theorem V.lineSz_max {x : List V.Bs} {M : Nat} (h : ∀ u ∈ x, V.zae u + 1 ≤ M) : V.kf x x.length ≤ x.length * M := by
 unfold V.kf
 rw [List.take_length]
 induction x with
 | nil => simp
 | cons u x ih =>
  rw [List.map_cons, List.sum_cons, List.length_cons, Nat.succ_mul]
  have h1 := h u (List.mem_cons_self ..)
  have h2 := ih fun v hv => h v (List.mem_cons_of_mem _ hv)
  omega
theorem V.ok_size {ls : List (List V.Bs)} (h : ls.length ≤ 1000) (hl : ∀ l ∈ ls, 0 < l.length /\ l.length ≤ 120 /\ ∀ w ∈ l, w.length ≤ 32768) : V.ku ls ls.length ≤ 12000000000 := by
 have := V.docSz_max (ls := ls) (M := 11797000) (fun x hx => by
   have hx := hl x hx
   have a := V.lineSz_max (x := x) (M := 98306) (fun u hu => by have := V.wn u; have := hx.2.2 u hu; omega)
   have b : x.length * 98306 ≤ 120 * 98306 := Nat.mul_le_mul_right _ hx.2.1
   omega) _ (zus _)
 have c : ls.length * 11797000 ≤ 1000 * 11797000 := Nat.mul_le_mul_right _ h
 omega
theorem zxy {P : Prop} (h : P := by
 go_enter Tryz.func92, Tryz.ntmps92
 go_wp2
 go_ret
 exact ⟨by rw [HC.out]; rfl, rfl⟩) : P := h
theorem zm4 (v : Value) (l : List V.Bs) (w : World) (hv : Strs w v l) (hx : ∀ x ∈ l, x.length ≤ maxLen) :
  Calls Tryz.prog 92 #[v] w fun e w' => e = .returned (.int .i64 (V.chk l)) /\ w' = w := by
 obtain ⟨va, vc, rfl, hat⟩ := hv
 have HA := zuq hat
 clear hat
 by_cases h0 : l.length = 0
 ·have HC : Hid (V.chk l = 1) := zuq (by unfold V.chk; rw [if_pos h0])
  exact zxy
 ·have hn0 : ((l.length : Int) == 0) = false := by rw [zuu]; omega
  by_cases h1 : 120 < l.length
  ·have HC : Hid (V.chk l = 3) := zuq (by unfold V.chk; rw [if_neg h0, if_pos h1])
   have hn1 : (120 : Int) < (l.length : Int) := by omega
   exact zxy
  ·have hn1 : ¬ (120 : Int) < (l.length : Int) := by omega
   have HC1 : Hid (∀ j (h : j < l.length), 32768 < l[j].length -> V.chk l = 3) := zuq (fun j h hj => by
     unfold V.chk
     rw [if_neg h0, if_neg h1, if_neg]
     intro e
     rw [List.all_eq_true] at e
     have := e _ (List.getElem_mem h)
     simp at this
     omega)
   have HC0 : Hid ((∀ j (h : j < l.length), l[j].length ≤ 32768) -> V.chk l = 0) := zuq (fun h => by
     unfold V.chk
     rw [if_neg h0, if_neg h1, if_pos]
     rw [List.all_eq_true]
     intro x hx
     obtain ⟨j, hj, rfl⟩ := List.mem_iff_getElem.1 hx
     simpa using h j hj)
   have HX := zuq hx
   clear h0 h1 hx
   go_enter Tryz.func92, Tryz.ntmps92
   go_wp2
   go_loop [15] (fun iv => ∃ k : Nat, k ≤ l.length /\ iv = .int .i64 k /\ ∀ j (h : j < l.length), j < k -> l[j].length ≤ 32768) (fun iv => l.length - (intOf iv).toNat)
   case atStart => exact ⟨0, Nat.zero_le _, rfl, fun j h hj => absurd hj (by omega)⟩
   case round =>
    obtain ⟨k, hk, rfl, hpre⟩ := hrel
    have HPRE := zuq hpre
    clear hpre
    by_cases hlt : k < l.length
    ·obtain ⟨b, off, rfl, hb, hc⟩ := HA.out k hlt
     have hxm := HX.out _ (List.getElem_mem hlt)
     have HC3 := zuq (HC1.out k hlt)
     have HNX : Hid (l[k].length ≤ 32768 -> ∀ j (h : j < l.length), j < k + 1 -> l[j].length ≤ 32768) := zuq (fun e j h hj => by
       rcases Nat.lt_or_ge j k with g | g
       · exact HPRE.out j h g
       · obtain rfl : j = k := by omega
         exact e)
     have hi1 : (0 : Int) ≤ (k : Int) := by omega
     have hi2 : (k : Int) < (l.length : Int) := by omega
     generalize l[k] = x at *
     unfold maxLen at hxm
     have hxs := zck x
     by_cases hbg : 32768 < x.length
     ·have hq := HC3.out hbg
      have hx2 : (32768 : Int) < (x.length : Int) := by omega
      have hx3 : (32768 : Int) < ((ByteArray.mk x.toArray).size : Int) := by rw [hxs]; omega
      have HQ := zuq hq
      clear hq
      go_wp2
      go_ret
      exact ⟨by rw [HQ.out]; rfl, rfl⟩
     ·have hx2 : ¬ (32768 : Int) < (x.length : Int) := by omega
      have hx3 : ¬ (32768 : Int) < ((ByteArray.mk x.toArray).size : Int) := by rw [hxs]; omega
      have HN2 := zuq (HNX.out (by omega))
      go_wp2
      go_round
      case rel => exact ⟨k + 1, by omega, by go_num, HN2.out⟩
      case measure => simp [intOf]; omega
    ·obtain rfl : k = l.length := by omega
     have HQ := zuq (HC0.out (fun j h => HPRE.out j h h))
     go_wp2
     go_ret
     exact ⟨by rw [HQ.out]; rfl, rfl⟩
def EncG (ls : List (List V.Bs)) (w : World) (e : Ending) (w' : World) : Prop :=
 (V.encE ls = 0 -> ∃ u, e = .returned (.tuple #[u, .int .i64 0]) /\ Buf w.heap.size u (V.doc ls) w w') /\ (¬ V.encE ls = 0 -> e = .returned (.tuple #[.slice none 0 0, .int .i64 (V.encE ls)])) /\ Below w.heap.size w w'
theorem V.encE_many {ls : List (List V.Bs)} (h : 1000 < ls.length) : V.encE ls = 3 := by unfold V.encE; rw [if_pos h]
theorem V.encE_bad {ls : List (List V.Bs)} (h : ¬ 1000 < ls.length) (hb : ¬ V.qb ls = 0) : V.encE ls = V.qb ls := by unfold V.encE; rw [if_neg h, if_neg hb]
theorem V.encE_big {ls : List (List V.Bs)} (h : ¬ 1000 < ls.length) (hb : V.qb ls = 0) (hs : 262144 < V.ku ls ls.length) : V.encE ls = 3 := by unfold V.encE; rw [if_neg h, if_pos hb, if_pos hs]
theorem V.encE_ok {ls : List (List V.Bs)} (h : ¬ 1000 < ls.length) (hb : V.qb ls = 0) (hs : ¬ 262144 < V.ku ls ls.length) : V.encE ls = 0 := by unfold V.encE; rw [if_neg h, if_pos hb, if_neg hs]
theorem zr9 (v : Value) (ls : List (List V.Bs)) (w : World) (hv : Lines w v ls) (hx : ∀ l ∈ ls, ∀ x ∈ l, x.length ≤ maxLen) :
  Calls Tryz.prog 60 #[v] w (EncG ls w) := by
 by_cases h1000 : 1000 < ls.length
 ·obtain ⟨va, vc, rfl, hat⟩ := hv
  have HE := zuq (V.encE_many h1000)
  have hn1 : (1000 : Int) < (ls.length : Int) := by omega
  clear hat hx
  go_enter Tryz.func60, Tryz.ntmps60
  go_wp2
  go_ret2
  exact ⟨fun h => (by rw [HE.out] at h; cases h), fun _ => by rw [HE.out]; rfl, zut _ _⟩
 by_cases hok : V.qb ls = 0 /\ ¬ 262144 < V.ku ls ls.length
 ·have he := V.encE_ok h1000 hok.1 hok.2
  refine (zlf v ls w hv (V.zd9 he)).mono ?_
  rintro e w' ⟨u, rfl, hb⟩
  exact ⟨fun _ => ⟨u, rfl, hb⟩, fun h => absurd he h, hb.2.1⟩
 have HBIG : Hid (V.qb ls = 0 -> V.encE ls = 3 /\ 262144 < V.ku ls ls.length) := zuq (fun h => by
   have : 262144 < V.ku ls ls.length := Nat.lt_of_not_le fun e => hok ⟨h, by omega⟩
   exact ⟨V.encE_big h1000 h this, this⟩)
 have HBAD := zuq (V.encE_bad h1000 (ls := ls))
 have HL := zuq hv
 have HXL := zuq hx
 obtain ⟨va, vc, rfl, hat⟩ := hv
 have HA := zuq hat
 have hn : ls.length ≤ 1000 := by omega
 have hn1 : ¬ (1000 : Int) < (ls.length : Int) := by omega
 clear hat hok h1000 hx
 go_enter Tryz.func60, Tryz.ntmps60
 go_wp2
 go_loop [22] (fun iv => ∃ k : Nat, k ≤ ls.length /\ iv = .int .i64 k /\ V.qb ls = V.qb (ls.drop k)) (fun iv => ls.length - (intOf iv).toNat)
 case atStart => exact ⟨0, Nat.zero_le _, rfl, rfl⟩
 case round =>
  obtain ⟨k, hk, rfl, hfb⟩ := hrel
  have HFB := zuq hfb
  clear hfb
  by_cases hlt : k < ls.length
  ·obtain ⟨b, off, u, rfl, hb, hc, hs⟩ := HA.out k hlt
   have HX := zuq (HXL.out _ (List.getElem_mem hlt))
   have HAT := zuq (V.zp1 hlt HFB.out)
   have HS := zuq hs
   have hi1 : (0 : Int) ≤ (k : Int) := by omega
   have hi2 : (k : Int) < (ls.length : Int) := by omega
   generalize ls[k] = l at *
   clear hs
   go_wp2_with fail
   refine (zm4 u l w HS.out HX.out).mono ?_
   rintro e w' ⟨rfl, rfl⟩
   by_cases hck : V.chk l = 0
   ·have HN := zuq (HAT.out.1 hck)
    clear HAT
    rw [hck]
    clear hck
    go_wp2
    go_round
    case rel => exact ⟨k + 1, by omega, by go_num, HN.out⟩
    case measure => simp [intOf]; omega
   ·have hf := HAT.out.2 hck
    have HE : Hid (V.encE ls = V.chk l) := zuq (by rw [HBAD.out (by rw [hf]; exact hck), hf])
    have hcb : (V.chk l == 0) = false := by rw [zuu]; exact hck
    have HCK := zuq hck
    clear hf HAT
    generalize V.chk l = ck at *
    go_wp2
    go_ret2
    exact ⟨fun h => (by rw [HE.out] at h; exact absurd h HCK.out), fun _ => by rw [HE.out]; rfl, zut _ _⟩
  ·obtain rfl : k = ls.length := by omega
   have hz : V.qb ls = 0 := by rw [HFB.out, List.drop_length]; rfl
   have HE := zuq (HBIG.out hz)
   have HOK : Hid (∀ l ∈ ls, 0 < l.length /\ l.length ≤ 120 /\ ∀ w ∈ l, w.length ≤ 32768) := zuq (fun l hl => V.zdv.1 (V.yq.1 hz l hl))
   have hmax := V.ok_size hn HOK.out
   clear hz
   go_wp2
   go_loop [7, 34] (fun tv iv => ∃ k : Nat, k ≤ ls.length /\ iv = .int .i64 k /\ tv = .int .i64 (V.ku ls k : Nat)) (fun _ iv => ls.length - (intOf iv).toNat)
   case atStart => exact ⟨0, Nat.zero_le _, rfl, rfl⟩
   case round =>
    obtain ⟨k, hk, rfl, rfl⟩ := hrel
    have htot := V.zdl (j := k) hk (zus ls.length)
    by_cases hlt : k < ls.length
    ·obtain ⟨b, off, u, rfl, hb, hc, hs⟩ := HA.out k hlt
     have HX := zuq (HOK.out _ (List.getElem_mem hlt))
     exact zu5
    ·obtain rfl : k = ls.length := by omega
     have hbig : (262144 : Int) < (V.ku ls ls.length : Int) := by have := HE.out.2; omega
     obtain ⟨q, hq⟩ : ∃ q, q = V.ku ls ls.length := ⟨_, rfl⟩
     rw [← hq] at hbig ⊢
     clear hlt hk htot hq
     go_wp2
     go_ret2
     exact ⟨fun h => (by rw [HE.out.1] at h; cases h), fun _ => by rw [HE.out.1]; rfl, zut _ _⟩
open Go.RowKit
def V.unwP (s : V.Bs) : V.Bs × Bool := match V.unwR s with | some w => (w, true) | none => ([], false)
theorem digU_val : ∀ n : Fin 256, Lib.indexByte (ByteArray.mk #[48, 49, 50, 51, 52, 53, 54, 55, 56, 57, 65, 66, 67, 68, 69, 70]).data.toList (UInt8.ofNat n.val) = (match V.hexV (UInt8.ofNat n.val) with | some x => (x : Int) | none => -1) := by decide +kernel
def dvB (bad : Int) (c : UInt8) : Int := match V.hexV c with | some x => (x : Int) | none => bad
theorem zis (c : UInt8) (w : World) : Calls Tryz.prog 131 #[.string (ByteArray.mk #[48, 49, 50, 51, 52, 53, 54, 55, 56, 57, 65, 66, 67, 68, 69, 70]), .int .u8 c.toNat] w fun e w' => e = .returned (.int .i64 (dvB (-1) c)) /\ w' = w := by
 refine (Tryz.strings_IndexByte (ByteArray.mk #[48, 49, 50, 51, 52, 53, 54, 55, 56, 57, 65, 66, 67, 68, 69, 70]) c.toNat w).mono ?_
 rintro e w' ⟨rfl, rfl⟩
 refine ⟨?_, rfl⟩
 have h := digU_val ⟨c.toNat, c.toNat_lt⟩
 simp only [UInt8.ofNat_toNat] at h
 have e : ((c.toNat : Int)).toNat.toUInt8 = c := by simp
 rw [e, h]
 rfl
theorem unwP_end {S out : V.Bs} (h1 : S ≠ [126]) (h2 : V.qw S = some out) (h3 : out ≠ []) : V.unwP S = (out, true) := by
 unfold V.unwP V.unwR
 rw [if_neg h1, h2]
 simp [h3]
theorem zb8 {S : V.Bs} (h1 : S ≠ [126]) (h2 : V.qw S = none) : V.unwP S = ([], false) := by
 unfold V.unwP V.unwR
 rw [if_neg h1, h2]
theorem conv_nil (w : World) : (convert 22 9 (.slice none 0 0)).run Tryz.prog w = .ok (.string ⟨#[]⟩) w :=
 Lib.run_convert_nil_bytes w _ _ _ 0 Tryz.underlying22 Tryz.underlying5 Tryz.underlying9
theorem zxh {P : Prop} (h : P := by
 go_wp2
 go_ret2
 exact ⟨by rw [HUW.out]; rfl, HBE.out⟩) : P := h
theorem zlc (s : ByteArray) (w : World) (hs : s.size ≤ 1000000) : Calls Tryz.prog 91 #[.string s] w fun e w' => e = .returned (.tuple #[.string ⟨(V.unwP s.data.toList).1.toArray⟩, .bool (V.unwP s.data.toList).2]) /\ Below w.heap.size w w' := by
 by_cases h126 : s.data.toList = [126]
 ·have hs1 : s = ⟨#[126]⟩ := ks (by rw [h126])
  subst hs1
  go_enter Tryz.func91, Tryz.ntmps91
  go_wp2
  go_ret2
  exact ⟨rfl, zut _ _⟩
 ·have HN := zuq h126
  have hne : (s.data.toList == [126]) = false := zuu.2 h126
  have hne4 : (s.toList == [126]) = false := by rw [Lib.toList_data]; exact hne
  clear h126
  go_enter Tryz.func91, Tryz.ntmps91
  go_wp2
  go_loopw [4, 5] (fun ov iv wx => ∃ (k : Nat) (out : V.Bs), k ≤ s.size /\ iv = .int .i64 k /\ Buf w.heap.size ov out w wx /\ V.qw s.data.toList = (V.qw (s.data.toList.drop k)).map (out ++ ·) /\ out.length ≤ k /\ (0 < k -> out ≠ []) /\ (k = 0 -> ov = .slice none 0 0)) (fun _ iv _ => s.size - (intOf iv).toNat)
  case atStart => exact ⟨0, [], Nat.zero_le _, rfl, Buf.nil (zut _ _) (zus _), by simp, zus _, fun h => absurd h (by omega), fun _ => rfl⟩
  case round =>
   obtain ⟨k, out, hk, rfl, hb, hg, hol, hpos, hk0⟩ := hrel
   have HB := zuq hb
   obtain ⟨oa, oc, rfl⟩ := hb.slice
   have hl := zf s
   clear hb
   by_cases hlt : k < s.size
   ·have hk0c := hk0
    clear hk0 hpos
    have HAT := zuq (V.unw_at hg (k := k) (by omega))
    have he : s.data.toList[k]'(by omega) = s[k] := by simp; rfl
    have hs1 : (0 : Int) ≤ (k : Int) := by omega
    have hs2 : (k : Int) < (s.size : Int) := by omega
    obtain ⟨c, hc⟩ : ∃ c, c = s[k] := ⟨_, rfl⟩
    rw [he, ← hc] at HAT
    have HC := zuq hc
    have hc256 := c.toNat_lt
    clear he hc hg hk0c
    go_wp2_with fail
    rw [← HC.out]
    refine (zaj c wr).mono ?_
    rintro e w2 ⟨rfl, rfl⟩
    rcases hp : V.jr c with _ | _
    ·by_cases hc37 : c = 37
     ·have hq37 : ((c.toNat : Int) == 37) = true := by rw [hc37]; rfl
      by_cases hsh : s.size < k + 3
      ·have HUW : Hid (V.unwP s.data.toList = ([], false)) := zuq (zb8 HN.out (HAT.out.2.2.1 hc37 (by omega)))
       have hq1 : IntKind.i64.wrap ((k : Int) + 2) = (k : Int) + 2 := by unfold IntKind.wrap; simp [IntKind.signed, IntKind.bits]; omega
       have hq2 : (s.size : Int) ≤ (k : Int) + 2 := by omega
       have hq3 : IntKind.i64.wrap ((s.size : Int) - (k : Int)) = (s.size : Int) - (k : Int) := by unfold IntKind.wrap; simp [IntKind.signed, IntKind.bits]; omega
       have hq4 : (s.size : Int) - (k : Int) < 3 := by omega
       subst hc37
       have hq5 : s[k] = 37 := HC.out.symm
       have HBE := zuq HB.out.2.1
       clear hp HAT HC hq37
       exact zxh
      ·have he1 : s.data.toList[k + 1]'(by omega) = s[k + 1]'(by omega) := by simp; rfl
       have he2 : s.data.toList[k + 2]'(by omega) = s[k + 2]'(by omega) := by simp; rfl
       obtain ⟨c1, hc1⟩ : ∃ c1, c1 = s[k + 1]'(by omega) := ⟨_, rfl⟩
       obtain ⟨c2, hc2⟩ : ∃ c2, c2 = s[k + 2]'(by omega) := ⟨_, rfl⟩
       have HC1 : Hid (s.data.toList[((k : Int) + 1).toNat]? = some c1) := zuq (by rw [show ((k : Int) + 1).toNat = k + 1 by omega, List.getElem?_eq_getElem (by omega), he1, ← hc1])
       have HC2 : Hid (s.data.toList[((k : Int) + 2).toNat]? = some c2) := zuq (by rw [show ((k : Int) + 2).toNat = k + 2 by omega, List.getElem?_eq_getElem (by omega), he2, ← hc2])
       have A1 : Hid (V.hexV c1 = none ∨ V.hexV c2 = none -> V.qw s.data.toList = none) := zuq (fun h => HAT.out.2.2.2.1 (by omega) hc37 (by rw [he1, he2, ← hc1, ← hc2]; exact h))
       have h3 : k + 2 < s.data.toList.length := by omega
       have A2 := zuq (fun (x y : Nat) (hx : V.hexV c1 = some x) (hy : V.hexV c2 = some y) => HAT.out.2.2.2.2 h3 x y hc37 (by rw [he1, ← hc1]; exact hx) (by rw [he2, ← hc2]; exact hy))
       have hq1 : IntKind.i64.wrap ((k : Int) + 1) = (k : Int) + 1 := by unfold IntKind.wrap; simp [IntKind.signed, IntKind.bits]; omega
       have hq2 : IntKind.i64.wrap ((k : Int) + 2) = (k : Int) + 2 := by unfold IntKind.wrap; simp [IntKind.signed, IntKind.bits]; omega
       have hq3 : IntKind.i64.wrap ((s.size : Int) - (k : Int)) = (s.size : Int) - (k : Int) := by unfold IntKind.wrap; simp [IntKind.signed, IntKind.bits]; omega
       have hq4 : ¬ (s.size : Int) - (k : Int) < 3 := by omega
       have hq6 : ¬ (s.size : Int) ≤ (k : Int) + 2 := by omega
       have hle : k + 3 ≤ s.size := by omega
       subst hc37
       have hq5 : s[k] = 37 := HC.out.symm
       clear hp HAT HC hq37 hc1 hc2 he1 he2 hsh h3
       go_wp2_with fail
       refine wp_region_held_drew (S := (fun W' => Below w2.heap.size w2 W')) (by kernel_rfl) (by (try dsimp only); exact (zut _ w2).drew) (fun hHeld => ?_)
       refine tk 0 ?_
       refine tk 1 ?_
       refine wpAnyH_take (i := 2) (v := (.int .i64 ((k : Int) + 1))) rfl (by kernel_rfl) (by kernel_rfl) (by kernel_rfl) (fun _ _ _ h => h) (Or.inl ⟨by rfl, fun w' hSw => by go_simp; try rfl⟩) (by assumption) ?_
       try simp only [zul, zum, zun, Act.put, zuo, List.set_cons_succ, List.set_cons_zero]
       refine wpAnyH_take (i := 3) (v := (.int .u8 c1.toNat)) rfl (by kernel_rfl) (by kernel_rfl) (by kernel_rfl) (fun _ _ _ h => h) (Or.inl ⟨by rfl, fun w' hSw => zca rfl rfl rfl (by omega) HC1.out⟩) (by assumption) ?_
       try simp only [zul, zum, zun, Act.put, zuo, List.set_cons_succ, List.set_cons_zero]
       refine tk 5 ?_
       refine tk 6 ?_
       refine wpAnyH_take (i := 7) (v := (.int .i64 ((k : Int) + 2))) rfl (by kernel_rfl) (by kernel_rfl) (by kernel_rfl) (fun _ _ _ h => h) (Or.inl ⟨by rfl, fun w' hSw => by go_simp; try rfl⟩) (by assumption) ?_
       try simp only [zul, zum, zun, Act.put, zuo, List.set_cons_succ, List.set_cons_zero]
       refine wpAnyH_take (i := 8) (v := (.int .u8 c2.toNat)) rfl (by kernel_rfl) (by kernel_rfl) (by kernel_rfl) (fun _ _ _ h => h) (Or.inl ⟨by rfl, fun w' hSw => zca rfl rfl rfl (by omega) HC2.out⟩) (by assumption) ?_
       try simp only [zul, zum, zun, Act.put, zuo, List.set_cons_succ, List.set_cons_zero]
       refine rd 4 fun K hK => ?_
       go_simp
       refine (zis c1 _).mono ?_
       rintro e wA ⟨rfl, rfl⟩
       try dsimp only
       refine hK.out _ _ ?_ (fun hHeld => nx ?_)
       ·(try dsimp only); exact (zut _ w2).drew
       clear hK K
       refine rd 9 fun K hK => ?_
       go_simp
       refine (zis c2 _).mono ?_
       rintro e wB ⟨rfl, rfl⟩
       try dsimp only
       refine hK.out _ _ ?_ (fun hHeld => nx ?_)
       ·(try dsimp only); exact (zut _ w2).drew
       clear hK K
       refine tk 10 ?_
       refine tk 11 ?_
       refine wpAnyH_done (by kernel_rfl) ?_ _
       have HBD := zuq (HB.out.below (zut _ w2).drew)
       clear hHeld HB HC1 HC2
       generalize w2.drew = w3 at *
       rcases hx : V.hexV c1 with _ | x
       ·have HUW : Hid (V.unwP s.data.toList = ([], false)) := zuq (zb8 HN.out (A1.out (.inl hx)))
        have hd1 : dvB (-1) c1 = (-1) := by unfold dvB; rw [hx]
        have HBE := zuq HBD.out.2.1
        clear hx A1 A2
        exact zxh
       ·have hd1 : dvB (-1) c1 = (x : Int) := by unfold dvB; rw [hx]
        have hx16 := V.zh7 hx
        have hxn : ¬ (x : Int) < 0 := by omega
        have hxe : ((x : Int) == 16) = false := by rw [zuu]; omega
        rcases hy : V.hexV c2 with _ | y
        ·have HUW : Hid (V.unwP s.data.toList = ([], false)) := zuq (zb8 HN.out (A1.out (.inr hy)))
         have hd2 : dvB (-1) c2 = (-1) := by unfold dvB; rw [hy]
         have HBE := zuq HBD.out.2.1
         clear hx hy A1 A2
         exact zxh
        ·have hd2 : dvB (-1) c2 = (y : Int) := by unfold dvB; rw [hy]
         have hy16 := V.zh7 hy
         have hyn : ¬ (y : Int) < 0 := by omega
         have hye : ((y : Int) == 16) = false := by rw [zuu]; omega
         have HA := zuq (A2.out x y hx hy)
         clear hx hy A1 A2
         obtain ⟨v, hv⟩ : ∃ v, v = UInt8.ofNat (16 * x + y) := ⟨_, rfl⟩
         have hvv : (v.toNat : Int) = 16 * (x : Int) + (y : Int) := by rw [hv]; simp; omega
         rw [← hv] at HA
         clear hv
         have hw1 : IntKind.i64.wrap (16 * (x : Int)) = 16 * (x : Int) := by unfold IntKind.wrap; simp [IntKind.signed, IntKind.bits]; omega
         have hw2 : IntKind.i64.wrap (16 * (x : Int) + (y : Int)) = 16 * (x : Int) + (y : Int) := by unfold IntKind.wrap; simp [IntKind.signed, IntKind.bits]; omega
         have hw3 : IntKind.u8.wrap (16 * (x : Int) + (y : Int)) = 16 * (x : Int) + (y : Int) := by unfold IntKind.wrap; simp [IntKind.signed, IntKind.bits]; omega
         have HVV := zuq hvv
         clear hvv
         have HPL := zaj v w3
         rw [HVV.out] at HPL
         have HPL := zuq HPL
         go_wp2_with fail
         refine HPL.out.mono ?_
         rintro e w4 ⟨rfl, rfl⟩
         clear HPL
         rcases hp2 : V.jr v with _ | _
         ·have HNX := zuq (HA.out.2 hp2)
          have HB2 : Hid (Buf w.heap.size (.slice oa out.length oc) out w (w4.alloc (.cells #[.int .u8 (16 * (x : Int) + (y : Int))] 5))) := zuq (HBD.out.below ((zut _ w4).alloc (zus _) _))
          have HBN : Hid (∀ j u, (bvals [v])[j]? = some u -> (w4.alloc (.cells #[.int .u8 (16 * (x : Int) + (y : Int))] 5)).cell? ⟨w4.heap.size, j, none⟩ = some u) := zuq (by rw [← HVV.out]; exact za0 [v] w4)
          clear hp2 HA
          go_wp2_with (first | (refine zdi rfl _ _ rfl w.heap.size (.slice oa out.length oc) out w rfl HB2.out w4.heap.size 1 [v] rfl HBN.out (by simp; omega) ?_; intro v9 w9 hb9) | fail)
          have HB9 := zuq hb9
          clear hb9 HB2 HBN HBD
          go_wp2
          go_roundw
          case rel => exact ⟨k + 3, out ++ [v], hle, by go_num, HB9.out, HNX.out, by simp; omega, fun _ => by simp, fun h => absurd h (by omega)⟩
          case measure => simp [intOf]; omega
         ·have HUW : Hid (V.unwP s.data.toList = ([], false)) := zuq (zb8 HN.out (HA.out.1 hp2))
          have HBE := zuq HBD.out.2.1
          clear hp2 HA
          exact zxh
     ·have HUW : Hid (V.unwP s.data.toList = ([], false)) := zuq (zb8 HN.out (HAT.out.2.1 hp hc37))
      have hq1 : ¬ ((c.toNat : Int) = 37) := fun e => hc37 (by apply UInt8.toNat_inj.1; have : c.toNat = 37 := by omega
                                                               rw [this]; rfl)
      have hq2 : ((c.toNat : Int) == 37) = false := zuu.2 hq1
      have HBE := zuq HB.out.2.1
      rw [HC.out] at hq1 hq2
      clear hp HAT
      exact zxh
    ·have HNX := zuq (HAT.out.1 hp)
     clear hp HAT
     have HB2 : Hid (Buf w.heap.size (.slice oa out.length oc) out w (w2.alloc (.cells #[.int .u8 s[k].toNat] 5))) := zuq (HB.out.below ((zut _ w2).alloc (zus _) _))
     have HBN : Hid (∀ j u, (bvals [c])[j]? = some u -> (w2.alloc (.cells #[.int .u8 s[k].toNat] 5)).cell? ⟨w2.heap.size, j, none⟩ = some u) := zuq (by rw [← HC.out]; exact za0 [c] w2)
     go_wp2_with (first | (refine zdi rfl _ _ rfl w.heap.size (.slice oa out.length oc) out w rfl HB2.out w2.heap.size 1 [c] rfl HBN.out (by simp; omega) ?_; intro v9 w9 hb9) | fail)
     have HB9 := zuq hb9
     clear hb9 HB2 HBN HB HC
     go_wp2
     go_roundw
     case rel => exact ⟨k + 1, out ++ [c], by omega, by go_num, HB9.out, HNX.out, by simp; omega, fun _ => by simp, fun h => absurd h (by omega)⟩
     case measure => simp [intOf]; omega
   ·obtain rfl : k = s.size := by omega
    have hg2 : V.qw s.data.toList = some out := by
     rw [hg, List.drop_of_length_le (by omega)]
     simp [V.qw]
    clear hg
    have HOUT := zuq hg2
    by_cases hs0 : s.size = 0
    ·have hov := hk0 hs0
     have hcv := conv_nil wr
     have HUW : Hid (V.unwP s.data.toList = ([], false)) := zuq (by
       have : s.data.toList = [] := List.length_eq_zero_iff.1 (by rw [zf]; exact hs0)
       rw [this]; rfl)
     have HBE := zuq HB.out.2.1
     obtain rfl : out = [] := List.length_eq_zero_iff.1 (by omega)
     simp only [List.length_nil, Value.slice.injEq] at hov
     obtain ⟨rfl, -, rfl⟩ := hov
     exact zxh
    ·have HUW : Hid (V.unwP s.data.toList = (out, true)) := zuq (unwP_end HN.out HOUT.out (hpos (by omega)))
     have hcv := zja HB.out (List.length_pos_iff.2 (hpos (by omega)))
     have hop := List.length_pos_iff.2 (hpos (by omega))
     have hop2 : (0 : Int) < (out.length : Int) := by omega
     have HBL := zuq HB.out.2.1
     go_wp2
     go_ret2
     exact ⟨by rw [HUW.out]; rfl, HBL.out⟩
open Go.RowKit
namespace V
theorem ziy (s : Bs) : unwP s = ([], false) ∨ ∃ w, unwP s = (w, true) /\ unwR s = some w := by
 unfold unwP
 cases unwR s with
 | none => exact .inl rfl
 | some w => exact .inr ⟨w, rfl, rfl⟩
theorem unwR_len {s w : Bs} (h : unwR s = some w) : w.length ≤ s.length := by
 have h1 := zbt w
 rw [zlz h] at h1
 rw [h1]
 unfold zae
 have := le_sum w
 omega
theorem zru (c : UInt8) {s x : Bs} (h : x ∈ ze c s) : x.length ≤ s.length := by
 have h1 := zil c s
 have h2 : ∀ {l : List Bs} {x : Bs}, x ∈ l -> x.length + 1 ≤ (l.map fun x => x.length + 1).sum := by
  intro l x hx
  induction l with
  | nil => cases hx
  | cons y l ih =>
   rw [List.map_cons, List.sum_cons]
   rcases List.mem_cons.1 hx with rfl | hx
   ·omega
   ·have := ih hx; omega
 have := h2 h
 omega
theorem zr2 (c : UInt8) (s : Bs) : (ze c s).length ≤ s.length + 1 := by
 have h1 := zil c s
 have h2 : ∀ l : List Bs, l.length ≤ (l.map fun x => x.length + 1).sum := by
  intro l
  induction l with
  | nil => simp
  | cons y l ih => rw [List.map_cons, List.sum_cons, List.length_cons]; omega
 have := h2 (ze c s)
 omega
theorem zl9 : ∀ {P l : List Bs} {M : Nat}, qz P = some l -> (∀ s ∈ P, s.length ≤ M) -> ∀ w ∈ l, w.length ≤ M
 | [], l, M, h, _ => by cases h; intro w hw; cases hw
 | s :: P, l, M, h, hm => by
  rw [qz] at h
  cases hs : unwR s with
  | none => rw [hs] at h; cases h
  | some w =>
   rw [hs] at h
   simp only at h
   cases hr : qz P with
   | none => rw [hr] at h; cases h
   | some l' =>
    rw [hr] at h
    cases h
    intro x hx
    rcases List.mem_cons.1 hx with rfl | hx
    ·have := unwR_len hs
     have := hm s (List.mem_cons_self ..)
     omega
    ·exact zl9 hr (fun s hs => hm s (List.mem_cons_of_mem _ hs)) x hx
end V
def zbg (w : World) (v : Value) (bs : V.Bs) : Prop :=
 ∃ a cap, v = .slice a bs.length cap /\ bs.length ≤ cap /\ ∀ j (h : j < bs.length), ∃ b off, a = some ⟨b, off, none⟩ /\ b < w.heap.size /\ w.cell? ⟨b, off + j, none⟩ = some (.int .u8 (bs[j]).toNat)
theorem zbg.below {w w' : World} {v : Value} {bs : V.Bs} (h : zbg w v bs) (hb : Below w.heap.size w w') : zbg w' v bs := by
 obtain ⟨a, cap, e, hc, hat⟩ := h
 refine ⟨a, cap, e, hc, fun j hj => ?_⟩
 obtain ⟨b, off, ea, hlt, hr⟩ := hat j hj
 exact zyu
theorem zjf (w : World) (g off n cap : Nat) (bs : V.Bs) (hn : bs.length = n) (hc : ∀ j (h : j < bs.length), w.cell? ⟨g, off + j, none⟩ = some (.int .u8 (bs[j]).toNat)) :
  (convert 22 9 (.slice (some ⟨g, off, none⟩) n cap)).run Tryz.prog w = .ok (.string ⟨bs.toArray⟩) w := by
 subst hn
 have r := run_convert_bytes_arg (P := Tryz.prog) w 22 5 Tryz.underlying22 Tryz.underlying5 g off bs.length cap (bs.map fun b => (b.toNat : Int)) (by simp) (fun i hi => by
   rw [hc i hi, List.getD_eq_getElem?_getD, List.getElem?_map, List.getElem?_eq_getElem hi]
   rfl) 9 Tryz.underlying9
 refine r.trans (congrArg (fun x => Result.ok (Value.string x) w) (ks ?_))
 rw [strOfNums_data, List.map_map]
 simp only [zah]
 conv => rhs; rw [← List.map_id bs]
 apply List.map_congr_left
 intro b _
 simp
def wrdE (s : V.Bs) : List Value := [.string ⟨s.toArray⟩]
theorem wrdE_len (s : V.Bs) : (wrdE s).length = 1 := rfl
theorem wrdE_one (s : V.Bs) : ∀ u ∈ wrdE s, u.oneCell' = true := by
 intro u hu
 simp [wrdE] at hu
 subst hu
 rfl
theorem wrdInfo : xj 9 1 16 := by
 have h : (match Tryz.prog.info? 9 with | some i => i.size == 1 && (i.bytes == 16 && (match i.zero with | some z => z.cells.size == 1 | none => false)) | none => false) = true := by kernel_rfl
 unfold xj
 cases hq : Tryz.prog.info? 9 with
 | none => rw [hq] at h; cases h
 | some i =>
  exact zu6
theorem wrd_strs {w : World} {N : Nat} {v : Value} {l : List V.Bs} (h : GRow 9 1 wrdE w N v l) : Strs w v l := by
 obtain ⟨a, cap, rfl⟩ := GRow.slice h
 refine ⟨a, cap, rfl, fun j hj => ?_⟩
 obtain ⟨g, cap2, e, hN, hg, hc⟩ := GRow.at wrdE_len h j hj
 cases e
 exact ⟨g, 0, rfl, hg, by simpa using hc 0 _ rfl⟩
theorem Lines.nil (w : World) : Lines w (.slice none 0 0) [] := ⟨none, 0, rfl, fun j h => by simp at h⟩
def CapOk (v : Value) : Prop := ∃ a n c, v = .slice a n c /\ n ≤ c
theorem LRow.cap {N : Nat} {w : World} {v : Value} {us : List Lsl} {ls : List (List V.Bs)} (h : LRow N w v us ls) : CapOk v := by
 rcases h.row.2 with ⟨rfl, hn⟩ | ⟨g, cap, cur, rfl, _, _, hc, _⟩
 ·exact ⟨_, _, _, rfl, zus _⟩
 ·exact ⟨_, _, _, rfl, hc⟩
def zar (bs : V.Bs) (w : World) (e : Ending) (w' : World) : Prop :=
 ∃ u, e = .returned (.tuple #[u, .int .i64 (V.decP bs).2]) /\ Lines w' u (V.decP bs).1 /\ CapOk u /\ Below w.heap.size w w'
theorem zar.err {bs : V.Bs} {w w' : World} {c : Int} (h : V.decP bs = ([], c)) (hb : Below w.heap.size w w') : zar bs w (.returned (.tuple #[.slice none 0 0, .int .i64 c])) w' :=
 ⟨_, by rw [h], by rw [h]; exact Lines.nil _, ⟨_, _, _, rfl, zus _⟩, hb⟩
open Go.RowKit
theorem Lines.at {w : World} {a : Option Addr} {n cap : Nat} {ls : List (List V.Bs)} (h : Lines w (.slice a n cap) ls) (j : Nat) (hj : j < ls.length) : ∃ b off u, a = some ⟨b, off, none⟩ /\ b < w.heap.size /\ w.cell? ⟨b, off + j, none⟩ = some u /\ Strs w u ls[j] := by
 obtain ⟨a', c, e, hc⟩ := h
 cases e
 exact hc j hj
theorem zqz {w : World} {B off cap m : Nat} {l0 : List V.Bs} {rest : List (List V.Bs)} (h : Lines w (.slice (some ⟨B, off, none⟩) m cap) (l0 :: rest)) (hm : m = rest.length + 1) (hc : m ≤ cap) :
  ∃ o', (if cap = 1 then some (⟨B, off, none⟩ : Addr) else some ⟨B, off + 1, none⟩) = some ⟨B, o', none⟩ /\ ∀ j (hj : j < rest.length), ∃ u, w.cell? ⟨B, o' + j, none⟩ = some u /\ Strs w u rest[j] := by
 by_cases h1 : cap = 1
 ·refine ⟨off, if_pos h1, fun j hj => by omega⟩
 ·refine ⟨off + 1, if_neg h1, fun j hj => ?_⟩
  obtain ⟨b, o, u, e, _, hu, hs⟩ := h.at (j + 1) (by simp; omega)
  cases e
  refine ⟨u, ?_, by simpa using hs⟩
  rw [Nat.add_assoc, Nat.add_comm 1 j]
  exact hu
theorem V.decP_words {bs : V.Bs} : ∀ l ∈ (V.decP bs).1, ∀ x ∈ l, x.length ≤ 32768 := by
 intro l hl x hx
 unfold V.decP at hl
 split at hl
 ·simp at hl
 ·split at hl
  ·rename_i ls hls
   split at hl
   ·simp only at hl
    have hp : ∀ (r : List V.Bs) (ls : List (List V.Bs)), V.ji r = some ls -> ∀ l ∈ ls, V.chk l = 0 := by
     intro r
     induction r with
     | nil => intro ls h; simp [V.ji] at h
     | cons x t ih =>
      intro ls h
      by_cases ht : t = []
      ·subst ht
       unfold V.ji at h
       split at h
       ·cases h; intro l hl; simp at hl
       ·cases h
      ·rw [V.zdr ht] at h
       split at h
       ·cases h
       ·rename_i l0 _
        split at h
        ·rename_i hc
         rw [Option.map_eq_some_iff] at h
         obtain ⟨ls', h1, rfl⟩ := h
         intro l hl
         rcases List.mem_cons.1 hl with rfl | hl
         ·exact hc
         ·exact ih _ h1 l hl
        ·cases h
    exact (V.zdv.1 (hp _ _ hls l hl)).2.2 x hx
   ·simp at hl
  ·simp at hl
theorem V.decP_len (bs : V.Bs) : (V.decP bs).1.length ≤ 1000 := by
 unfold V.decP
 split
 ·simp
 ·split
  ·split
   ·assumption
   ·simp
  ·simp
end Go.Proofs.YtnhfaincdabdkaaGreatDoor
