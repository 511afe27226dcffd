/-
  Lemmas for the law.
-/
import Derived.Test.YtnhfaincdabdkaaGreatDoorC31x21
import Derived.Test.YtnhfaincdabdkaaGreatDoorC31x15
set_option linter.all false
set_option maxRecDepth 100000
set_option maxHeartbeats 3200000
namespace Go.Proofs.YtnhfaincdabdkaaGreatDoor
open Go.RowKit
theorem V.docTo_len2 {ls : List (List V.Bs)} : ∀ k, k ≤ ls.length -> (∀ j (h : j < ls.length), j < k -> 0 < ls[j].length) -> (V.zbk ls k).length = V.jo ls k
 | 0, _, _ => rfl
 | k + 1, h, hw => by
  rw [V.zcw (by omega), V.yl (by omega), List.length_append, V.docTo_len2 k (by omega) (fun j h1 h2 => hw j h1 (by omega)), V.zf6 (hw k (by omega) (by omega))]
theorem V.docSz_max {ls : List (List V.Bs)} {M : Nat} (h : ∀ x ∈ ls, V.jj x x.length ≤ M) : ∀ k, k ≤ ls.length -> V.jo ls k ≤ k * M
 | 0, _ => by simp [V.jo]
 | k + 1, hk => by
  rw [V.yl (by omega)]
  have h1 := V.docSz_max h k (by omega)
  have h2 := h _ (List.getElem_mem (show k < ls.length by omega))
  rw [Nat.succ_mul]
  omega
theorem V.lineSz_max {x : List V.Bs} {M : Nat} (h : ∀ u ∈ x, V.wf u + 1 ≤ M) : V.jj x x.length ≤ x.length * M := by
 unfold V.jj
 rw [List.take_length]
 induction x with
 | nil => simp
 | cons u x ih =>
  rw [List.map_cons, List.sum_cons, List.length_cons, Nat.succ_mul]
  have h1 := h u (List.mem_cons_self ..)
  have h2 := ih fun v hv => h v (List.mem_cons_of_mem _ hv)
  omega
theorem V.ok_size {ls : List (List V.Bs)} (h : ls.length ≤ 1000) (hl : ∀ l ∈ ls, 0 < l.length /\ l.length ≤ 120 /\ ∀ w ∈ l, w.length ≤ 32768) : V.jo ls ls.length ≤ 12000000000 := by
 have := V.docSz_max (ls := ls) (M := 11797000) (fun x hx => by
   have hx := hl x hx
   have a := V.lineSz_max (x := x) (M := 98306) (fun u hu => by have := V.xp u; have := hx.2.2 u hu; omega)
   have b : x.length * 98306 ≤ 120 * 98306 := Nat.mul_le_mul_right _ hx.2.1
   omega) _ (zu0 _)
 have c : ls.length * 11797000 ≤ 1000 * 11797000 := Nat.mul_le_mul_right _ h
 omega
theorem zzg {P : Prop} (h : P := by
 go_enter Tryz.func92, Tryz.ntmps92
 go_wp2
 go_ret
 exact ⟨by rw [HC.out]; rfl, rfl⟩) : P := h
theorem znv (v : Value) (l : List V.Bs) (w : World) (hv : Strs w v l) (hx : ∀ x ∈ l, x.length ≤ maxLen) :
  Calls Tryz.prog 92 #[v] w fun e w' => e = .returned (.int .i64 (V.chk l)) /\ w' = w := by
 obtain ⟨va, vc, rfl, hat⟩ := hv
 have HA := zuy hat
 clear hat
 by_cases h0 : l.length = 0
 ·have HC : Hid (V.chk l = 1) := zuy (by unfold V.chk; rw [if_pos h0])
  exact zzg
 ·have hn0 : ((l.length : Int) == 0) = false := by rw [zu2]; omega
  by_cases h1 : 120 < l.length
  ·have HC : Hid (V.chk l = 3) := zuy (by unfold V.chk; rw [if_neg h0, if_pos h1])
   have hn1 : (120 : Int) < (l.length : Int) := by omega
   exact zzg
  ·have hn1 : ¬ (120 : Int) < (l.length : Int) := by omega
   have HC1 : Hid (∀ j (h : j < l.length), 32768 < l[j].length -> V.chk l = 3) := zuy (fun j h hj => by
     unfold V.chk
     rw [if_neg h0, if_neg h1, if_neg]
     intro e
     rw [List.all_eq_true] at e
     have := e _ (List.getElem_mem h)
     simp at this
     omega)
   have HC0 : Hid ((∀ j (h : j < l.length), l[j].length ≤ 32768) -> V.chk l = 0) := zuy (fun h => by
     unfold V.chk
     rw [if_neg h0, if_neg h1, if_pos]
     rw [List.all_eq_true]
     intro x hx
     obtain ⟨j, hj, rfl⟩ := List.mem_iff_getElem.1 hx
     simpa using h j hj)
   have HX := zuy hx
   clear h0 h1 hx
   go_enter Tryz.func92, Tryz.ntmps92
   go_wp2
   go_loop [15] (fun iv => ∃ k : Nat, k ≤ l.length /\ iv = .int .i64 k /\ ∀ j (h : j < l.length), j < k -> l[j].length ≤ 32768) (fun iv => l.length - (intOf iv).toNat)
   case atStart => exact ⟨0, Nat.zero_le _, rfl, fun j h hj => absurd hj (by omega)⟩
   case round =>
    obtain ⟨k, hk, rfl, hpre⟩ := hrel
    have HPRE := zuy hpre
    clear hpre
    by_cases hlt : k < l.length
    ·obtain ⟨b, off, rfl, hb, hc⟩ := HA.out k hlt
     have hxm := HX.out _ (List.getElem_mem hlt)
     have HC3 := zuy (HC1.out k hlt)
     have HNX : Hid (l[k].length ≤ 32768 -> ∀ j (h : j < l.length), j < k + 1 -> l[j].length ≤ 32768) := zuy (fun e j h hj => by
       rcases Nat.lt_or_ge j k with g | g
       · exact HPRE.out j h g
       · obtain rfl : j = k := by omega
         exact e)
     have hi1 : (0 : Int) ≤ (k : Int) := by omega
     have hi2 : (k : Int) < (l.length : Int) := by omega
     generalize l[k] = x at *
     unfold maxLen at hxm
     have hxs := yh x
     by_cases hbg : 32768 < x.length
     ·have hq := HC3.out hbg
      have hx2 : (32768 : Int) < (x.length : Int) := by omega
      have hx3 : (32768 : Int) < ((ByteArray.mk x.toArray).size : Int) := by rw [hxs]; omega
      have HQ := zuy hq
      clear hq
      go_wp2
      go_ret
      exact ⟨by rw [HQ.out]; rfl, rfl⟩
     ·have hx2 : ¬ (32768 : Int) < (x.length : Int) := by omega
      have hx3 : ¬ (32768 : Int) < ((ByteArray.mk x.toArray).size : Int) := by rw [hxs]; omega
      have HN2 := zuy (HNX.out (by omega))
      go_wp2
      go_round
      case rel => exact ⟨k + 1, by omega, by go_num, HN2.out⟩
      case measure => simp [intOf]; omega
    ·obtain rfl : k = l.length := by omega
     have HQ := zuy (HC0.out (fun j h => HPRE.out j h h))
     go_wp2
     go_ret
     exact ⟨by rw [HQ.out]; rfl, rfl⟩
def EncG (ls : List (List V.Bs)) (w : World) (e : Ending) (w' : World) : Prop :=
 (V.encE ls = 0 -> ∃ u, e = .returned (.tuple #[u, .int .i64 0]) /\ Buf w.heap.size u (V.doc ls) w w') /\ (¬ V.encE ls = 0 -> e = .returned (.tuple #[.slice none 0 0, .int .i64 (V.encE ls)])) /\ Below w.heap.size w w'
theorem V.encE_many {ls : List (List V.Bs)} (h : 1000 < ls.length) : V.encE ls = 3 := by unfold V.encE; rw [if_pos h]
theorem V.encE_bad {ls : List (List V.Bs)} (h : ¬ 1000 < ls.length) (hb : ¬ V.zw ls = 0) : V.encE ls = V.zw ls := by unfold V.encE; rw [if_neg h, if_neg hb]
theorem V.encE_big {ls : List (List V.Bs)} (h : ¬ 1000 < ls.length) (hb : V.zw ls = 0) (hs : 262144 < V.jo ls ls.length) : V.encE ls = 3 := by unfold V.encE; rw [if_neg h, if_pos hb, if_pos hs]
theorem V.encE_ok {ls : List (List V.Bs)} (h : ¬ 1000 < ls.length) (hb : V.zw ls = 0) (hs : ¬ 262144 < V.jo ls ls.length) : V.encE ls = 0 := by unfold V.encE; rw [if_neg h, if_pos hb, if_neg hs]
theorem z0e {P : Prop} (h : P := by
 go_wp2
 go_ret2
 exact ⟨fun h => (by rw [HE.out] at h; cases h), fun _ => by rw [HE.out]; rfl, zu1 _ _⟩) : P := h
theorem zso (v : Value) (ls : List (List V.Bs)) (w : World) (hv : Lines w v ls) (hx : ∀ l ∈ ls, ∀ x ∈ l, x.length ≤ maxLen) :
  Calls Tryz.prog 60 #[v] w (EncG ls w) := by
 by_cases h1000 : 1000 < ls.length
 ·obtain ⟨va, vc, rfl, hat⟩ := hv
  have HE := zuy (V.encE_many h1000)
  have hn1 : (1000 : Int) < (ls.length : Int) := by omega
  clear hat hx
  go_enter Tryz.func60, Tryz.ntmps60
  exact z0e
 by_cases hok : V.zw ls = 0 /\ ¬ 262144 < V.jo ls ls.length
 ·have he := V.encE_ok h1000 hok.1 hok.2
  refine (zl0 v ls w hv (V.zgx he)).mono ?_
  rintro e w' ⟨u, rfl, hb⟩
  exact ⟨fun _ => ⟨u, rfl, hb⟩, fun h => absurd he h, hb.2.1⟩
 have HBIG : Hid (V.zw ls = 0 -> V.encE ls = 3 /\ 262144 < V.jo ls ls.length) := zuy (fun h => by
   have : 262144 < V.jo ls ls.length := Nat.lt_of_not_le fun e => hok ⟨h, by omega⟩
   exact ⟨V.encE_big h1000 h this, this⟩)
 have HBAD := zuy (V.encE_bad h1000 (ls := ls))
 have HL := zuy hv
 have HXL := zuy hx
 obtain ⟨va, vc, rfl, hat⟩ := hv
 have HA := zuy hat
 have hn : ls.length ≤ 1000 := by omega
 have hn1 : ¬ (1000 : Int) < (ls.length : Int) := by omega
 clear hat hok h1000 hx
 go_enter Tryz.func60, Tryz.ntmps60
 go_wp2
 go_loop [22] (fun iv => ∃ k : Nat, k ≤ ls.length /\ iv = .int .i64 k /\ V.zw ls = V.zw (ls.drop k)) (fun iv => ls.length - (intOf iv).toNat)
 case atStart => exact ⟨0, Nat.zero_le _, rfl, rfl⟩
 case round =>
  obtain ⟨k, hk, rfl, hfb⟩ := hrel
  have HFB := zuy hfb
  clear hfb
  by_cases hlt : k < ls.length
  ·obtain ⟨b, off, u, rfl, hb, hc, hs⟩ := HA.out k hlt
   have HX := zuy (HXL.out _ (List.getElem_mem hlt))
   have HAT := zuy (V.zh7 hlt HFB.out)
   have HS := zuy hs
   have hi1 : (0 : Int) ≤ (k : Int) := by omega
   have hi2 : (k : Int) < (ls.length : Int) := by omega
   generalize ls[k] = l at *
   clear hs
   go_wp2_with fail
   refine (znv u l w HS.out HX.out).mono ?_
   rintro e w' ⟨rfl, rfl⟩
   by_cases hck : V.chk l = 0
   ·have HN := zuy (HAT.out.1 hck)
    clear HAT
    rw [hck]
    clear hck
    go_wp2
    go_round
    case rel => exact ⟨k + 1, by omega, by go_num, HN.out⟩
    case measure => simp [intOf]; omega
   ·have hf := HAT.out.2 hck
    have HE : Hid (V.encE ls = V.chk l) := zuy (by rw [HBAD.out (by rw [hf]; exact hck), hf])
    have hcb : (V.chk l == 0) = false := by rw [zu2]; exact hck
    have HCK := zuy hck
    clear hf HAT
    generalize V.chk l = ck at *
    go_wp2
    go_ret2
    exact ⟨fun h => (by rw [HE.out] at h; exact absurd h HCK.out), fun _ => by rw [HE.out]; rfl, zu1 _ _⟩
  ·obtain rfl : k = ls.length := by omega
   have hz : V.zw ls = 0 := by rw [HFB.out, List.drop_length]; rfl
   have HE := zuy (HBIG.out hz)
   have HOK : Hid (∀ l ∈ ls, 0 < l.length /\ l.length ≤ 120 /\ ∀ w ∈ l, w.length ≤ 32768) := zuy (fun l hl => V.zck.1 (V.uj.1 hz l hl))
   have hmax := V.ok_size hn HOK.out
   clear hz
   go_wp2
   go_loop [7, 34] (fun tv iv => ∃ k : Nat, k ≤ ls.length /\ iv = .int .i64 k /\ tv = .int .i64 (V.jo ls k : Nat)) (fun _ iv => ls.length - (intOf iv).toNat)
   case atStart => exact ⟨0, Nat.zero_le _, rfl, rfl⟩
   case round =>
    obtain ⟨k, hk, rfl, rfl⟩ := hrel
    have htot := V.zcd (j := k) hk (zu0 ls.length)
    by_cases hlt : k < ls.length
    ·obtain ⟨b, off, u, rfl, hb, hc, hs⟩ := HA.out k hlt
     have HX := zuy (HOK.out _ (List.getElem_mem hlt))
     exact zvf
    ·obtain rfl : k = ls.length := by omega
     have hbig : (262144 : Int) < (V.jo ls ls.length : Int) := by have := HE.out.2; omega
     obtain ⟨q, hq⟩ : ∃ q, q = V.jo ls ls.length := ⟨_, rfl⟩
     rw [← hq] at hbig ⊢
     clear hlt hk htot hq
     go_wp2
     go_ret2
     exact ⟨fun h => (by rw [HE.out.1] at h; cases h), fun _ => by rw [HE.out.1]; rfl, zu1 _ _⟩
theorem zxo {P : Prop} (h : P := by
 go_wp2
 go_ret2
 exact ⟨fun h => (by rw [HE.out] at h; cases h), fun _ => by rw [HE.out]; rfl, HBE.out⟩) : P := h
theorem zhp (v : Value) (ls : List (List V.Bs)) (w : World) (hv : Lines w v ls) (hx : ∀ l ∈ ls, ∀ x ∈ l, x.length ≤ maxLen) (hsz : V.jo ls ls.length ≤ 9000000) :
  Calls Tryz.prog 35 #[v] w (EncG ls w) := by
 obtain ⟨va, vc, rfl, hat⟩ := hv
 have HA := zuy hat
 by_cases h1000 : 1000 < ls.length
 ·have HE := zuy (V.encE_many h1000)
  have hn1 : (1000 : Int) < (ls.length : Int) := by omega
  clear hat hx
  go_enter Tryz.func35, Tryz.ntmps35
  exact z0e
 have HXL := zuy hx
 have hmax := hsz
 have hn1 : ¬ (1000 : Int) < (ls.length : Int) := by omega
 have HBAD := zuy (V.encE_bad h1000 (ls := ls))
 have HBIG := zuy (V.encE_big h1000 (ls := ls))
 have HOKE := zuy (V.encE_ok h1000 (ls := ls))
 clear hat hx hsz
 go_enter Tryz.func35, Tryz.ntmps35
 go_wp2
 go_loopw [4, 5] (fun ov iv wx => ∃ k : Nat, k ≤ ls.length /\ iv = .int .i64 k /\ Buf w.heap.size ov (V.zbk ls k) w wx /\ V.zw ls = V.zw (ls.drop k) /\ (∀ j (h : j < ls.length), j < k -> V.chk ls[j] = 0)) (fun _ iv _ => ls.length - (intOf iv).toNat)
 case atStart => exact ⟨0, Nat.zero_le _, rfl, Buf.nil (zu1 _ _) (zu0 _), rfl, fun j h hj => absurd hj (by omega)⟩
 case round =>
  obtain ⟨k, hk, rfl, hbuf, hfb, hpre⟩ := hrel
  have HB := zuy hbuf
  obtain ⟨oa, oc, rfl⟩ := hbuf.slice
  have HFB := zuy hfb
  have HPRE := zuy hpre
  have hlen0 : (V.zbk ls k).length = V.jo ls k := V.docTo_len2 k hk (fun j h hj => (V.zck.1 (hpre j h hj)).1)
  clear hbuf hfb hpre
  by_cases hlt : k < ls.length
  ·have HST := zuy (V.zcw hlt)
   have hds := V.yl hlt
   have hle0 := V.zcd (ls := ls) (j := k + 1) (by omega) (zu0 ls.length)
   have hlen1 : (V.zbk ls k).length + V.jj ls[k] ls[k].length ≤ 9000000 := by omega
   have HAT := zuy (V.zh7 hlt HFB.out)
   have HPN : Hid (V.chk ls[k] = 0 -> ∀ j (h : j < ls.length), j < k + 1 -> V.chk ls[j] = 0) := zuy (fun e j h hj => by
     rcases Nat.lt_or_ge j k with g | g
     · exact HPRE.out j h g
     · obtain rfl : j = k := by omega
       exact e)
   clear hds hle0 hlen0
   obtain ⟨b, off, u, rfl, hb0, hc0, hs⟩ := HA.out k hlt
   have hc := (HB.out.2.1.cell (p := ⟨b, off + k, none⟩) hb0).trans hc0
   have HC0 := zuy (And.intro hb0 hc0)
   have HS := zuy hs
   obtain ⟨ua, uc, rfl, _⟩ := hs
   clear hb0 hc0
   have HX := zuy (HXL.out _ (List.getElem_mem hlt))
   have hi1 : (0 : Int) ≤ (k : Int) := by omega
   have hi2 : (k : Int) < (ls.length : Int) := by omega
   have HLN : Hid (V.line ls[k] = V.jr ls[k] ls[k].length ++ [10]) := zuy rfl
   obtain ⟨A, hA⟩ : ∃ A, A = V.zbk ls k := ⟨_, rfl⟩
   rw [← hA] at HST hlen1 HB ⊢
   generalize ls[k] = l at *
   clear hA
   by_cases hx0 : l.length = 0
   ·have HC : Hid (V.chk l = 1) := zuy (by unfold V.chk; rw [if_pos hx0])
    have HE : Hid (V.encE ls = 1) := zuy (by
      have hf := HAT.out.2 (by rw [HC.out]; decide)
      rw [HBAD.out (by rw [hf, HC.out]; decide), hf, HC.out])
    have hq0 : ((l.length : Int) == 0) = true := by rw [hx0]; rfl
    have HBE := zuy HB.out.2.1
    exact zxo
   have hq0 : ((l.length : Int) == 0) = false := by rw [zu2]; omega
   by_cases hx1 : 120 < l.length
   ·have HC : Hid (V.chk l = 3) := zuy (by unfold V.chk; rw [if_neg hx0, if_pos hx1])
    have HE : Hid (V.encE ls = 3) := zuy (by
      have hf := HAT.out.2 (by rw [HC.out]; decide)
      rw [HBAD.out (by rw [hf, HC.out]; decide), hf, HC.out])
    have hq1 : (120 : Int) < (l.length : Int) := by omega
    have HBE := zuy HB.out.2.1
    exact zxo
   have hq1 : ¬ (120 : Int) < (l.length : Int) := by omega
   have hll := V.zf6 (l := l) (by omega)
   have HLONG : Hid (∀ j (h : j < l.length), 32768 < l[j].length -> V.encE ls = 3) := zuy (fun j h hj => by
     have hc3 : V.chk l = 3 := by
       unfold V.chk
       rw [if_neg hx0, if_neg hx1, if_neg]
       intro e
       rw [List.all_eq_true] at e
       have := e _ (List.getElem_mem h)
       simp at this
       omega
     have hf := HAT.out.2 (by rw [hc3]; decide)
     rw [HBAD.out (by rw [hf, hc3]; decide), hf, hc3])
   have HFINE : Hid ((∀ j (h : j < l.length), l[j].length ≤ 32768) -> V.chk l = 0) := zuy (fun h => by
     unfold V.chk
     rw [if_neg hx0, if_neg hx1, if_pos]
     rw [List.all_eq_true]
     intro x hx
     obtain ⟨j, hj, rfl⟩ := List.mem_iff_getElem.1 hx
     simpa using h j hj)
   go_wp2
   clear hc hq0 hq1
   go_loopw [4, 6] (fun ov iv wx => ∃ j : Nat, j ≤ l.length /\ iv = .int .i64 j /\ Buf w.heap.size ov (A ++ V.jr l j) w wx /\ (∀ i (h : i < l.length), i < j -> l[i].length ≤ 32768)) (fun _ iv _ => l.length - (intOf iv).toNat)
   case atStart => exact ⟨0, Nat.zero_le _, rfl, by rw [show V.jr l 0 = [] from rfl, List.append_nil]; exact HB.out, fun i h hi => absurd hi (by omega)⟩
   case round =>
    obtain ⟨j, hj, rfl, hbuf, hpw⟩ := hrel
    have HB2 := zuy hbuf
    have HPW := zuy hpw
    clear hpw
    obtain ⟨oa2, oc2, rfl⟩ := hbuf.slice
    have hc := (HB2.out.2.1.cell (p := ⟨b, off + k, none⟩) HC0.out.1).trans HC0.out.2
    clear hbuf HB
    by_cases hjl : j < l.length
    ·obtain ⟨ua2, uc2, e2, hat2⟩ := HS.out
     cases e2
     obtain ⟨b2, off2, rfl, hb2, hc0⟩ := hat2 j hjl
     have hc2 := (HB2.out.2.1.cell (p := ⟨b2, off2 + j, none⟩) hb2).trans hc0
     have HC2 := zuy (And.intro hb2 hc0)
     have hxm := HX.out _ (List.getElem_mem hjl)
     have HLG := zuy (HLONG.out j hjl)
     have HPX : Hid (l[j].length ≤ 32768 -> ∀ i (h : i < l.length), i < j + 1 -> l[i].length ≤ 32768) := zuy (fun e i h hi => by
       rcases Nat.lt_or_ge i j with g | g
       · exact HPW.out i h g
       · obtain rfl : i = j := by omega
         exact e)
     have hj1 : (0 : Int) ≤ (j : Int) := by omega
     have hj2 : (j : Int) < (l.length : Int) := by omega
     have HT2 := zuy (V.zae l j)
     have hg : l.getD j [] = l[j] := by rw [List.getD_eq_getElem?_getD, List.getElem?_eq_getElem hjl]; rfl
     rw [hg] at HT2
     have hlen2 : A.length + (V.jr l j).length ≤ 9000001 := by
      have h1 := (V.za9 (l := l) j hj).1
      have h2 := V.za7 (l := l) hj (zu0 l.length)
      omega
     obtain ⟨M, hM⟩ : ∃ M, M = A ++ V.jr l j := ⟨_, rfl⟩
     have HM := zuy hM
     have hml : M.length ≤ 9000001 := by rw [hM, List.length_append]; exact hlen2
     rw [← hM] at HB2 ⊢
     generalize l[j] = x at *
     have hxs := yh x
     unfold maxLen at hxm
     by_cases hbg : 32768 < x.length
     ·have HE := zuy (HLG.out hbg)
      have hx2 : (32768 : Int) < (x.length : Int) := by omega
      have hx3 : (32768 : Int) < ((ByteArray.mk x.toArray).size : Int) := by rw [hxs]; omega
      have HBE := zuy HB2.out.2.1
      exact zxo
     have hx : x.length ≤ 32768 := by omega
     have HPY := zuy (HPX.out hx)
     have hx2 : ¬ (32768 : Int) < (x.length : Int) := by omega
     have hx3 : ¬ (32768 : Int) < ((ByteArray.mk x.toArray).size : Int) := by rw [hxs]; omega
     clear hat2 hc0 hM hg hlen2 hb2
     by_cases hj0 : j = 0
     ·subst hj0
      rw [Nat.add_zero] at hc2
      go_wp2_with fail
      refine (zhn x wr (by omega)).mono ?_
      rintro e w3 ⟨rfl, hb3⟩
      have HB3 := zuy (HB2.out.below hb3)
      have hwl := V.vm x
      have hwl2 := V.xp x
      clear hb3 HB2
      go_wp2_with (first | (refine ziq rfl _ _ rfl w.heap.size (.slice oa2 M.length oc2) M w rfl HB3.out (V.word x) rfl (by omega) ?_; intro v9 w9 hb9) | fail)
      have HB9 := zuy hb9
      clear hb9 hwl hwl2
      go_wp2
      go_roundw
      case rel => exact ⟨0 + 1, by omega, by go_num, by
        have := HB9.out
        rw [HM.out, List.append_assoc] at this
        rw [HT2.out]
        exact this, HPY.out⟩
      case measure => simp [intOf]; omega
     ·have hjp : (0 : Int) < (j : Int) := by omega
      have hb4 : Below wr.heap.size wr (wr.alloc (.cells #[.int .u8 32] 5)) := (zu1 _ wr).alloc (zu0 _) _
      have HB4 := zuy (HB2.out.below hb4)
      have HBN := zuy (ks [32] wr)
      clear hb4
      go_wp2_with (first | (refine uh rfl _ _ rfl w.heap.size (.slice oa2 M.length oc2) M w rfl HB4.out wr.heap.size 1 [32] rfl HBN.out (by simp; omega) ?_; intro v5 w5 hb5; have hc5 := (hb5.2.1.cell (p := ⟨b, off + k, none⟩) HC0.out.1).trans HC0.out.2; have hc6 := (hb5.2.1.cell (p := ⟨b2, off2 + j, none⟩) HC2.out.1).trans HC2.out.2) | fail)
      replace HB2 := zuy hb5
      clear hb5 HB4 HBN hc2 hc
      refine (zhn x w5 (by omega)).mono ?_
      rintro e w3 ⟨rfl, hb3⟩
      have HB3 := zuy (HB2.out.below hb3)
      have hwl := V.vm x
      have hwl2 := V.xp x
      clear hb3 HB2
      go_wp2_with (first | (refine ziq rfl _ _ rfl w.heap.size v5 (M ++ [32]) w rfl HB3.out (V.word x) rfl (by simp; omega) ?_; intro v9 w9 hb9) | fail)
      have HB9 := zuy hb9
      clear hb9 hwl hwl2
      go_wp2
      go_roundw
      case rel => exact ⟨j + 1, by omega, by go_num, by
        have := HB9.out
        rw [HM.out, List.append_assoc, List.append_assoc] at this
        rw [HT2.out, if_neg hj0]
        exact this, HPY.out⟩
      case measure => simp [intOf]; omega
    ·obtain rfl : j = l.length := by omega
     have HFN : Hid (V.zw ls = V.zw (ls.drop (k + 1)) /\ (∀ j (h : j < ls.length), j < k + 1 -> V.chk ls[j] = 0)) := zuy (by
       have := HFINE.out (fun i h => HPW.out i h h)
       exact ⟨HAT.out.1 this, HPN.out this⟩)
     have hlen3 : (A ++ V.jr l l.length).length ≤ 9000001 := by rw [List.length_append]; have h1 := (V.za9 (l := l) l.length (zu0 _)).1; omega
     have hA10 : A ++ V.line l = (A ++ V.jr l l.length) ++ [10] := by rw [HLN.out, List.append_assoc]
     rw [hA10] at HST
     obtain ⟨M, hM⟩ : ∃ M, M = A ++ V.jr l l.length := ⟨_, rfl⟩
     rw [← hM] at HB2 HST hlen3 ⊢
     have hb4 : Below wr.heap.size wr (wr.alloc (.cells #[.int .u8 10] 5)) := (zu1 _ wr).alloc (zu0 _) _
     have HB4 := zuy (HB2.out.below hb4)
     have HBN := zuy (ks [10] wr)
     clear hb4 hA10 hM HB2
     go_wp2_with (first | (refine uh rfl _ _ rfl w.heap.size (.slice oa2 M.length oc2) M w rfl HB4.out wr.heap.size 1 [10] rfl HBN.out (by simp; omega) ?_; intro v5 w5 hb5) | fail)
     have HB5 := zuy hb5
     clear hb5 HB4 HBN
     go_wp2
     go_roundw
     case rel => exact ⟨k + 1, by omega, by go_num, by rw [HST.out]; exact HB5.out, HFN.out.1, HFN.out.2⟩
     case measure => simp [intOf]; omega
  ·obtain rfl : k = ls.length := by omega
   have hfz : V.zw ls = 0 := by rw [HFB.out, List.drop_length]; rfl
   rw [V.zeq] at HB hlen0 ⊢
   by_cases hbg : 262144 < (V.doc ls).length
   ·have HE := zuy (HBIG.out hfz (by omega))
    have hbig : (262144 : Int) < ((V.doc ls).length : Int) := by omega
    have HBE := zuy HB.out.2.1
    clear hfz
    exact zxo
   ·have HE := zuy (HOKE.out hfz (by omega))
    have hbig : ¬ (262144 : Int) < ((V.doc ls).length : Int) := by omega
    clear hfz hlen0
    go_wp2
    go_ret2
    exact ⟨fun _ => ⟨.slice oa (V.doc ls).length oc, rfl, HB.out⟩, fun h => absurd HE.out h, HB.out.2.1⟩
end Go.Proofs.YtnhfaincdabdkaaGreatDoor
