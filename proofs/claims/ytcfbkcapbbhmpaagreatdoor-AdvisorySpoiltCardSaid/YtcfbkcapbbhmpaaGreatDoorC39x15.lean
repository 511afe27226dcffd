import Derived.Test.YtcfbkcapbbhmpaaGreatDoorC39x12
import Derived.Test.YtcfbkcapbbhmpaaGreatDoorC39x09
import Derived.Test.YtcfbkcapbbhmpaaGreatDoorC39x10
import Derived.Test.YtcfbkcapbbhmpaaGreatDoorC39x11
import Derived.Lib.AppendStr
import Derived.Deep.RegionHeld3
import Derived.Lib.BufferRead
set_option linter.all false
set_option maxRecDepth 100000
set_option maxHeartbeats 3200000
namespace Go.Proofs.YtcfbkcapbbhmpaaGreatDoor
open Go.RowKit
theorem V.docTo_len2 {ls : List (List V.Bs)} : ∀ k, k ≤ ls.length -> (∀ j (h : j < ls.length), j < k -> 0 < ls[j].length) -> (V.zb4 ls k).length = V.jp ls k
 | 0, _, _ => rfl
 | k + 1, h, hw => by
  rw [V.zdj (by omega), V.yt (by omega), List.length_append, V.docTo_len2 k (by omega) (fun j h1 h2 => hw j h1 (by omega)), V.zgu (hw k (by omega) (by omega))]
theorem V.docSz_max {ls : List (List V.Bs)} {M : Nat} (h : ∀ x ∈ ls, V.jl x x.length ≤ M) : ∀ k, k ≤ ls.length -> V.jp ls k ≤ k * M
 | 0, _ => by simp [V.jp]
 | k + 1, hk => by
  rw [V.yt (by omega)]
  have h1 := V.docSz_max h k (by omega)
  have h2 := h _ (List.getElem_mem (show k < ls.length by omega))
  rw [Nat.succ_mul]
  omega
theorem V.lineSz_max {x : List V.Bs} {M : Nat} (h : ∀ u ∈ x, V.ww u + 1 ≤ M) : V.jl x x.length ≤ x.length * M := by
 unfold V.jl
 rw [List.take_length]
 induction x with
 | nil => simp
 | cons u x ih =>
  rw [List.map_cons, List.sum_cons, List.length_cons, Nat.succ_mul]
  have h1 := h u (List.mem_cons_self ..)
  have h2 := ih fun v hv => h v (List.mem_cons_of_mem _ hv)
  omega
theorem V.ok_size {ls : List (List V.Bs)} (h : ls.length ≤ 1000) (hl : ∀ l ∈ ls, 0 < l.length /\ l.length ≤ 120 /\ ∀ w ∈ l, w.length ≤ 32768) : V.jp ls ls.length ≤ 12000000000 := by
 have := V.docSz_max (ls := ls) (M := 11797000) (fun x hx => by
   have hx := hl x hx
   have a := V.lineSz_max (x := x) (M := 98306) (fun u hu => by have := V.xy u; have := hx.2.2 u hu; omega)
   have b : x.length * 98306 ≤ 120 * 98306 := Nat.mul_le_mul_right _ hx.2.1
   omega) _ (zwg _)
 have c : ls.length * 11797000 ≤ 1000 * 11797000 := Nat.mul_le_mul_right _ h
 omega
theorem z03 {P : Prop} (h : P := by
 go_enter Tryz.func51, Tryz.ntmps51
 go_wp2
 go_ret
 exact ⟨by rw [HC.out]; rfl, rfl⟩) : P := h
theorem zov (v : Value) (l : List V.Bs) (w : World) (hv : Strs w v l) (hx : ∀ x ∈ l, x.length ≤ maxLen) :
  Calls Tryz.prog 51 #[v] w fun e w' => e = .returned (.int .i64 (V.chk l)) /\ w' = w := by
 obtain ⟨va, vc, rfl, hat⟩ := hv
 have HA := zwe hat
 clear hat
 by_cases h0 : l.length = 0
 ·have HC : Hid (V.chk l = 1) := zwe (by unfold V.chk; rw [if_pos h0])
  exact z03
 ·have hn0 : ((l.length : Int) == 0) = false := by rw [zwi]; omega
  by_cases h1 : 120 < l.length
  ·have HC : Hid (V.chk l = 3) := zwe (by unfold V.chk; rw [if_neg h0, if_pos h1])
   have hn1 : (120 : Int) < (l.length : Int) := by omega
   exact z03
  ·have hn1 : ¬ (120 : Int) < (l.length : Int) := by omega
   have HC1 : Hid (∀ j (h : j < l.length), 32768 < l[j].length -> V.chk l = 3) := zwe (fun j h hj => by
     unfold V.chk
     rw [if_neg h0, if_neg h1, if_neg]
     intro e
     rw [List.all_eq_true] at e
     have := e _ (List.getElem_mem h)
     simp at this
     omega)
   have HC0 : Hid ((∀ j (h : j < l.length), l[j].length ≤ 32768) -> V.chk l = 0) := zwe (fun h => by
     unfold V.chk
     rw [if_neg h0, if_neg h1, if_pos]
     rw [List.all_eq_true]
     intro x hx
     obtain ⟨j, hj, rfl⟩ := List.mem_iff_getElem.1 hx
     simpa using h j hj)
   have HX := zwe hx
   clear h0 h1 hx
   go_enter Tryz.func51, Tryz.ntmps51
   go_wp2
   go_loop [15] (fun iv => ∃ k : Nat, k ≤ l.length /\ iv = .int .i64 k /\ ∀ j (h : j < l.length), j < k -> l[j].length ≤ 32768) (fun iv => l.length - (intOf iv).toNat)
   case atStart => exact ⟨0, Nat.zero_le _, rfl, fun j h hj => absurd hj (by omega)⟩
   case round =>
    obtain ⟨k, hk, rfl, hpre⟩ := hrel
    have HPRE := zwe hpre
    clear hpre
    by_cases hlt : k < l.length
    ·obtain ⟨b, off, rfl, hb, hc⟩ := HA.out k hlt
     have hxm := HX.out _ (List.getElem_mem hlt)
     have HC3 := zwe (HC1.out k hlt)
     have HNX : Hid (l[k].length ≤ 32768 -> ∀ j (h : j < l.length), j < k + 1 -> l[j].length ≤ 32768) := zwe (fun e j h hj => by
       rcases Nat.lt_or_ge j k with g | g
       · exact HPRE.out j h g
       · obtain rfl : j = k := by omega
         exact e)
     have hi1 : (0 : Int) ≤ (k : Int) := by omega
     have hi2 : (k : Int) < (l.length : Int) := by omega
     generalize l[k] = x at *
     unfold maxLen at hxm
     have hxs := yo x
     by_cases hbg : 32768 < x.length
     ·have hq := HC3.out hbg
      have hx2 : (32768 : Int) < (x.length : Int) := by omega
      have hx3 : (32768 : Int) < ((ByteArray.mk x.toArray).size : Int) := by rw [hxs]; omega
      have HQ := zwe hq
      clear hq
      go_wp2
      go_ret
      exact ⟨by rw [HQ.out]; rfl, rfl⟩
     ·have hx2 : ¬ (32768 : Int) < (x.length : Int) := by omega
      have hx3 : ¬ (32768 : Int) < ((ByteArray.mk x.toArray).size : Int) := by rw [hxs]; omega
      have HN2 := zwe (HNX.out (by omega))
      go_wp2
      go_round
      case rel => exact ⟨k + 1, by omega, by go_num, HN2.out⟩
      case measure => simp [intOf]; omega
    ·obtain rfl : k = l.length := by omega
     have HQ := zwe (HC0.out (fun j h => HPRE.out j h h))
     go_wp2
     go_ret
     exact ⟨by rw [HQ.out]; rfl, rfl⟩
def EncG (ls : List (List V.Bs)) (w : World) (e : Ending) (w' : World) : Prop :=
 (V.encE ls = 0 -> ∃ u, e = .returned (.tuple #[u, .int .i64 0]) /\ Buf w.heap.size u (V.doc ls) w w') /\ (¬ V.encE ls = 0 -> e = .returned (.tuple #[.slice none 0 0, .int .i64 (V.encE ls)])) /\ Below w.heap.size w w'
theorem V.encE_many {ls : List (List V.Bs)} (h : 1000 < ls.length) : V.encE ls = 3 := by unfold V.encE; rw [if_pos h]
theorem V.encE_bad {ls : List (List V.Bs)} (h : ¬ 1000 < ls.length) (hb : ¬ V.zx ls = 0) : V.encE ls = V.zx ls := by unfold V.encE; rw [if_neg h, if_neg hb]
theorem V.encE_big {ls : List (List V.Bs)} (h : ¬ 1000 < ls.length) (hb : V.zx ls = 0) (hs : 262144 < V.jp ls ls.length) : V.encE ls = 3 := by unfold V.encE; rw [if_neg h, if_pos hb, if_pos hs]
theorem V.encE_ok {ls : List (List V.Bs)} (h : ¬ 1000 < ls.length) (hb : V.zx ls = 0) (hs : ¬ 262144 < V.jp ls ls.length) : V.encE ls = 0 := by unfold V.encE; rw [if_neg h, if_pos hb, if_neg hs]
theorem z12 {P : Prop} (h : P := by
 go_wp2
 go_ret2
 exact ⟨fun h => (by rw [HE.out] at h; cases h), fun _ => by rw [HE.out]; rfl, zwh _ _⟩) : P := h
theorem zt1 (v : Value) (ls : List (List V.Bs)) (w : World) (hv : Lines w v ls) (hx : ∀ l ∈ ls, ∀ x ∈ l, x.length ≤ maxLen) :
  Calls Tryz.prog 35 #[v] w (EncG ls w) := by
 by_cases h1000 : 1000 < ls.length
 ·obtain ⟨va, vc, rfl, hat⟩ := hv
  have HE := zwe (V.encE_many h1000)
  have hn1 : (1000 : Int) < (ls.length : Int) := by omega
  clear hat hx
  go_enter Tryz.func35, Tryz.ntmps35
  exact z12
 by_cases hok : V.zx ls = 0 /\ ¬ 262144 < V.jp ls ls.length
 ·have he := V.encE_ok h1000 hok.1 hok.2
  refine (zmz v ls w hv (V.zho he)).mono ?_
  rintro e w' ⟨u, rfl, hb⟩
  exact ⟨fun _ => ⟨u, rfl, hb⟩, fun h => absurd he h, hb.2.1⟩
 have HBIG : Hid (V.zx ls = 0 -> V.encE ls = 3 /\ 262144 < V.jp ls ls.length) := zwe (fun h => by
   have : 262144 < V.jp ls ls.length := Nat.lt_of_not_le fun e => hok ⟨h, by omega⟩
   exact ⟨V.encE_big h1000 h this, this⟩)
 have HBAD := zwe (V.encE_bad h1000 (ls := ls))
 have HL := zwe hv
 have HXL := zwe hx
 obtain ⟨va, vc, rfl, hat⟩ := hv
 have HA := zwe hat
 have hn : ls.length ≤ 1000 := by omega
 have hn1 : ¬ (1000 : Int) < (ls.length : Int) := by omega
 clear hat hok h1000 hx
 go_enter Tryz.func35, Tryz.ntmps35
 go_wp2
 go_loop [22] (fun iv => ∃ k : Nat, k ≤ ls.length /\ iv = .int .i64 k /\ V.zx ls = V.zx (ls.drop k)) (fun iv => ls.length - (intOf iv).toNat)
 case atStart => exact ⟨0, Nat.zero_le _, rfl, rfl⟩
 case round =>
  obtain ⟨k, hk, rfl, hfb⟩ := hrel
  have HFB := zwe hfb
  clear hfb
  by_cases hlt : k < ls.length
  ·obtain ⟨b, off, u, rfl, hb, hc, hs⟩ := HA.out k hlt
   have HX := zwe (HXL.out _ (List.getElem_mem hlt))
   have HAT := zwe (V.zi1 hlt HFB.out)
   have HS := zwe hs
   have hi1 : (0 : Int) ≤ (k : Int) := by omega
   have hi2 : (k : Int) < (ls.length : Int) := by omega
   generalize ls[k] = l at *
   clear hs
   go_wp2_with fail
   refine (zov u l w HS.out HX.out).mono ?_
   rintro e w' ⟨rfl, rfl⟩
   by_cases hck : V.chk l = 0
   ·have HN := zwe (HAT.out.1 hck)
    clear HAT
    rw [hck]
    clear hck
    go_wp2
    go_round
    case rel => exact ⟨k + 1, by omega, by go_num, HN.out⟩
    case measure => simp [intOf]; omega
   ·have hf := HAT.out.2 hck
    have HE : Hid (V.encE ls = V.chk l) := zwe (by rw [HBAD.out (by rw [hf]; exact hck), hf])
    have hcb : (V.chk l == 0) = false := by rw [zwi]; exact hck
    have HCK := zwe hck
    clear hf HAT
    generalize V.chk l = ck at *
    go_wp2
    go_ret2
    exact ⟨fun h => (by rw [HE.out] at h; exact absurd h HCK.out), fun _ => by rw [HE.out]; rfl, zwh _ _⟩
  ·obtain rfl : k = ls.length := by omega
   have hz : V.zx ls = 0 := by rw [HFB.out, List.drop_length]; rfl
   have HE := zwe (HBIG.out hz)
   have HOK : Hid (∀ l ∈ ls, 0 < l.length /\ l.length ≤ 120 /\ ∀ w ∈ l, w.length ≤ 32768) := zwe (fun l hl => V.zc5.1 (V.ut.1 hz l hl))
   have hmax := V.ok_size hn HOK.out
   clear hz
   go_wp2
   go_loop [7, 34] (fun tv iv => ∃ k : Nat, k ≤ ls.length /\ iv = .int .i64 k /\ tv = .int .i64 (V.jp ls k : Nat)) (fun _ iv => ls.length - (intOf iv).toNat)
   case atStart => exact ⟨0, Nat.zero_le _, rfl, rfl⟩
   case round =>
    obtain ⟨k, hk, rfl, rfl⟩ := hrel
    have htot := V.zcy (j := k) hk (zwg ls.length)
    by_cases hlt : k < ls.length
    ·obtain ⟨b, off, u, rfl, hb, hc, hs⟩ := HA.out k hlt
     have HX := zwe (HOK.out _ (List.getElem_mem hlt))
     exact zwz
    ·obtain rfl : k = ls.length := by omega
     have hbig : (262144 : Int) < (V.jp ls ls.length : Int) := by have := HE.out.2; omega
     obtain ⟨q, hq⟩ : ∃ q, q = V.jp ls ls.length := ⟨_, rfl⟩
     rw [← hq] at hbig ⊢
     clear hlt hk htot hq
     go_wp2
     go_ret2
     exact ⟨fun h => (by rw [HE.out.1] at h; cases h), fun _ => by rw [HE.out.1]; rfl, zwh _ _⟩
def BufZ (N : Nat) (v : Value) (l : V.Bs) (W0 w : World) : Prop := w.ownsRow N 5 1 v l.length (bvals l) /\ Below N W0 w /\ N ≤ w.heap.size
theorem BufZ.buf {N : Nat} {v : Value} {l : V.Bs} {W0 w : World} (h : BufZ N v l W0 w) : Buf N v l W0 w := ⟨World.ownsRowF_of h.1, h.2⟩
theorem BufZ.nil {N : Nat} {W0 w : World} (h : Below N W0 w) (hN : N ≤ w.heap.size) : BufZ N (.slice none 0 0) [] W0 w := ⟨⟨by simp [bvals], .inl ⟨rfl, rfl⟩⟩, h, hN⟩
theorem BufZ.below {N : Nat} {v : Value} {l : V.Bs} {W0 w w' : World} (h : BufZ N v l W0 w) (hb : Below w.heap.size w w') : BufZ N v l W0 w' := by
 refine ⟨⟨h.1.1, ?_⟩, h.2.1.trans (hb.mono h.2.2), Nat.le_trans h.2.2 hb.size⟩
 rcases h.1.2 with e | ⟨g, cap, cur, e, h1, h2, h3⟩
 ·exact .inl e
 ·exact .inr ⟨g, cap, cur, e, h1, (hb.block g (Array.getElem?_eq_some_iff.1 h2).1).trans h2, h3⟩
theorem BufZ.slice {N : Nat} {v : Value} {l : V.Bs} {W0 w : World} (h : BufZ N v l W0 w) : ∃ a cap, v = .slice a l.length cap := h.buf.slice
theorem BufZ.grown {N : Nat} {v v' : Value} {l l' : V.Bs} {W0 w w' : World} (h : BufZ N v l W0 w) (ho : w'.ownsRow N 5 1 v' l'.length (bvals l')) (hg : w.grownBy w' v.ownBlock) : BufZ N v' l' W0 w' :=
 ⟨ho, h.2.1.grown hg h.2.2 (fun k hk => (h.buf.1.lt k hk).1), Nat.le_trans h.2.2 hg.size⟩
theorem znn {ops : Array Oper} {rest : List Oper} {o : Oper} {a : Act} {w : World} {Q : Exit -> Act -> World -> Prop} (hgd : o.guard = none) (s x : Operand)
  (ho : o.op = .call { callee := .builtin .append, args := #[s, x], argTypes := #[23, 23] })
  (N : Nat) (v : Value) (l : V.Bs) (W0 : World) (hs : a.eval s = v) (hb : BufZ N v l W0 w) (b cap : Nat) (m : V.Bs) (hx : a.eval x = .slice (some ⟨b, 0, none⟩) m.length cap) (hc : ∀ j u, (bvals m)[j]? = some u -> w.cell? ⟨b, j, none⟩ = some u) (hl : l.length + m.length ≤ 10000000)
  (h : ∀ v' w', BufZ N v' (l ++ m) W0 w' -> wpList Tryz.prog ops Q rest (a.put o.dst v') w') : wpList Tryz.prog ops Q (o :: rest) a w := by
 obtain ⟨i, hi, hz, h1, h2⟩ := zag
 refine wpList_append_own w hgd s x 23 ho N 5 i (.int .u8 0) 1 1 Tryz.underlying23 hi hz h1 h2 rfl (by decide) v l.length (bvals l) hs hb.1 ⟨b, 0, none⟩ m.length cap (bvals m) hx (by rw [zhj]; omega) ?_ ?_ (by unfold maxLen; omega) (by omega) hb.2.2 ?_
 ·intro j u hj
  have := hc j u hj
  rw [Addr.add_mid, Nat.zero_add]
  exact this
 ·intro u hu
  unfold bvals at hu
  obtain ⟨c, _, rfl⟩ := List.mem_map.1 hu
  rfl
 ·intro v' w' ho' hg _
  rw [zf2] at ho'
  exact h v' w' (hb.grown (by rw [List.length_append]; exact ho') hg)
theorem zqx {ops : Array Oper} {rest : List Oper} {o : Oper} {a : Act} {w : World} {Q : Exit -> Act -> World -> Prop} (hgd : o.guard = none) (s x : Operand)
  (ho : o.op = .call { callee := .builtin .append, args := #[s, x], argTypes := #[23, 9] })
  (N : Nat) (v : Value) (l : V.Bs) (W0 : World) (hs : a.eval s = v) (hb : BufZ N v l W0 w) (m : V.Bs) (hx : a.eval x = .string ⟨m.toArray⟩) (hl : l.length + m.length ≤ 10000000)
  (h : ∀ v' w', BufZ N v' (l ++ m) W0 w' -> wpList Tryz.prog ops Q rest (a.put o.dst v') w') : wpList Tryz.prog ops Q (o :: rest) a w := by
 obtain ⟨i, hi, hz, h1, h2⟩ := zag
 have hsz : (ByteArray.mk m.toArray).size = m.length := by simp [ByteArray.size]
 refine Lib.wpList_append_own_string w hgd s x 23 9 ho N 5 i Tryz.underlying23 Tryz.underlying9 hi hz h1 h2 v l.length (bvals l) hs hb.1 ⟨m.toArray⟩ hx (by rw [hsz]; unfold maxLen; omega) (by rw [hsz]; omega) hb.2.2 ?_
 intro v' w' ho' hg _
 rw [zoi, hsz] at ho'
 exact h v' w' (hb.grown (by rw [List.length_append]; exact ho') hg)
def EncZ (ls : List (List V.Bs)) (w : World) (e : Ending) (w' : World) : Prop :=
 (V.encE ls = 0 -> ∃ u, e = .returned (.tuple #[u, .int .i64 0]) /\ BufZ w.heap.size u (V.doc ls) w w') /\ (¬ V.encE ls = 0 -> e = .returned (.tuple #[.slice none 0 0, .int .i64 (V.encE ls)])) /\ Below w.heap.size w w'
open Go.RowKit
theorem zzd {P : Prop} (h : P := by
 go_wp2
 go_ret2
 exact ⟨fun h => (by rw [HE.out] at h; cases h), fun _ => by rw [HE.out]; rfl, HBE.out⟩) : P := h
theorem zii (v : Value) (ls : List (List V.Bs)) (w : World) (hv : Lines w v ls) (hx : ∀ l ∈ ls, ∀ x ∈ l, x.length ≤ maxLen) (hsz : V.jp ls ls.length ≤ 9000000) :
  Calls Tryz.prog 17 #[v] w (EncZ ls w) := by
 obtain ⟨va, vc, rfl, hat⟩ := hv
 have HA := zwe hat
 by_cases h1000 : 1000 < ls.length
 ·have HE := zwe (V.encE_many h1000)
  have hn1 : (1000 : Int) < (ls.length : Int) := by omega
  clear hat hx
  go_enter Tryz.func17, Tryz.ntmps17
  exact z12
 have HXL := zwe hx
 have hmax := hsz
 have hn1 : ¬ (1000 : Int) < (ls.length : Int) := by omega
 have HBAD := zwe (V.encE_bad h1000 (ls := ls))
 have HBIG := zwe (V.encE_big h1000 (ls := ls))
 have HOKE := zwe (V.encE_ok h1000 (ls := ls))
 clear hat hx hsz
 go_enter Tryz.func17, Tryz.ntmps17
 go_wp2
 go_loopw [4, 5] (fun ov iv wx => ∃ k : Nat, k ≤ ls.length /\ iv = .int .i64 k /\ BufZ w.heap.size ov (V.zb4 ls k) w wx /\ V.zx ls = V.zx (ls.drop k) /\ (∀ j (h : j < ls.length), j < k -> V.chk ls[j] = 0)) (fun _ iv _ => ls.length - (intOf iv).toNat)
 case atStart => exact ⟨0, Nat.zero_le _, rfl, BufZ.nil (zwh _ _) (zwg _), rfl, fun j h hj => absurd hj (by omega)⟩
 case round =>
  obtain ⟨k, hk, rfl, hbuf, hfb, hpre⟩ := hrel
  have HB := zwe hbuf
  obtain ⟨oa, oc, rfl⟩ := hbuf.slice
  have HFB := zwe hfb
  have HPRE := zwe hpre
  have hlen0 : (V.zb4 ls k).length = V.jp ls k := V.docTo_len2 k hk (fun j h hj => (V.zc5.1 (hpre j h hj)).1)
  clear hbuf hfb hpre
  by_cases hlt : k < ls.length
  ·have HST := zwe (V.zdj hlt)
   have hds := V.yt hlt
   have hle0 := V.zcy (ls := ls) (j := k + 1) (by omega) (zwg ls.length)
   have hlen1 : (V.zb4 ls k).length + V.jl ls[k] ls[k].length ≤ 9000000 := by omega
   have HAT := zwe (V.zi1 hlt HFB.out)
   have HPN : Hid (V.chk ls[k] = 0 -> ∀ j (h : j < ls.length), j < k + 1 -> V.chk ls[j] = 0) := zwe (fun e j h hj => by
     rcases Nat.lt_or_ge j k with g | g
     · exact HPRE.out j h g
     · obtain rfl : j = k := by omega
       exact e)
   clear hds hle0 hlen0
   obtain ⟨b, off, u, rfl, hb0, hc0, hs⟩ := HA.out k hlt
   have hc := (HB.out.2.1.cell (p := ⟨b, off + k, none⟩) hb0).trans hc0
   have HC0 := zwe (And.intro hb0 hc0)
   have HS := zwe hs
   obtain ⟨ua, uc, rfl, _⟩ := hs
   clear hb0 hc0
   have HX := zwe (HXL.out _ (List.getElem_mem hlt))
   have hi1 : (0 : Int) ≤ (k : Int) := by omega
   have hi2 : (k : Int) < (ls.length : Int) := by omega
   have HLN : Hid (V.line ls[k] = V.jt ls[k] ls[k].length ++ [10]) := zwe rfl
   obtain ⟨A, hA⟩ : ∃ A, A = V.zb4 ls k := ⟨_, rfl⟩
   rw [← hA] at HST hlen1 HB ⊢
   generalize ls[k] = l at *
   clear hA
   by_cases hx0 : l.length = 0
   ·have HC : Hid (V.chk l = 1) := zwe (by unfold V.chk; rw [if_pos hx0])
    have HE : Hid (V.encE ls = 1) := zwe (by
      have hf := HAT.out.2 (by rw [HC.out]; decide)
      rw [HBAD.out (by rw [hf, HC.out]; decide), hf, HC.out])
    have hq0 : ((l.length : Int) == 0) = true := by rw [hx0]; rfl
    have HBE := zwe HB.out.2.1
    exact zzd
   have hq0 : ((l.length : Int) == 0) = false := by rw [zwi]; omega
   by_cases hx1 : 120 < l.length
   ·have HC : Hid (V.chk l = 3) := zwe (by unfold V.chk; rw [if_neg hx0, if_pos hx1])
    have HE : Hid (V.encE ls = 3) := zwe (by
      have hf := HAT.out.2 (by rw [HC.out]; decide)
      rw [HBAD.out (by rw [hf, HC.out]; decide), hf, HC.out])
    have hq1 : (120 : Int) < (l.length : Int) := by omega
    have HBE := zwe HB.out.2.1
    exact zzd
   have hq1 : ¬ (120 : Int) < (l.length : Int) := by omega
   have hll := V.zgu (l := l) (by omega)
   have HLONG : Hid (∀ j (h : j < l.length), 32768 < l[j].length -> V.encE ls = 3) := zwe (fun j h hj => by
     have hc3 : V.chk l = 3 := by
       unfold V.chk
       rw [if_neg hx0, if_neg hx1, if_neg]
       intro e
       rw [List.all_eq_true] at e
       have := e _ (List.getElem_mem h)
       simp at this
       omega
     have hf := HAT.out.2 (by rw [hc3]; decide)
     rw [HBAD.out (by rw [hf, hc3]; decide), hf, hc3])
   have HFINE : Hid ((∀ j (h : j < l.length), l[j].length ≤ 32768) -> V.chk l = 0) := zwe (fun h => by
     unfold V.chk
     rw [if_neg hx0, if_neg hx1, if_pos]
     rw [List.all_eq_true]
     intro x hx
     obtain ⟨j, hj, rfl⟩ := List.mem_iff_getElem.1 hx
     simpa using h j hj)
   go_wp2
   clear hc hq0 hq1
   go_loopw [4, 6] (fun ov iv wx => ∃ j : Nat, j ≤ l.length /\ iv = .int .i64 j /\ BufZ w.heap.size ov (A ++ V.jt l j) w wx /\ (∀ i (h : i < l.length), i < j -> l[i].length ≤ 32768)) (fun _ iv _ => l.length - (intOf iv).toNat)
   case atStart => exact ⟨0, Nat.zero_le _, rfl, by rw [show V.jt l 0 = [] from rfl, List.append_nil]; exact HB.out, fun i h hi => absurd hi (by omega)⟩
   case round =>
    obtain ⟨j, hj, rfl, hbuf, hpw⟩ := hrel
    have HB2 := zwe hbuf
    have HPW := zwe hpw
    clear hpw
    obtain ⟨oa2, oc2, rfl⟩ := hbuf.slice
    have hc := (HB2.out.2.1.cell (p := ⟨b, off + k, none⟩) HC0.out.1).trans HC0.out.2
    clear hbuf HB
    by_cases hjl : j < l.length
    ·obtain ⟨ua2, uc2, e2, hat2⟩ := HS.out
     cases e2
     obtain ⟨b2, off2, rfl, hb2, hc0⟩ := hat2 j hjl
     have hc2 := (HB2.out.2.1.cell (p := ⟨b2, off2 + j, none⟩) hb2).trans hc0
     have HC2 := zwe (And.intro hb2 hc0)
     have hxm := HX.out _ (List.getElem_mem hjl)
     have HLG := zwe (HLONG.out j hjl)
     have HPX : Hid (l[j].length ≤ 32768 -> ∀ i (h : i < l.length), i < j + 1 -> l[i].length ≤ 32768) := zwe (fun e i h hi => by
       rcases Nat.lt_or_ge i j with g | g
       · exact HPW.out i h g
       · obtain rfl : i = j := by omega
         exact e)
     have hj1 : (0 : Int) ≤ (j : Int) := by omega
     have hj2 : (j : Int) < (l.length : Int) := by omega
     have HT2 := zwe (V.zav l j)
     have hg : l.getD j [] = l[j] := by rw [List.getD_eq_getElem?_getD, List.getElem?_eq_getElem hjl]; rfl
     rw [hg] at HT2
     have hlen2 : A.length + (V.jt l j).length ≤ 9000001 := by
      have h1 := (V.zbt (l := l) j hj).1
      have h2 := V.zbq (l := l) hj (zwg l.length)
      omega
     obtain ⟨M, hM⟩ : ∃ M, M = A ++ V.jt l j := ⟨_, rfl⟩
     have HM := zwe hM
     have hml : M.length ≤ 9000001 := by rw [hM, List.length_append]; exact hlen2
     rw [← hM] at HB2 ⊢
     generalize l[j] = x at *
     have hxs := yo x
     unfold maxLen at hxm
     by_cases hbg : 32768 < x.length
     ·have HE := zwe (HLG.out hbg)
      have hx2 : (32768 : Int) < (x.length : Int) := by omega
      have hx3 : (32768 : Int) < ((ByteArray.mk x.toArray).size : Int) := by rw [hxs]; omega
      have HBE := zwe HB2.out.2.1
      exact zzd
     have hx : x.length ≤ 32768 := by omega
     have HPY := zwe (HPX.out hx)
     have hx2 : ¬ (32768 : Int) < (x.length : Int) := by omega
     have hx3 : ¬ (32768 : Int) < ((ByteArray.mk x.toArray).size : Int) := by rw [hxs]; omega
     clear hat2 hc0 hM hg hlen2 hb2
     by_cases hj0 : j = 0
     ·subst hj0
      rw [Nat.add_zero] at hc2
      go_wp2_with fail
      refine (zid x wr (by omega)).mono ?_
      rintro e w3 ⟨rfl, hb3⟩
      have HB3 := zwe (HB2.out.below hb3)
      have hwl := V.vx x
      have hwl2 := V.xy x
      clear hb3 HB2
      go_wp2_with (first | (refine zqx rfl _ _ rfl w.heap.size (.slice oa2 M.length oc2) M w rfl HB3.out (V.word x) rfl (by omega) ?_; intro v9 w9 hb9) | fail)
      have HB9 := zwe hb9
      clear hb9 hwl hwl2
      go_wp2
      go_roundw
      case rel => exact ⟨0 + 1, by omega, by go_num, by
        have := HB9.out
        rw [HM.out, List.append_assoc] at this
        rw [HT2.out]
        exact this, HPY.out⟩
      case measure => simp [intOf]; omega
     ·have hjp : (0 : Int) < (j : Int) := by omega
      have hb4 : Below wr.heap.size wr (wr.alloc (.cells #[.int .u8 32] 5)) := (zwh _ wr).alloc (zwg _) _
      have HB4 := zwe (HB2.out.below hb4)
      have HBN := zwe (kx [32] wr)
      clear hb4
      go_wp2_with (first | (refine znn rfl _ _ rfl w.heap.size (.slice oa2 M.length oc2) M w rfl HB4.out wr.heap.size 1 [32] rfl HBN.out (by simp; omega) ?_; intro v5 w5 hb5; have hc5 := (hb5.2.1.cell (p := ⟨b, off + k, none⟩) HC0.out.1).trans HC0.out.2; have hc6 := (hb5.2.1.cell (p := ⟨b2, off2 + j, none⟩) HC2.out.1).trans HC2.out.2) | fail)
      replace HB2 := zwe hb5
      clear hb5 HB4 HBN hc2 hc
      refine (zid x w5 (by omega)).mono ?_
      rintro e w3 ⟨rfl, hb3⟩
      have HB3 := zwe (HB2.out.below hb3)
      have hwl := V.vx x
      have hwl2 := V.xy x
      clear hb3 HB2
      go_wp2_with (first | (refine zqx rfl _ _ rfl w.heap.size v5 (M ++ [32]) w rfl HB3.out (V.word x) rfl (by simp; omega) ?_; intro v9 w9 hb9) | fail)
      have HB9 := zwe hb9
      clear hb9 hwl hwl2
      go_wp2
      go_roundw
      case rel => exact ⟨j + 1, by omega, by go_num, by
        have := HB9.out
        rw [HM.out, List.append_assoc, List.append_assoc] at this
        rw [HT2.out, if_neg hj0]
        exact this, HPY.out⟩
      case measure => simp [intOf]; omega
    ·obtain rfl : j = l.length := by omega
     have HFN : Hid (V.zx ls = V.zx (ls.drop (k + 1)) /\ (∀ j (h : j < ls.length), j < k + 1 -> V.chk ls[j] = 0)) := zwe (by
       have := HFINE.out (fun i h => HPW.out i h h)
       exact ⟨HAT.out.1 this, HPN.out this⟩)
     have hlen3 : (A ++ V.jt l l.length).length ≤ 9000001 := by rw [List.length_append]; have h1 := (V.zbt (l := l) l.length (zwg _)).1; omega
     have hA10 : A ++ V.line l = (A ++ V.jt l l.length) ++ [10] := by rw [HLN.out, List.append_assoc]
     rw [hA10] at HST
     obtain ⟨M, hM⟩ : ∃ M, M = A ++ V.jt l l.length := ⟨_, rfl⟩
     rw [← hM] at HB2 HST hlen3 ⊢
     have hb4 : Below wr.heap.size wr (wr.alloc (.cells #[.int .u8 10] 5)) := (zwh _ wr).alloc (zwg _) _
     have HB4 := zwe (HB2.out.below hb4)
     have HBN := zwe (kx [10] wr)
     clear hb4 hA10 hM HB2
     go_wp2_with (first | (refine znn rfl _ _ rfl w.heap.size (.slice oa2 M.length oc2) M w rfl HB4.out wr.heap.size 1 [10] rfl HBN.out (by simp; omega) ?_; intro v5 w5 hb5) | fail)
     have HB5 := zwe hb5
     clear hb5 HB4 HBN
     go_wp2
     go_roundw
     case rel => exact ⟨k + 1, by omega, by go_num, by rw [HST.out]; exact HB5.out, HFN.out.1, HFN.out.2⟩
     case measure => simp [intOf]; omega
  ·obtain rfl : k = ls.length := by omega
   have hfz : V.zx ls = 0 := by rw [HFB.out, List.drop_length]; rfl
   rw [V.zfb] at HB hlen0 ⊢
   by_cases hbg : 262144 < (V.doc ls).length
   ·have HE := zwe (HBIG.out hfz (by omega))
    have hbig : (262144 : Int) < ((V.doc ls).length : Int) := by omega
    have HBE := zwe HB.out.2.1
    clear hfz
    exact zzd
   ·have HE := zwe (HOKE.out hfz (by omega))
    have hbig : ¬ (262144 : Int) < ((V.doc ls).length : Int) := by omega
    clear hfz hlen0
    go_wp2
    go_ret2
    exact ⟨fun _ => ⟨.slice oa (V.doc ls).length oc, rfl, HB.out⟩, fun h => absurd HE.out h, HB.out.2.1⟩
theorem zqz (v : Value) (ls : List (List V.Bs)) (w : World) (hv : Lines w v ls) (hx : ∀ l ∈ ls, ∀ x ∈ l, x.length ≤ maxLen) (hsz : V.jp ls ls.length ≤ 9000000) :
  Calls Tryz.prog 17 #[v] w (EncG ls w) := by
 refine (zii v ls w hv hx hsz).mono ?_
 intro e w' h
 refine ⟨fun hz => ?_, h.2⟩
 obtain ⟨u, he, hb⟩ := h.1 hz
 exact ⟨u, he, hb.buf⟩
open Go.RowKit
def V.unwP (s : V.Bs) : V.Bs × Bool := match V.unwR s with | some w => (w, true) | none => ([], false)
theorem digU_val : ∀ n : Fin 256, Lib.indexByte (ByteArray.mk #[48, 49, 50, 51, 52, 53, 54, 55, 56, 57, 65, 66, 67, 68, 69, 70]).data.toList (UInt8.ofNat n.val) = (match V.hexV (UInt8.ofNat n.val) with | some x => (x : Int) | none => -1) := by decide +kernel
def dvB (bad : Int) (c : UInt8) : Int := match V.hexV c with | some x => (x : Int) | none => bad
theorem zj5 (c : UInt8) (w : World) : Calls Tryz.prog 79 #[.string (ByteArray.mk #[48, 49, 50, 51, 52, 53, 54, 55, 56, 57, 65, 66, 67, 68, 69, 70]), .int .u8 c.toNat] w fun e w' => e = .returned (.int .i64 (dvB (-1) c)) /\ w' = w := by
 refine (Tryz.strings_IndexByte (ByteArray.mk #[48, 49, 50, 51, 52, 53, 54, 55, 56, 57, 65, 66, 67, 68, 69, 70]) c.toNat w).mono ?_
 rintro e w' ⟨rfl, rfl⟩
 refine ⟨?_, rfl⟩
 have h := digU_val ⟨c.toNat, c.toNat_lt⟩
 simp only [UInt8.ofNat_toNat] at h
 have e : ((c.toNat : Int)).toNat.toUInt8 = c := by simp
 rw [e, h]
 rfl
theorem zry {S out : V.Bs} (h1 : S ≠ [126]) (h2 : V.qv S = some out) (h3 : out ≠ []) : V.unwP S = (out, true) := by
 unfold V.unwP V.unwR
 rw [if_neg h1, h2]
 simp [h3]
theorem yh {S : V.Bs} (h1 : S ≠ [126]) (h2 : V.qv S = none) : V.unwP S = ([], false) := by
 unfold V.unwP V.unwR
 rw [if_neg h1, h2]
theorem zrv (w : World) : (convert 23 9 (.slice none 0 0)).run Tryz.prog w = .ok (.string ⟨#[]⟩) w :=
 Lib.run_convert_nil_bytes w _ _ _ 0 Tryz.underlying23 Tryz.underlying5 Tryz.underlying9
theorem zxa {P : Prop} (h : P := by
 rw [HVV.out] at HPL
 have HPL := zwe HPL
 go_wp2_with fail
 refine HPL.out.mono ?_
 rintro e w4 ⟨rfl, rfl⟩
 clear HPL
 rcases hp2 : V.jd v with _ | _
 ·have HNX := zwe (HA.out.2 hp2)
  have HB2 : Hid (Buf w.heap.size (.slice oa out.length oc) out w (w4.alloc (.cells #[.int .u8 (16 * (x : Int) + (y : Int))] 5))) := zwe (HBD.out.below ((zwh _ w4).alloc (zwg _) _))
  have HBN : Hid (∀ j u, (bvals [v])[j]? = some u -> (w4.alloc (.cells #[.int .u8 (16 * (x : Int) + (y : Int))] 5)).cell? ⟨w4.heap.size, j, none⟩ = some u) := zwe (by rw [← HVV.out]; exact kx [v] w4)
  clear hp2 HA
  go_wp2_with (first | (refine zaq rfl _ _ rfl w.heap.size (.slice oa out.length oc) out w rfl HB2.out w4.heap.size 1 [v] rfl HBN.out (by simp; omega) ?_; intro v9 w9 hb9) | fail)
  have HB9 := zwe hb9
  clear hb9 HB2 HBN HBD
  go_wp2
  go_roundw
  case rel => exact ⟨k + 3, out ++ [v], hle, by go_num, HB9.out, HNX.out, by simp; omega, fun _ => by simp, fun h => absurd h (by omega)⟩
  case measure => simp [intOf]; omega
 ·have HUW : Hid (V.unwP s.data.toList = ([], false)) := zwe (yh HN.out (HA.out.1 hp2))
  have HBE := zwe HBD.out.2.1
  clear hp2 HA
  go_wp2
  go_ret2
  exact ⟨by rw [HUW.out]; rfl, HBE.out⟩) : P := h
theorem zxo {P : Prop} (h : P := by
 have HNX := zwe (HAT.out.1 hp)
 clear hp HAT
 have HB2 : Hid (Buf w.heap.size (.slice oa out.length oc) out w (w2.alloc (.cells #[.int .u8 s[k].toNat] 5))) := zwe (HB.out.below ((zwh _ w2).alloc (zwg _) _))
 have HBN : Hid (∀ j u, (bvals [c])[j]? = some u -> (w2.alloc (.cells #[.int .u8 s[k].toNat] 5)).cell? ⟨w2.heap.size, j, none⟩ = some u) := zwe (by rw [← HC.out]; exact kx [c] w2)
 go_wp2_with (first | (refine zaq rfl _ _ rfl w.heap.size (.slice oa out.length oc) out w rfl HB2.out w2.heap.size 1 [c] rfl HBN.out (by simp; omega) ?_; intro v9 w9 hb9) | fail)
 have HB9 := zwe hb9
 clear hb9 HB2 HBN HB HC
 go_wp2
 go_roundw
 case rel => exact ⟨k + 1, out ++ [c], by omega, by go_num, HB9.out, HNX.out, by simp; omega, fun _ => by simp, fun h => absurd h (by omega)⟩
 case measure => simp [intOf]; omega) : P := h
theorem zxz {P : Prop} (h : P := by
 have HUW : Hid (V.unwP s.data.toList = ([], false)) := zwe (yh HN.out (HAT.out.2.2.1 hc37 (by omega)))
 have hq1 : IntKind.i64.wrap ((k : Int) + 2) = (k : Int) + 2 := by unfold IntKind.wrap; simp [IntKind.signed, IntKind.bits]; omega
 have hq2 : (s.size : Int) ≤ (k : Int) + 2 := by omega
 have hq3 : IntKind.i64.wrap ((s.size : Int) - (k : Int)) = (s.size : Int) - (k : Int) := by unfold IntKind.wrap; simp [IntKind.signed, IntKind.bits]; omega
 have hq4 : (s.size : Int) - (k : Int) < 3 := by omega
 subst hc37
 have hq5 : s[k] = 37 := HC.out.symm
 have HBE := zwe HB.out.2.1
 clear hp HAT HC hq37
 go_wp2
 go_ret2
 exact ⟨by rw [HUW.out]; rfl, HBE.out⟩) : P := h
theorem zyc {P : Prop} (h : P := by
 have HUW : Hid (V.unwP s.data.toList = ([], false)) := zwe (yh HN.out (HAT.out.2.1 hp hc37))
 have hq1 : ¬ ((c.toNat : Int) = 37) := fun e => hc37 (by apply UInt8.toNat_inj.1; have : c.toNat = 37 := by omega
                                                          rw [this]; rfl)
 have hq2 : ((c.toNat : Int) == 37) = false := zwi.2 hq1
 have HBE := zwe HB.out.2.1
 rw [HC.out] at hq1 hq2
 clear hp HAT
 go_wp2
 go_ret2
 exact ⟨by rw [HUW.out]; rfl, HBE.out⟩) : P := h
theorem zyo {P : Prop} (h : P := by
 have HUW : Hid (V.unwP s.data.toList = (out, true)) := zwe (zry HN.out HOUT.out (hpos (by omega)))
 have hcv := zcu HB.out (List.length_pos_iff.2 (hpos (by omega)))
 have hop := List.length_pos_iff.2 (hpos (by omega))
 have hop2 : (0 : Int) < (out.length : Int) := by omega
 have HBL := zwe HB.out.2.1
 go_wp2
 go_ret2
 exact ⟨by rw [HUW.out]; rfl, HBL.out⟩) : P := h
theorem zy1 {P : Prop} (h : P := by
 go_wp2
 go_ret2
 exact ⟨by rw [HUW.out]; rfl, HBE.out⟩) : P := h
theorem zms (s : ByteArray) (w : World) (hs : s.size ≤ 1000000) : Calls Tryz.prog 50 #[.string s] w fun e w' => e = .returned (.tuple #[.string ⟨(V.unwP s.data.toList).1.toArray⟩, .bool (V.unwP s.data.toList).2]) /\ Below w.heap.size w w' := by
 by_cases h126 : s.data.toList = [126]
 ·have hs1 : s = ⟨#[126]⟩ := jk (by rw [h126])
  subst hs1
  go_enter Tryz.func50, Tryz.ntmps50
  go_wp2
  go_ret2
  exact ⟨rfl, zwh _ _⟩
 ·have HN := zwe h126
  have hne : (s.data.toList == [126]) = false := zwi.2 h126
  have hne4 : (s.toList == [126]) = false := by rw [Lib.toList_data]; exact hne
  clear h126
  go_enter Tryz.func50, Tryz.ntmps50
  go_wp2
  go_loopw [4, 5] (fun ov iv wx => ∃ (k : Nat) (out : V.Bs), k ≤ s.size /\ iv = .int .i64 k /\ Buf w.heap.size ov out w wx /\ V.qv s.data.toList = (V.qv (s.data.toList.drop k)).map (out ++ ·) /\ out.length ≤ k /\ (0 < k -> out ≠ []) /\ (k = 0 -> ov = .slice none 0 0)) (fun _ iv _ => s.size - (intOf iv).toNat)
  case atStart => exact ⟨0, [], Nat.zero_le _, rfl, Buf.nil (zwh _ _) (zwg _), by simp, zwg _, fun h => absurd h (by omega), fun _ => rfl⟩
  case round =>
   obtain ⟨k, out, hk, rfl, hb, hg, hol, hpos, hk0⟩ := hrel
   have HB := zwe hb
   obtain ⟨oa, oc, rfl⟩ := hb.slice
   have hl := zf s
   clear hb
   by_cases hlt : k < s.size
   ·have hk0c := hk0
    clear hk0 hpos
    have HAT := zwe (V.unw_at hg (k := k) (by omega))
    have he : s.data.toList[k]'(by omega) = s[k] := by simp; rfl
    have hs1 : (0 : Int) ≤ (k : Int) := by omega
    have hs2 : (k : Int) < (s.size : Int) := by omega
    obtain ⟨c, hc⟩ : ∃ c, c = s[k] := ⟨_, rfl⟩
    rw [he, ← hc] at HAT
    have HC := zwe hc
    have hc256 := c.toNat_lt
    clear he hc hg hk0c
    go_wp2_with fail
    rw [← HC.out]
    refine (za6 c wr).mono ?_
    rintro e w2 ⟨rfl, rfl⟩
    rcases hp : V.jd c with _ | _
    ·by_cases hc37 : c = 37
     ·have hq37 : ((c.toNat : Int) == 37) = true := by rw [hc37]; rfl
      by_cases hsh : s.size < k + 3
      ·exact zxz
      ·have he1 : s.data.toList[k + 1]'(by omega) = s[k + 1]'(by omega) := by simp; rfl
       have he2 : s.data.toList[k + 2]'(by omega) = s[k + 2]'(by omega) := by simp; rfl
       obtain ⟨c1, hc1⟩ : ∃ c1, c1 = s[k + 1]'(by omega) := ⟨_, rfl⟩
       obtain ⟨c2, hc2⟩ : ∃ c2, c2 = s[k + 2]'(by omega) := ⟨_, rfl⟩
       have HC1 : Hid (s.data.toList[((k : Int) + 1).toNat]? = some c1) := zwe (by rw [show ((k : Int) + 1).toNat = k + 1 by omega, List.getElem?_eq_getElem (by omega), he1, ← hc1])
       have HC2 : Hid (s.data.toList[((k : Int) + 2).toNat]? = some c2) := zwe (by rw [show ((k : Int) + 2).toNat = k + 2 by omega, List.getElem?_eq_getElem (by omega), he2, ← hc2])
       have A1 : Hid (V.hexV c1 = none ∨ V.hexV c2 = none -> V.qv s.data.toList = none) := zwe (fun h => HAT.out.2.2.2.1 (by omega) hc37 (by rw [he1, he2, ← hc1, ← hc2]; exact h))
       have h3 : k + 2 < s.data.toList.length := by omega
       have A2 := zwe (fun (x y : Nat) (hx : V.hexV c1 = some x) (hy : V.hexV c2 = some y) => HAT.out.2.2.2.2 h3 x y hc37 (by rw [he1, ← hc1]; exact hx) (by rw [he2, ← hc2]; exact hy))
       have hq1 : IntKind.i64.wrap ((k : Int) + 1) = (k : Int) + 1 := by unfold IntKind.wrap; simp [IntKind.signed, IntKind.bits]; omega
       have hq2 : IntKind.i64.wrap ((k : Int) + 2) = (k : Int) + 2 := by unfold IntKind.wrap; simp [IntKind.signed, IntKind.bits]; omega
       have hq3 : IntKind.i64.wrap ((s.size : Int) - (k : Int)) = (s.size : Int) - (k : Int) := by unfold IntKind.wrap; simp [IntKind.signed, IntKind.bits]; omega
       have hq4 : ¬ (s.size : Int) - (k : Int) < 3 := by omega
       have hq6 : ¬ (s.size : Int) ≤ (k : Int) + 2 := by omega
       have hle : k + 3 ≤ s.size := by omega
       subst hc37
       have hq5 : s[k] = 37 := HC.out.symm
       clear hp HAT HC hq37 hc1 hc2 he1 he2 hsh h3
       go_wp2_with fail
       refine wp_region_held_drew (S := (fun W' => Below w2.heap.size w2 W')) (by kernel_rfl) (by (try dsimp only); exact (zwh _ w2).drew) (fun hHeld => ?_)
       refine tk 0 ?_
       refine tk 1 ?_
       refine wpAnyH_take (i := 2) (v := (.int .i64 ((k : Int) + 1))) rfl (by kernel_rfl) (by kernel_rfl) (by kernel_rfl) (fun _ _ _ h => h) (Or.inl ⟨by rfl, fun w' hSw => by go_simp; try rfl⟩) (by assumption) ?_
       try simp only [zv9, zwa, zwb, Act.put, zwc, List.set_cons_succ, List.set_cons_zero]
       refine wpAnyH_take (i := 3) (v := (.int .u8 c1.toNat)) rfl (by kernel_rfl) (by kernel_rfl) (by kernel_rfl) (fun _ _ _ h => h) (Or.inl ⟨by rfl, fun w' hSw => yb rfl rfl rfl (by omega) HC1.out⟩) (by assumption) ?_
       try simp only [zv9, zwa, zwb, Act.put, zwc, List.set_cons_succ, List.set_cons_zero]
       refine tk 5 ?_
       refine tk 6 ?_
       refine wpAnyH_take (i := 7) (v := (.int .i64 ((k : Int) + 2))) rfl (by kernel_rfl) (by kernel_rfl) (by kernel_rfl) (fun _ _ _ h => h) (Or.inl ⟨by rfl, fun w' hSw => by go_simp; try rfl⟩) (by assumption) ?_
       try simp only [zv9, zwa, zwb, Act.put, zwc, List.set_cons_succ, List.set_cons_zero]
       refine wpAnyH_take (i := 8) (v := (.int .u8 c2.toNat)) rfl (by kernel_rfl) (by kernel_rfl) (by kernel_rfl) (fun _ _ _ h => h) (Or.inl ⟨by rfl, fun w' hSw => yb rfl rfl rfl (by omega) HC2.out⟩) (by assumption) ?_
       try simp only [zv9, zwa, zwb, Act.put, zwc, List.set_cons_succ, List.set_cons_zero]
       refine rd 4 fun K hK => ?_
       go_simp
       refine (zj5 c1 _).mono ?_
       rintro e wA ⟨rfl, rfl⟩
       try dsimp only
       refine hK.out _ _ ?_ (fun hHeld => nx ?_)
       ·(try dsimp only); exact (zwh _ w2).drew
       clear hK K
       refine rd 9 fun K hK => ?_
       go_simp
       refine (zj5 c2 _).mono ?_
       rintro e wB ⟨rfl, rfl⟩
       try dsimp only
       refine hK.out _ _ ?_ (fun hHeld => nx ?_)
       ·(try dsimp only); exact (zwh _ w2).drew
       clear hK K
       refine tk 10 ?_
       refine tk 11 ?_
       refine wpAnyH_done (by kernel_rfl) ?_ _
       have HBD := zwe (HB.out.below (zwh _ w2).drew)
       clear hHeld HB HC1 HC2
       generalize w2.drew = w3 at *
       rcases hx : V.hexV c1 with _ | x
       ·have HUW : Hid (V.unwP s.data.toList = ([], false)) := zwe (yh HN.out (A1.out (.inl hx)))
        have hd1 : dvB (-1) c1 = (-1) := by unfold dvB; rw [hx]
        have HBE := zwe HBD.out.2.1
        clear hx A1 A2
        exact zy1
       ·have hd1 : dvB (-1) c1 = (x : Int) := by unfold dvB; rw [hx]
        have hx16 := V.zeu hx
        have hxn : ¬ (x : Int) < 0 := by omega
        have hxe : ((x : Int) == 16) = false := by rw [zwi]; omega
        rcases hy : V.hexV c2 with _ | y
        ·have HUW : Hid (V.unwP s.data.toList = ([], false)) := zwe (yh HN.out (A1.out (.inr hy)))
         have hd2 : dvB (-1) c2 = (-1) := by unfold dvB; rw [hy]
         have HBE := zwe HBD.out.2.1
         clear hx hy A1 A2
         exact zy1
        ·have hd2 : dvB (-1) c2 = (y : Int) := by unfold dvB; rw [hy]
         have hy16 := V.zeu hy
         have hyn : ¬ (y : Int) < 0 := by omega
         have hye : ((y : Int) == 16) = false := by rw [zwi]; omega
         have HA := zwe (A2.out x y hx hy)
         clear hx hy A1 A2
         obtain ⟨v, hv⟩ : ∃ v, v = UInt8.ofNat (16 * x + y) := ⟨_, rfl⟩
         have hvv : (v.toNat : Int) = 16 * (x : Int) + (y : Int) := by rw [hv]; simp; omega
         rw [← hv] at HA
         clear hv
         have hw1 : IntKind.i64.wrap (16 * (x : Int)) = 16 * (x : Int) := by unfold IntKind.wrap; simp [IntKind.signed, IntKind.bits]; omega
         have hw2 : IntKind.i64.wrap (16 * (x : Int) + (y : Int)) = 16 * (x : Int) + (y : Int) := by unfold IntKind.wrap; simp [IntKind.signed, IntKind.bits]; omega
         have hw3 : IntKind.u8.wrap (16 * (x : Int) + (y : Int)) = 16 * (x : Int) + (y : Int) := by unfold IntKind.wrap; simp [IntKind.signed, IntKind.bits]; omega
         have HVV := zwe hvv
         clear hvv
         have HPL := za6 v w3
         exact zxa
     ·exact zyc
    ·exact zxo
   ·obtain rfl : k = s.size := by omega
    have hg2 : V.qv s.data.toList = some out := by
     rw [hg, List.drop_of_length_le (by omega)]
     simp [V.qv]
    clear hg
    have HOUT := zwe hg2
    by_cases hs0 : s.size = 0
    ·have hov := hk0 hs0
     have hcv := zrv wr
     have HUW : Hid (V.unwP s.data.toList = ([], false)) := zwe (by
       have : s.data.toList = [] := List.length_eq_zero_iff.1 (by rw [zf]; exact hs0)
       rw [this]; rfl)
     have HBE := zwe HB.out.2.1
     obtain rfl : out = [] := List.length_eq_zero_iff.1 (by omega)
     simp only [List.length_nil, Value.slice.injEq] at hov
     obtain ⟨rfl, -, rfl⟩ := hov
     exact zy1
    ·exact zyo
theorem z0p {P : Prop} (h : P := by
 go_enter Tryz.func83, Tryz.ntmps83
 go_wp2
 go_ret
 exact ⟨by rw [HD.out]; rfl, rfl⟩) : P := h
theorem zkk (c : UInt8) (w : World) : Calls Tryz.prog 83 #[.int .u8 c.toNat] w fun e w' => e = .returned (.int .i64 (dvB 16 c)) /\ w' = w := by
 have hc := c.toNat_lt
 have hdv : dvB 16 c = if 48 ≤ c.toNat /\ c.toNat ≤ 57 then ((c.toNat : Int) - 48) else if 65 ≤ c.toNat /\ c.toNat ≤ 70 then ((c.toNat : Int) - 65 + 10) else 16 := by
  unfold dvB V.hexV
  by_cases h1 : 48 ≤ c.toNat /\ c.toNat ≤ 57
  ·rw [if_pos h1, if_pos h1]
   show ((c.toNat - 48 : Nat) : Int) = _
   omega
  ·rw [if_neg h1, if_neg h1]
   by_cases h2 : 65 ≤ c.toNat /\ c.toNat ≤ 70
   ·rw [if_pos h2, if_pos h2]
    show ((c.toNat - 55 : Nat) : Int) = _
    omega
   ·rw [if_neg h2, if_neg h2]
 obtain ⟨m, hm⟩ : ∃ m, m = c.toNat := ⟨_, rfl⟩
 rw [← hm] at hdv hc ⊢
 clear hm
 have HDV := zwe hdv
 clear hdv
 by_cases h1 : 48 ≤ m /\ m ≤ 57
 ·obtain ⟨h2, h3⟩ := h1
  have HD : Hid (dvB 16 c = (m : Int) - 48) := zwe (by rw [HDV.out, if_pos ⟨h2, h3⟩])
  have q1 : (48 : Int) ≤ (m : Int) := by omega
  have q2 : (m : Int) ≤ 57 := by omega
  have q3 : IntKind.u8.wrap ((m : Int) - 48) = (m : Int) - 48 := by unfold IntKind.wrap; simp [IntKind.signed, IntKind.bits]; omega
  have q4 : IntKind.i64.wrap ((m : Int) - 48) = (m : Int) - 48 := by unfold IntKind.wrap; simp [IntKind.signed, IntKind.bits]; omega
  exact z0p
 ·by_cases h4 : 65 ≤ m /\ m ≤ 70
  ·obtain ⟨h2, h3⟩ := h4
   have HD : Hid (dvB 16 c = (m : Int) - 65 + 10) := zwe (by rw [HDV.out, if_neg h1, if_pos ⟨h2, h3⟩])
   have q1 : (48 : Int) ≤ (m : Int) := by omega
   have q2 : ¬ (m : Int) ≤ 57 := by omega
   have q5 : (65 : Int) ≤ (m : Int) := by omega
   have q6 : (m : Int) ≤ 70 := by omega
   have q3 : IntKind.u8.wrap ((m : Int) - 65) = (m : Int) - 65 := by unfold IntKind.wrap; simp [IntKind.signed, IntKind.bits]; omega
   have q4 : IntKind.i64.wrap ((m : Int) - 65) = (m : Int) - 65 := by unfold IntKind.wrap; simp [IntKind.signed, IntKind.bits]; omega
   have q7 : IntKind.i64.wrap ((m : Int) - 65 + 10) = (m : Int) - 65 + 10 := by unfold IntKind.wrap; simp [IntKind.signed, IntKind.bits]; omega
   exact z0p
  ·have HD : Hid (dvB 16 c = 16) := zwe (by rw [HDV.out, if_neg h1, if_neg h4])
   have hcase : (¬ (48 : Int) ≤ (m : Int) /\ ¬ (65 : Int) ≤ (m : Int)) ∨ ((48 : Int) ≤ (m : Int) /\ ¬ (m : Int) ≤ 57 /\ ¬ (65 : Int) ≤ (m : Int)) ∨ ((48 : Int) ≤ (m : Int) /\ ¬ (m : Int) ≤ 57 /\ (65 : Int) ≤ (m : Int) /\ ¬ (m : Int) ≤ 70) := by omega
   clear h1 h4 HDV
   rcases hcase with ⟨q1, q2⟩ | ⟨q1, q2, q3⟩ | ⟨q1, q2, q3, q4⟩
   all_goals
    go_enter Tryz.func83, Tryz.ntmps83
    go_wp2
    go_ret
    exact ⟨by rw [HD.out]; rfl, rfl⟩
theorem z00 {P : Prop} (h : P := by
 go_enter Tryz.func55, Tryz.ntmps55
 go_wp2
 go_ret2
 exact ⟨rfl, zwh _ _⟩) : P := h
theorem zj0 (s : ByteArray) (w : World) (hs : s.size ≤ 1000000) : Calls Tryz.prog 55 #[.string s] w fun e w' => e = .returned (.tuple #[.string ⟨(V.unwP s.data.toList).1.toArray⟩, .bool (V.unwP s.data.toList).2]) /\ Below w.heap.size w w' := by
 by_cases h126 : s.data.toList = [126]
 ·have hs1 : s = ⟨#[126]⟩ := jk (by rw [h126])
  subst hs1
  exact z00
 ·by_cases h00 : s.data.toList = []
  ·have hs0 : s = ⟨#[]⟩ := jk (by rw [h00])
   subst hs0
   exact z00
  ·have HN := zwe h126
   have hne : (s.data.toList == [126]) = false := zwi.2 h126
   have hne4 : (s.toList == [126]) = false := by rw [Lib.toList_data]; exact hne
   clear h126
   have hse : s.toList.isEmpty = false := by
    rw [Lib.toList_data]
    cases hq : s.data.toList with
    | nil => exact absurd hq h00
    | cons c r => rfl
   have HN0 := zwe h00
   clear h00
   go_enter Tryz.func55, Tryz.ntmps55
   go_wp2
   go_loopw [4, 5] (fun ov iv wx => ∃ (k : Nat) (out : V.Bs), k ≤ s.size /\ iv = .int .i64 k /\ Buf w.heap.size ov out w wx /\ V.qv s.data.toList = (V.qv (s.data.toList.drop k)).map (out ++ ·) /\ out.length ≤ k /\ (0 < k -> out ≠ []) /\ (k = 0 -> ov = .slice none 0 0)) (fun _ iv _ => s.size - (intOf iv).toNat)
   case atStart => exact ⟨0, [], Nat.zero_le _, rfl, Buf.nil (zwh _ _) (zwg _), by simp, zwg _, fun h => absurd h (by omega), fun _ => rfl⟩
   case round =>
    obtain ⟨k, out, hk, rfl, hb, hg, hol, hpos, hk0⟩ := hrel
    have HB := zwe hb
    obtain ⟨oa, oc, rfl⟩ := hb.slice
    have hl := zf s
    clear hb
    by_cases hlt : k < s.size
    ·have hk0c := hk0
     clear hk0 hpos
     have HAT := zwe (V.unw_at hg (k := k) (by omega))
     have he : s.data.toList[k]'(by omega) = s[k] := by simp; rfl
     have hs1 : (0 : Int) ≤ (k : Int) := by omega
     have hs2 : (k : Int) < (s.size : Int) := by omega
     obtain ⟨c, hc⟩ : ∃ c, c = s[k] := ⟨_, rfl⟩
     rw [he, ← hc] at HAT
     have HC := zwe hc
     have hc256 := c.toNat_lt
     clear he hc hg hk0c
     go_wp2_with fail
     rw [← HC.out]
     refine (zci c wr).mono ?_
     rintro e w2 ⟨rfl, rfl⟩
     rcases hp : V.jd c with _ | _
     ·by_cases hc37 : c = 37
      ·have hq37 : ((c.toNat : Int) == 37) = true := by rw [hc37]; rfl
       by_cases hsh : s.size < k + 3
       ·exact zxz
       ·have he1 : s.data.toList[k + 1]'(by omega) = s[k + 1]'(by omega) := by simp; rfl
        have he2 : s.data.toList[k + 2]'(by omega) = s[k + 2]'(by omega) := by simp; rfl
        obtain ⟨c1, hc1⟩ : ∃ c1, c1 = s[k + 1]'(by omega) := ⟨_, rfl⟩
        obtain ⟨c2, hc2⟩ : ∃ c2, c2 = s[k + 2]'(by omega) := ⟨_, rfl⟩
        have HC1 : Hid (s.data.toList[((k : Int) + 1).toNat]? = some c1) := zwe (by rw [show ((k : Int) + 1).toNat = k + 1 by omega, List.getElem?_eq_getElem (by omega), he1, ← hc1])
        have HC2 : Hid (s.data.toList[((k : Int) + 2).toNat]? = some c2) := zwe (by rw [show ((k : Int) + 2).toNat = k + 2 by omega, List.getElem?_eq_getElem (by omega), he2, ← hc2])
        have A1 : Hid (V.hexV c1 = none ∨ V.hexV c2 = none -> V.qv s.data.toList = none) := zwe (fun h => HAT.out.2.2.2.1 (by omega) hc37 (by rw [he1, he2, ← hc1, ← hc2]; exact h))
        have h3 : k + 2 < s.data.toList.length := by omega
        have A2 := zwe (fun (x y : Nat) (hx : V.hexV c1 = some x) (hy : V.hexV c2 = some y) => HAT.out.2.2.2.2 h3 x y hc37 (by rw [he1, ← hc1]; exact hx) (by rw [he2, ← hc2]; exact hy))
        have hq1 : IntKind.i64.wrap ((k : Int) + 1) = (k : Int) + 1 := by unfold IntKind.wrap; simp [IntKind.signed, IntKind.bits]; omega
        have hq2 : IntKind.i64.wrap ((k : Int) + 2) = (k : Int) + 2 := by unfold IntKind.wrap; simp [IntKind.signed, IntKind.bits]; omega
        have hq3 : IntKind.i64.wrap ((s.size : Int) - (k : Int)) = (s.size : Int) - (k : Int) := by unfold IntKind.wrap; simp [IntKind.signed, IntKind.bits]; omega
        have hq4 : ¬ (s.size : Int) - (k : Int) < 3 := by omega
        have hq6 : ¬ (s.size : Int) ≤ (k : Int) + 2 := by omega
        have hle : k + 3 ≤ s.size := by omega
        subst hc37
        have hq5 : s[k] = 37 := HC.out.symm
        clear hp HAT HC hq37 hc1 hc2 he1 he2 hsh h3
        go_wp2_with fail
        refine wp_region_held_drew (S := (fun W' => Below w2.heap.size w2 W')) (by kernel_rfl) (by (try dsimp only); exact (zwh _ w2).drew) (fun hHeld => ?_)
        refine tk 0 ?_
        refine tk 1 ?_
        refine wpAnyH_take (i := 2) (v := (.int .i64 ((k : Int) + 1))) rfl (by kernel_rfl) (by kernel_rfl) (by kernel_rfl) (fun _ _ _ h => h) (Or.inl ⟨by rfl, fun w' hSw => by go_simp; try rfl⟩) (by assumption) ?_
        try simp only [zv9, zwa, zwb, Act.put, zwc, List.set_cons_succ, List.set_cons_zero]
        refine wpAnyH_take (i := 3) (v := (.int .u8 c1.toNat)) rfl (by kernel_rfl) (by kernel_rfl) (by kernel_rfl) (fun _ _ _ h => h) (Or.inl ⟨by rfl, fun w' hSw => yb rfl rfl rfl (by omega) HC1.out⟩) (by assumption) ?_
        try simp only [zv9, zwa, zwb, Act.put, zwc, List.set_cons_succ, List.set_cons_zero]
        refine tk 5 ?_
        refine tk 6 ?_
        refine wpAnyH_take (i := 7) (v := (.int .i64 ((k : Int) + 2))) rfl (by kernel_rfl) (by kernel_rfl) (by kernel_rfl) (fun _ _ _ h => h) (Or.inl ⟨by rfl, fun w' hSw => by go_simp; try rfl⟩) (by assumption) ?_
        try simp only [zv9, zwa, zwb, Act.put, zwc, List.set_cons_succ, List.set_cons_zero]
        refine wpAnyH_take (i := 8) (v := (.int .u8 c2.toNat)) rfl (by kernel_rfl) (by kernel_rfl) (by kernel_rfl) (fun _ _ _ h => h) (Or.inl ⟨by rfl, fun w' hSw => yb rfl rfl rfl (by omega) HC2.out⟩) (by assumption) ?_
        try simp only [zv9, zwa, zwb, Act.put, zwc, List.set_cons_succ, List.set_cons_zero]
        refine rd 4 fun K hK => ?_
        go_simp
        refine (zkk c1 _).mono ?_
        rintro e wA ⟨rfl, rfl⟩
        try dsimp only
        refine hK.out _ _ ?_ (fun hHeld => nx ?_)
        ·(try dsimp only); exact (zwh _ w2).drew
        clear hK K
        refine rd 9 fun K hK => ?_
        go_simp
        refine (zkk c2 _).mono ?_
        rintro e wB ⟨rfl, rfl⟩
        try dsimp only
        refine hK.out _ _ ?_ (fun hHeld => nx ?_)
        ·(try dsimp only); exact (zwh _ w2).drew
        clear hK K
        refine tk 10 ?_
        refine tk 11 ?_
        refine wpAnyH_done (by kernel_rfl) ?_ _
        have HBD := zwe (HB.out.below (zwh _ w2).drew)
        clear hHeld HB HC1 HC2
        generalize w2.drew = w3 at *
        rcases hx : V.hexV c1 with _ | x
        ·have HUW : Hid (V.unwP s.data.toList = ([], false)) := zwe (yh HN.out (A1.out (.inl hx)))
         have hd1 : dvB 16 c1 = 16 := by unfold dvB; rw [hx]
         have HBE := zwe HBD.out.2.1
         clear hx A1 A2
         exact zy1
        ·have hd1 : dvB 16 c1 = (x : Int) := by unfold dvB; rw [hx]
         have hx16 := V.zeu hx
         have hxn : ¬ (x : Int) < 0 := by omega
         have hxe : ((x : Int) == 16) = false := by rw [zwi]; omega
         rcases hy : V.hexV c2 with _ | y
         ·have HUW : Hid (V.unwP s.data.toList = ([], false)) := zwe (yh HN.out (A1.out (.inr hy)))
          have hd2 : dvB 16 c2 = 16 := by unfold dvB; rw [hy]
          have HBE := zwe HBD.out.2.1
          clear hx hy A1 A2
          exact zy1
         ·have hd2 : dvB 16 c2 = (y : Int) := by unfold dvB; rw [hy]
          have hy16 := V.zeu hy
          have hyn : ¬ (y : Int) < 0 := by omega
          have hye : ((y : Int) == 16) = false := by rw [zwi]; omega
          have HA := zwe (A2.out x y hx hy)
          clear hx hy A1 A2
          obtain ⟨v, hv⟩ : ∃ v, v = UInt8.ofNat (16 * x + y) := ⟨_, rfl⟩
          have hvv : (v.toNat : Int) = 16 * (x : Int) + (y : Int) := by rw [hv]; simp; omega
          rw [← hv] at HA
          clear hv
          have hw1 : IntKind.i64.wrap (16 * (x : Int)) = 16 * (x : Int) := by unfold IntKind.wrap; simp [IntKind.signed, IntKind.bits]; omega
          have hw2 : IntKind.i64.wrap (16 * (x : Int) + (y : Int)) = 16 * (x : Int) + (y : Int) := by unfold IntKind.wrap; simp [IntKind.signed, IntKind.bits]; omega
          have hw3 : IntKind.u8.wrap (16 * (x : Int) + (y : Int)) = 16 * (x : Int) + (y : Int) := by unfold IntKind.wrap; simp [IntKind.signed, IntKind.bits]; omega
          have HVV := zwe hvv
          clear hvv
          have HPL := zci v w3
          exact zxa
      ·exact zyc
     ·exact zxo
    ·obtain rfl : k = s.size := by omega
     have hg2 : V.qv s.data.toList = some out := by
      rw [hg, List.drop_of_length_le (by omega)]
      simp [V.qv]
     clear hg
     have HOUT := zwe hg2
     by_cases hs0 : s.size = 0
     ·exact absurd (List.length_eq_zero_iff.1 (by rw [zf]; exact hs0)) HN0.out
     ·exact zyo
end Go.Proofs.YtcfbkcapbbhmpaaGreatDoor
