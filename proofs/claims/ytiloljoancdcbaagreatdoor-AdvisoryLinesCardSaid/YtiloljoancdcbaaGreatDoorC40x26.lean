/-
  Lemmas for the law.
-/
import Derived.Test.YtiloljoancdcbaaGreatDoorC40x21
import Derived.Test.YtiloljoancdcbaaGreatDoorC40x16
import Derived.Lib.AppendStr
set_option linter.all false
set_option maxRecDepth 100000
set_option maxHeartbeats 3200000
namespace Go.Proofs.YtiloljoancdcbaaGreatDoor
open Go.RowKit
theorem V.docTo_len2 {ls : List (List V.Bs)} : ∀ k, k ≤ ls.length -> (∀ j (h : j < ls.length), j < k -> 0 < ls[j].length) -> (V.zbx ls k).length = V.jl ls k
 | 0, _, _ => rfl
 | k + 1, h, hw => by
  rw [V.zc8 (by omega), V.ym (by omega), List.length_append, V.docTo_len2 k (by omega) (fun j h1 h2 => hw j h1 (by omega)), V.zgj (hw k (by omega) (by omega))]
theorem V.docSz_max {ls : List (List V.Bs)} {M : Nat} (h : ∀ x ∈ ls, V.jc x x.length ≤ M) : ∀ k, k ≤ ls.length -> V.jl ls k ≤ k * M
 | 0, _ => by simp [V.jl]
 | k + 1, hk => by
  rw [V.ym (by omega)]
  have h1 := V.docSz_max h k (by omega)
  have h2 := h _ (List.getElem_mem (show k < ls.length by omega))
  rw [Nat.succ_mul]
  omega
theorem V.lineSz_max {x : List V.Bs} {M : Nat} (h : ∀ u ∈ x, V.wj u + 1 ≤ M) : V.jc x x.length ≤ x.length * M := by
 unfold V.jc
 rw [List.take_length]
 induction x with
 | nil => simp
 | cons u x ih =>
  rw [List.map_cons, List.sum_cons, List.length_cons, Nat.succ_mul]
  have h1 := h u (List.mem_cons_self ..)
  have h2 := ih fun v hv => h v (List.mem_cons_of_mem _ hv)
  omega
theorem V.ok_size {ls : List (List V.Bs)} (h : ls.length ≤ 1000) (hl : ∀ l ∈ ls, 0 < l.length /\ l.length ≤ 120 /\ ∀ w ∈ l, w.length ≤ 32768) : V.jl ls ls.length ≤ 12000000000 := by
 have := V.docSz_max (ls := ls) (M := 11797000) (fun x hx => by
   have hx := hl x hx
   have a := V.lineSz_max (x := x) (M := 98306) (fun u hu => by have := V.xk u; have := hx.2.2 u hu; omega)
   have b : x.length * 98306 ≤ 120 * 98306 := Nat.mul_le_mul_right _ hx.2.1
   omega) _ (zvs _)
 have c : ls.length * 11797000 ≤ 1000 * 11797000 := Nat.mul_le_mul_right _ h
 omega
theorem z0k {P : Prop} (h : P := by
 go_enter Tryz.func54, Tryz.ntmps54
 go_wp2
 go_ret
 exact ⟨by rw [HC.out]; rfl, rfl⟩) : P := h
theorem zoa (v : Value) (l : List V.Bs) (w : World) (hv : Strs w v l) (hx : ∀ x ∈ l, x.length ≤ maxLen) :
  Calls Tryz.prog 54 #[v] w fun e w' => e = .returned (.int .i64 (V.chk l)) /\ w' = w := by
 obtain ⟨va, vc, rfl, hat⟩ := hv
 have HA := zvq hat
 clear hat
 by_cases h0 : l.length = 0
 ·have HC : Hid (V.chk l = 1) := zvq (by unfold V.chk; rw [if_pos h0])
  exact z0k
 ·have hn0 : ((l.length : Int) == 0) = false := by rw [zvu]; omega
  by_cases h1 : 120 < l.length
  ·have HC : Hid (V.chk l = 3) := zvq (by unfold V.chk; rw [if_neg h0, if_pos h1])
   have hn1 : (120 : Int) < (l.length : Int) := by omega
   exact z0k
  ·have hn1 : ¬ (120 : Int) < (l.length : Int) := by omega
   have HC1 : Hid (∀ j (h : j < l.length), 32768 < l[j].length -> V.chk l = 3) := zvq (fun j h hj => by
     unfold V.chk
     rw [if_neg h0, if_neg h1, if_neg]
     intro e
     rw [List.all_eq_true] at e
     have := e _ (List.getElem_mem h)
     simp at this
     omega)
   have HC0 : Hid ((∀ j (h : j < l.length), l[j].length ≤ 32768) -> V.chk l = 0) := zvq (fun h => by
     unfold V.chk
     rw [if_neg h0, if_neg h1, if_pos]
     rw [List.all_eq_true]
     intro x hx
     obtain ⟨j, hj, rfl⟩ := List.mem_iff_getElem.1 hx
     simpa using h j hj)
   have HX := zvq hx
   clear h0 h1 hx
   go_enter Tryz.func54, Tryz.ntmps54
   go_wp2
   go_loop [15] (fun iv => ∃ k : Nat, k ≤ l.length /\ iv = .int .i64 k /\ ∀ j (h : j < l.length), j < k -> l[j].length ≤ 32768) (fun iv => l.length - (intOf iv).toNat)
   case atStart => exact ⟨0, Nat.zero_le _, rfl, fun j h hj => absurd hj (by omega)⟩
   case round =>
    obtain ⟨k, hk, rfl, hpre⟩ := hrel
    have HPRE := zvq hpre
    clear hpre
    by_cases hlt : k < l.length
    ·obtain ⟨b, off, rfl, hb, hc⟩ := HA.out k hlt
     have hxm := HX.out _ (List.getElem_mem hlt)
     have HC3 := zvq (HC1.out k hlt)
     have HNX : Hid (l[k].length ≤ 32768 -> ∀ j (h : j < l.length), j < k + 1 -> l[j].length ≤ 32768) := zvq (fun e j h hj => by
       rcases Nat.lt_or_ge j k with g | g
       · exact HPRE.out j h g
       · obtain rfl : j = k := by omega
         exact e)
     have hi1 : (0 : Int) ≤ (k : Int) := by omega
     have hi2 : (k : Int) < (l.length : Int) := by omega
     generalize l[k] = x at *
     unfold maxLen at hxm
     have hxs := yi x
     by_cases hbg : 32768 < x.length
     ·have hq := HC3.out hbg
      have hx2 : (32768 : Int) < (x.length : Int) := by omega
      have hx3 : (32768 : Int) < ((ByteArray.mk x.toArray).size : Int) := by rw [hxs]; omega
      have HQ := zvq hq
      clear hq
      go_wp2
      go_ret
      exact ⟨by rw [HQ.out]; rfl, rfl⟩
     ·have hx2 : ¬ (32768 : Int) < (x.length : Int) := by omega
      have hx3 : ¬ (32768 : Int) < ((ByteArray.mk x.toArray).size : Int) := by rw [hxs]; omega
      have HN2 := zvq (HNX.out (by omega))
      go_wp2
      go_round
      case rel => exact ⟨k + 1, by omega, by go_num, HN2.out⟩
      case measure => simp [intOf]; omega
    ·obtain rfl : k = l.length := by omega
     have HQ := zvq (HC0.out (fun j h => HPRE.out j h h))
     go_wp2
     go_ret
     exact ⟨by rw [HQ.out]; rfl, rfl⟩
def EncG (ls : List (List V.Bs)) (w : World) (e : Ending) (w' : World) : Prop :=
 (V.encE ls = 0 -> ∃ u, e = .returned (.tuple #[u, .int .i64 0]) /\ Buf w.heap.size u (V.doc ls) w w') /\ (¬ V.encE ls = 0 -> e = .returned (.tuple #[.slice none 0 0, .int .i64 (V.encE ls)])) /\ Below w.heap.size w w'
theorem V.encE_many {ls : List (List V.Bs)} (h : 1000 < ls.length) : V.encE ls = 3 := by unfold V.encE; rw [if_pos h]
theorem V.encE_bad {ls : List (List V.Bs)} (h : ¬ 1000 < ls.length) (hb : ¬ V.zw ls = 0) : V.encE ls = V.zw ls := by unfold V.encE; rw [if_neg h, if_neg hb]
theorem V.encE_big {ls : List (List V.Bs)} (h : ¬ 1000 < ls.length) (hb : V.zw ls = 0) (hs : 262144 < V.jl ls ls.length) : V.encE ls = 3 := by unfold V.encE; rw [if_neg h, if_pos hb, if_pos hs]
theorem V.encE_ok {ls : List (List V.Bs)} (h : ¬ 1000 < ls.length) (hb : V.zw ls = 0) (hs : ¬ 262144 < V.jl ls ls.length) : V.encE ls = 0 := by unfold V.encE; rw [if_neg h, if_pos hb, if_neg hs]
theorem z1j {P : Prop} (h : P := by
 go_wp2
 go_ret2
 exact ⟨fun h => (by rw [HE.out] at h; cases h), fun _ => by rw [HE.out]; rfl, zvt _ _⟩) : P := h
theorem zta (v : Value) (ls : List (List V.Bs)) (w : World) (hv : Lines w v ls) (hx : ∀ l ∈ ls, ∀ x ∈ l, x.length ≤ maxLen) :
  Calls Tryz.prog 27 #[v] w (EncG ls w) := by
 by_cases h1000 : 1000 < ls.length
 ·obtain ⟨va, vc, rfl, hat⟩ := hv
  have HE := zvq (V.encE_many h1000)
  have hn1 : (1000 : Int) < (ls.length : Int) := by omega
  clear hat hx
  go_enter Tryz.func27, Tryz.ntmps27
  exact z1j
 by_cases hok : V.zw ls = 0 /\ ¬ 262144 < V.jl ls ls.length
 ·have he := V.encE_ok h1000 hok.1 hok.2
  refine (zmg v ls w hv (V.zen he)).mono ?_
  rintro e w' ⟨u, rfl, hb⟩
  exact ⟨fun _ => ⟨u, rfl, hb⟩, fun h => absurd he h, hb.2.1⟩
 have HBIG : Hid (V.zw ls = 0 -> V.encE ls = 3 /\ 262144 < V.jl ls ls.length) := zvq (fun h => by
   have : 262144 < V.jl ls ls.length := Nat.lt_of_not_le fun e => hok ⟨h, by omega⟩
   exact ⟨V.encE_big h1000 h this, this⟩)
 have HBAD := zvq (V.encE_bad h1000 (ls := ls))
 have HL := zvq hv
 have HXL := zvq hx
 obtain ⟨va, vc, rfl, hat⟩ := hv
 have HA := zvq hat
 have hn : ls.length ≤ 1000 := by omega
 have hn1 : ¬ (1000 : Int) < (ls.length : Int) := by omega
 clear hat hok h1000 hx
 go_enter Tryz.func27, Tryz.ntmps27
 go_wp2
 go_loop [22] (fun iv => ∃ k : Nat, k ≤ ls.length /\ iv = .int .i64 k /\ V.zw ls = V.zw (ls.drop k)) (fun iv => ls.length - (intOf iv).toNat)
 case atStart => exact ⟨0, Nat.zero_le _, rfl, rfl⟩
 case round =>
  obtain ⟨k, hk, rfl, hfb⟩ := hrel
  have HFB := zvq hfb
  clear hfb
  by_cases hlt : k < ls.length
  ·obtain ⟨b, off, u, rfl, hb, hc, hs⟩ := HA.out k hlt
   have HX := zvq (HXL.out _ (List.getElem_mem hlt))
   have HAT := zvq (V.zim hlt HFB.out)
   have HS := zvq hs
   have hi1 : (0 : Int) ≤ (k : Int) := by omega
   have hi2 : (k : Int) < (ls.length : Int) := by omega
   generalize ls[k] = l at *
   clear hs
   go_wp2_with fail
   refine (zoa u l w HS.out HX.out).mono ?_
   rintro e w' ⟨rfl, rfl⟩
   by_cases hck : V.chk l = 0
   ·have HN := zvq (HAT.out.1 hck)
    clear HAT
    rw [hck]
    clear hck
    go_wp2
    go_round
    case rel => exact ⟨k + 1, by omega, by go_num, HN.out⟩
    case measure => simp [intOf]; omega
   ·have hf := HAT.out.2 hck
    have HE : Hid (V.encE ls = V.chk l) := zvq (by rw [HBAD.out (by rw [hf]; exact hck), hf])
    have hcb : (V.chk l == 0) = false := by rw [zvu]; exact hck
    have HCK := zvq hck
    clear hf HAT
    generalize V.chk l = ck at *
    go_wp2
    go_ret2
    exact ⟨fun h => (by rw [HE.out] at h; exact absurd h HCK.out), fun _ => by rw [HE.out]; rfl, zvt _ _⟩
  ·obtain rfl : k = ls.length := by omega
   have hz : V.zw ls = 0 := by rw [HFB.out, List.drop_length]; rfl
   have HE := zvq (HBIG.out hz)
   have HOK : Hid (∀ l ∈ ls, 0 < l.length /\ l.length ≤ 120 /\ ∀ w ∈ l, w.length ≤ 32768) := zvq (fun l hl => V.zcw.1 (V.ui.1 hz l hl))
   have hmax := V.ok_size hn HOK.out
   clear hz
   go_wp2
   go_loop [7, 34] (fun tv iv => ∃ k : Nat, k ≤ ls.length /\ iv = .int .i64 k /\ tv = .int .i64 (V.jl ls k : Nat)) (fun _ iv => ls.length - (intOf iv).toNat)
   case atStart => exact ⟨0, Nat.zero_le _, rfl, rfl⟩
   case round =>
    obtain ⟨k, hk, rfl, rfl⟩ := hrel
    have htot := V.zcq (j := k) hk (zvs ls.length)
    by_cases hlt : k < ls.length
    ·obtain ⟨b, off, u, rfl, hb, hc, hs⟩ := HA.out k hlt
     have HX := zvq (HOK.out _ (List.getElem_mem hlt))
     exact zv9
    ·obtain rfl : k = ls.length := by omega
     have hbig : (262144 : Int) < (V.jl ls ls.length : Int) := by have := HE.out.2; omega
     obtain ⟨q, hq⟩ : ∃ q, q = V.jl ls ls.length := ⟨_, rfl⟩
     rw [← hq] at hbig ⊢
     clear hlt hk htot hq
     go_wp2
     go_ret2
     exact ⟨fun h => (by rw [HE.out.1] at h; cases h), fun _ => by rw [HE.out.1]; rfl, zvt _ _⟩
def BufZ (N : Nat) (v : Value) (l : V.Bs) (W0 w : World) : Prop := w.ownsRow N 5 1 v l.length (bvals l) /\ Below N W0 w /\ N ≤ w.heap.size
theorem BufZ.buf {N : Nat} {v : Value} {l : V.Bs} {W0 w : World} (h : BufZ N v l W0 w) : Buf N v l W0 w := ⟨World.ownsRowF_of h.1, h.2⟩
theorem BufZ.nil {N : Nat} {W0 w : World} (h : Below N W0 w) (hN : N ≤ w.heap.size) : BufZ N (.slice none 0 0) [] W0 w := ⟨⟨by simp [bvals], .inl ⟨rfl, rfl⟩⟩, h, hN⟩
theorem BufZ.below {N : Nat} {v : Value} {l : V.Bs} {W0 w w' : World} (h : BufZ N v l W0 w) (hb : Below w.heap.size w w') : BufZ N v l W0 w' := by
 refine ⟨⟨h.1.1, ?_⟩, h.2.1.trans (hb.mono h.2.2), Nat.le_trans h.2.2 hb.size⟩
 rcases h.1.2 with e | ⟨g, cap, cur, e, h1, h2, h3⟩
 ·exact .inl e
 ·exact .inr ⟨g, cap, cur, e, h1, (hb.block g (Array.getElem?_eq_some_iff.1 h2).1).trans h2, h3⟩
theorem BufZ.slice {N : Nat} {v : Value} {l : V.Bs} {W0 w : World} (h : BufZ N v l W0 w) : ∃ a cap, v = .slice a l.length cap := h.buf.slice
theorem BufZ.grown {N : Nat} {v v' : Value} {l l' : V.Bs} {W0 w w' : World} (h : BufZ N v l W0 w) (ho : w'.ownsRow N 5 1 v' l'.length (bvals l')) (hg : w.grownBy w' v.ownBlock) : BufZ N v' l' W0 w' :=
 ⟨ho, h.2.1.grown hg h.2.2 (fun k hk => (h.buf.1.lt k hk).1), Nat.le_trans h.2.2 hg.size⟩
theorem zm4 {ops : Array Oper} {rest : List Oper} {o : Oper} {a : Act} {w : World} {Q : Exit -> Act -> World -> Prop} (hgd : o.guard = none) (s x : Operand)
  (ho : o.op = .call { callee := .builtin .append, args := #[s, x], argTypes := #[36, 36] })
  (N : Nat) (v : Value) (l : V.Bs) (W0 : World) (hs : a.eval s = v) (hb : BufZ N v l W0 w) (b cap : Nat) (m : V.Bs) (hx : a.eval x = .slice (some ⟨b, 0, none⟩) m.length cap) (hc : ∀ j u, (bvals m)[j]? = some u -> w.cell? ⟨b, j, none⟩ = some u) (hl : l.length + m.length ≤ 10000000)
  (h : ∀ v' w', BufZ N v' (l ++ m) W0 w' -> wpList Tryz.prog ops Q rest (a.put o.dst v') w') : wpList Tryz.prog ops Q (o :: rest) a w := by
 obtain ⟨i, hi, hz, h1, h2⟩ := ww
 refine wpList_append_own w hgd s x 36 ho N 5 i (.int .u8 0) 1 1 Tryz.underlying36 hi hz h1 h2 rfl (by decide) v l.length (bvals l) hs hb.1 ⟨b, 0, none⟩ m.length cap (bvals m) hx (by rw [zg6]; omega) ?_ ?_ (by unfold maxLen; omega) (by omega) hb.2.2 ?_
 ·intro j u hj
  have := hc j u hj
  rw [Addr.add_mid, Nat.zero_add]
  exact this
 ·intro u hu
  unfold bvals at hu
  obtain ⟨c, _, rfl⟩ := List.mem_map.1 hu
  rfl
 ·intro v' w' ho' hg _
  rw [zfp] at ho'
  exact h v' w' (hb.grown (by rw [List.length_append]; exact ho') hg)
theorem zp9 {ops : Array Oper} {rest : List Oper} {o : Oper} {a : Act} {w : World} {Q : Exit -> Act -> World -> Prop} (hgd : o.guard = none) (s x : Operand)
  (ho : o.op = .call { callee := .builtin .append, args := #[s, x], argTypes := #[36, 9] })
  (N : Nat) (v : Value) (l : V.Bs) (W0 : World) (hs : a.eval s = v) (hb : BufZ N v l W0 w) (m : V.Bs) (hx : a.eval x = .string ⟨m.toArray⟩) (hl : l.length + m.length ≤ 10000000)
  (h : ∀ v' w', BufZ N v' (l ++ m) W0 w' -> wpList Tryz.prog ops Q rest (a.put o.dst v') w') : wpList Tryz.prog ops Q (o :: rest) a w := by
 obtain ⟨i, hi, hz, h1, h2⟩ := ww
 have hsz : (ByteArray.mk m.toArray).size = m.length := by simp [ByteArray.size]
 refine Lib.wpList_append_own_string w hgd s x 36 9 ho N 5 i Tryz.underlying36 Tryz.underlying9 hi hz h1 h2 v l.length (bvals l) hs hb.1 ⟨m.toArray⟩ hx (by rw [hsz]; unfold maxLen; omega) (by rw [hsz]; omega) hb.2.2 ?_
 intro v' w' ho' hg _
 rw [zny, hsz] at ho'
 exact h v' w' (hb.grown (by rw [List.length_append]; exact ho') hg)
def EncZ (ls : List (List V.Bs)) (w : World) (e : Ending) (w' : World) : Prop :=
 (V.encE ls = 0 -> ∃ u, e = .returned (.tuple #[u, .int .i64 0]) /\ BufZ w.heap.size u (V.doc ls) w w') /\ (¬ V.encE ls = 0 -> e = .returned (.tuple #[.slice none 0 0, .int .i64 (V.encE ls)])) /\ Below w.heap.size w w'
open Go.RowKit
theorem zyw {P : Prop} (h : P := by
 go_wp2
 go_ret2
 exact ⟨fun h => (by rw [HE.out] at h; cases h), fun _ => by rw [HE.out]; rfl, HBE.out⟩) : P := h
theorem zh7 (v : Value) (ls : List (List V.Bs)) (w : World) (hv : Lines w v ls) (hx : ∀ l ∈ ls, ∀ x ∈ l, x.length ≤ maxLen) (hsz : V.jl ls ls.length ≤ 9000000) :
  Calls Tryz.prog 21 #[v] w (EncZ ls w) := by
 obtain ⟨va, vc, rfl, hat⟩ := hv
 have HA := zvq hat
 by_cases h1000 : 1000 < ls.length
 ·have HE := zvq (V.encE_many h1000)
  have hn1 : (1000 : Int) < (ls.length : Int) := by omega
  clear hat hx
  go_enter Tryz.func21, Tryz.ntmps21
  exact z1j
 have HXL := zvq hx
 have hmax := hsz
 have hn1 : ¬ (1000 : Int) < (ls.length : Int) := by omega
 have HBAD := zvq (V.encE_bad h1000 (ls := ls))
 have HBIG := zvq (V.encE_big h1000 (ls := ls))
 have HOKE := zvq (V.encE_ok h1000 (ls := ls))
 clear hat hx hsz
 go_enter Tryz.func21, Tryz.ntmps21
 go_wp2
 go_loopw [4, 5] (fun ov iv wx => ∃ k : Nat, k ≤ ls.length /\ iv = .int .i64 k /\ BufZ w.heap.size ov (V.zbx ls k) w wx /\ V.zw ls = V.zw (ls.drop k) /\ (∀ j (h : j < ls.length), j < k -> V.chk ls[j] = 0)) (fun _ iv _ => ls.length - (intOf iv).toNat)
 case atStart => exact ⟨0, Nat.zero_le _, rfl, BufZ.nil (zvt _ _) (zvs _), rfl, fun j h hj => absurd hj (by omega)⟩
 case round =>
  obtain ⟨k, hk, rfl, hbuf, hfb, hpre⟩ := hrel
  have HB := zvq hbuf
  obtain ⟨oa, oc, rfl⟩ := hbuf.slice
  have HFB := zvq hfb
  have HPRE := zvq hpre
  have hlen0 : (V.zbx ls k).length = V.jl ls k := V.docTo_len2 k hk (fun j h hj => (V.zcw.1 (hpre j h hj)).1)
  clear hbuf hfb hpre
  by_cases hlt : k < ls.length
  ·have HST := zvq (V.zc8 hlt)
   have hds := V.ym hlt
   have hle0 := V.zcq (ls := ls) (j := k + 1) (by omega) (zvs ls.length)
   have hlen1 : (V.zbx ls k).length + V.jc ls[k] ls[k].length ≤ 9000000 := by omega
   have HAT := zvq (V.zim hlt HFB.out)
   have HPN : Hid (V.chk ls[k] = 0 -> ∀ j (h : j < ls.length), j < k + 1 -> V.chk ls[j] = 0) := zvq (fun e j h hj => by
     rcases Nat.lt_or_ge j k with g | g
     · exact HPRE.out j h g
     · obtain rfl : j = k := by omega
       exact e)
   clear hds hle0 hlen0
   obtain ⟨b, off, u, rfl, hb0, hc0, hs⟩ := HA.out k hlt
   have hc := (HB.out.2.1.cell (p := ⟨b, off + k, none⟩) hb0).trans hc0
   have HC0 := zvq (And.intro hb0 hc0)
   have HS := zvq hs
   obtain ⟨ua, uc, rfl, _⟩ := hs
   clear hb0 hc0
   have HX := zvq (HXL.out _ (List.getElem_mem hlt))
   have hi1 : (0 : Int) ≤ (k : Int) := by omega
   have hi2 : (k : Int) < (ls.length : Int) := by omega
   have HLN : Hid (V.line ls[k] = V.jr ls[k] ls[k].length ++ [10]) := zvq rfl
   obtain ⟨A, hA⟩ : ∃ A, A = V.zbx ls k := ⟨_, rfl⟩
   rw [← hA] at HST hlen1 HB ⊢
   generalize ls[k] = l at *
   clear hA
   by_cases hx0 : l.length = 0
   ·have HC : Hid (V.chk l = 1) := zvq (by unfold V.chk; rw [if_pos hx0])
    have HE : Hid (V.encE ls = 1) := zvq (by
      have hf := HAT.out.2 (by rw [HC.out]; decide)
      rw [HBAD.out (by rw [hf, HC.out]; decide), hf, HC.out])
    have hq0 : ((l.length : Int) == 0) = true := by rw [hx0]; rfl
    have HBE := zvq HB.out.2.1
    exact zyw
   have hq0 : ((l.length : Int) == 0) = false := by rw [zvu]; omega
   by_cases hx1 : 120 < l.length
   ·have HC : Hid (V.chk l = 3) := zvq (by unfold V.chk; rw [if_neg hx0, if_pos hx1])
    have HE : Hid (V.encE ls = 3) := zvq (by
      have hf := HAT.out.2 (by rw [HC.out]; decide)
      rw [HBAD.out (by rw [hf, HC.out]; decide), hf, HC.out])
    have hq1 : (120 : Int) < (l.length : Int) := by omega
    have HBE := zvq HB.out.2.1
    exact zyw
   have hq1 : ¬ (120 : Int) < (l.length : Int) := by omega
   have hll := V.zgj (l := l) (by omega)
   have HLONG : Hid (∀ j (h : j < l.length), 32768 < l[j].length -> V.encE ls = 3) := zvq (fun j h hj => by
     have hc3 : V.chk l = 3 := by
       unfold V.chk
       rw [if_neg hx0, if_neg hx1, if_neg]
       intro e
       rw [List.all_eq_true] at e
       have := e _ (List.getElem_mem h)
       simp at this
       omega
     have hf := HAT.out.2 (by rw [hc3]; decide)
     rw [HBAD.out (by rw [hf, hc3]; decide), hf, hc3])
   have HFINE : Hid ((∀ j (h : j < l.length), l[j].length ≤ 32768) -> V.chk l = 0) := zvq (fun h => by
     unfold V.chk
     rw [if_neg hx0, if_neg hx1, if_pos]
     rw [List.all_eq_true]
     intro x hx
     obtain ⟨j, hj, rfl⟩ := List.mem_iff_getElem.1 hx
     simpa using h j hj)
   go_wp2
   clear hc hq0 hq1
   go_loopw [4, 6] (fun ov iv wx => ∃ j : Nat, j ≤ l.length /\ iv = .int .i64 j /\ BufZ w.heap.size ov (A ++ V.jr l j) w wx /\ (∀ i (h : i < l.length), i < j -> l[i].length ≤ 32768)) (fun _ iv _ => l.length - (intOf iv).toNat)
   case atStart => exact ⟨0, Nat.zero_le _, rfl, by rw [show V.jr l 0 = [] from rfl, List.append_nil]; exact HB.out, fun i h hi => absurd hi (by omega)⟩
   case round =>
    obtain ⟨j, hj, rfl, hbuf, hpw⟩ := hrel
    have HB2 := zvq hbuf
    have HPW := zvq hpw
    clear hpw
    obtain ⟨oa2, oc2, rfl⟩ := hbuf.slice
    have hc := (HB2.out.2.1.cell (p := ⟨b, off + k, none⟩) HC0.out.1).trans HC0.out.2
    clear hbuf HB
    by_cases hjl : j < l.length
    ·obtain ⟨ua2, uc2, e2, hat2⟩ := HS.out
     cases e2
     obtain ⟨b2, off2, rfl, hb2, hc0⟩ := hat2 j hjl
     have hc2 := (HB2.out.2.1.cell (p := ⟨b2, off2 + j, none⟩) hb2).trans hc0
     have HC2 := zvq (And.intro hb2 hc0)
     have hxm := HX.out _ (List.getElem_mem hjl)
     have HLG := zvq (HLONG.out j hjl)
     have HPX : Hid (l[j].length ≤ 32768 -> ∀ i (h : i < l.length), i < j + 1 -> l[i].length ≤ 32768) := zvq (fun e i h hi => by
       rcases Nat.lt_or_ge i j with g | g
       · exact HPW.out i h g
       · obtain rfl : i = j := by omega
         exact e)
     have hj1 : (0 : Int) ≤ (j : Int) := by omega
     have hj2 : (j : Int) < (l.length : Int) := by omega
     have HT2 := zvq (V.zan l j)
     have hg : l.getD j [] = l[j] := by rw [List.getD_eq_getElem?_getD, List.getElem?_eq_getElem hjl]; rfl
     rw [hg] at HT2
     have hlen2 : A.length + (V.jr l j).length ≤ 9000001 := by
      have h1 := (V.zbk (l := l) j hj).1
      have h2 := V.zbh (l := l) hj (zvs l.length)
      omega
     obtain ⟨M, hM⟩ : ∃ M, M = A ++ V.jr l j := ⟨_, rfl⟩
     have HM := zvq hM
     have hml : M.length ≤ 9000001 := by rw [hM, List.length_append]; exact hlen2
     rw [← hM] at HB2 ⊢
     generalize l[j] = x at *
     have hxs := yi x
     unfold maxLen at hxm
     by_cases hbg : 32768 < x.length
     ·have HE := zvq (HLG.out hbg)
      have hx2 : (32768 : Int) < (x.length : Int) := by omega
      have hx3 : (32768 : Int) < ((ByteArray.mk x.toArray).size : Int) := by rw [hxs]; omega
      have HBE := zvq HB2.out.2.1
      exact zyw
     have hx : x.length ≤ 32768 := by omega
     have HPY := zvq (HPX.out hx)
     have hx2 : ¬ (32768 : Int) < (x.length : Int) := by omega
     have hx3 : ¬ (32768 : Int) < ((ByteArray.mk x.toArray).size : Int) := by rw [hxs]; omega
     clear hat2 hc0 hM hg hlen2 hb2
     by_cases hj0 : j = 0
     ·subst hj0
      rw [Nat.add_zero] at hc2
      go_wp2_with fail
      refine (zh0 x wr (by omega)).mono ?_
      rintro e w3 ⟨rfl, hb3⟩
      have HB3 := zvq (HB2.out.below hb3)
      have hwl := V.vm x
      have hwl2 := V.xk x
      clear hb3 HB2
      go_wp2_with (first | (refine zp9 rfl _ _ rfl w.heap.size (.slice oa2 M.length oc2) M w rfl HB3.out (V.word x) rfl (by omega) ?_; intro v9 w9 hb9) | fail)
      have HB9 := zvq hb9
      clear hb9 hwl hwl2
      go_wp2
      go_roundw
      case rel => exact ⟨0 + 1, by omega, by go_num, by
        have := HB9.out
        rw [HM.out, List.append_assoc] at this
        rw [HT2.out]
        exact this, HPY.out⟩
      case measure => simp [intOf]; omega
     ·have hjp : (0 : Int) < (j : Int) := by omega
      have hb4 : Below wr.heap.size wr (wr.alloc (.cells #[.int .u8 32] 5)) := (zvt _ wr).alloc (zvs _) _
      have HB4 := zvq (HB2.out.below hb4)
      have HBN := zvq (ku [32] wr)
      clear hb4
      go_wp2_with (first | (refine zm4 rfl _ _ rfl w.heap.size (.slice oa2 M.length oc2) M w rfl HB4.out wr.heap.size 1 [32] rfl HBN.out (by simp; omega) ?_; intro v5 w5 hb5; have hc5 := (hb5.2.1.cell (p := ⟨b, off + k, none⟩) HC0.out.1).trans HC0.out.2; have hc6 := (hb5.2.1.cell (p := ⟨b2, off2 + j, none⟩) HC2.out.1).trans HC2.out.2) | fail)
      replace HB2 := zvq hb5
      clear hb5 HB4 HBN hc2 hc
      refine (zh0 x w5 (by omega)).mono ?_
      rintro e w3 ⟨rfl, hb3⟩
      have HB3 := zvq (HB2.out.below hb3)
      have hwl := V.vm x
      have hwl2 := V.xk x
      clear hb3 HB2
      go_wp2_with (first | (refine zp9 rfl _ _ rfl w.heap.size v5 (M ++ [32]) w rfl HB3.out (V.word x) rfl (by simp; omega) ?_; intro v9 w9 hb9) | fail)
      have HB9 := zvq hb9
      clear hb9 hwl hwl2
      go_wp2
      go_roundw
      case rel => exact ⟨j + 1, by omega, by go_num, by
        have := HB9.out
        rw [HM.out, List.append_assoc, List.append_assoc] at this
        rw [HT2.out, if_neg hj0]
        exact this, HPY.out⟩
      case measure => simp [intOf]; omega
    ·obtain rfl : j = l.length := by omega
     have HFN : Hid (V.zw ls = V.zw (ls.drop (k + 1)) /\ (∀ j (h : j < ls.length), j < k + 1 -> V.chk ls[j] = 0)) := zvq (by
       have := HFINE.out (fun i h => HPW.out i h h)
       exact ⟨HAT.out.1 this, HPN.out this⟩)
     have hlen3 : (A ++ V.jr l l.length).length ≤ 9000001 := by rw [List.length_append]; have h1 := (V.zbk (l := l) l.length (zvs _)).1; omega
     have hA10 : A ++ V.line l = (A ++ V.jr l l.length) ++ [10] := by rw [HLN.out, List.append_assoc]
     rw [hA10] at HST
     obtain ⟨M, hM⟩ : ∃ M, M = A ++ V.jr l l.length := ⟨_, rfl⟩
     rw [← hM] at HB2 HST hlen3 ⊢
     have hb4 : Below wr.heap.size wr (wr.alloc (.cells #[.int .u8 10] 5)) := (zvt _ wr).alloc (zvs _) _
     have HB4 := zvq (HB2.out.below hb4)
     have HBN := zvq (ku [10] wr)
     clear hb4 hA10 hM HB2
     go_wp2_with (first | (refine zm4 rfl _ _ rfl w.heap.size (.slice oa2 M.length oc2) M w rfl HB4.out wr.heap.size 1 [10] rfl HBN.out (by simp; omega) ?_; intro v5 w5 hb5) | fail)
     have HB5 := zvq hb5
     clear hb5 HB4 HBN
     go_wp2
     go_roundw
     case rel => exact ⟨k + 1, by omega, by go_num, by rw [HST.out]; exact HB5.out, HFN.out.1, HFN.out.2⟩
     case measure => simp [intOf]; omega
  ·obtain rfl : k = ls.length := by omega
   have hfz : V.zw ls = 0 := by rw [HFB.out, List.drop_length]; rfl
   rw [V.ze0] at HB hlen0 ⊢
   by_cases hbg : 262144 < (V.doc ls).length
   ·have HE := zvq (HBIG.out hfz (by omega))
    have hbig : (262144 : Int) < ((V.doc ls).length : Int) := by omega
    have HBE := zvq HB.out.2.1
    clear hfz
    exact zyw
   ·have HE := zvq (HOKE.out hfz (by omega))
    have hbig : ¬ (262144 : Int) < ((V.doc ls).length : Int) := by omega
    clear hfz hlen0
    go_wp2
    go_ret2
    exact ⟨fun _ => ⟨.slice oa (V.doc ls).length oc, rfl, HB.out⟩, fun h => absurd HE.out h, HB.out.2.1⟩
theorem zh3 (v : Value) (ls : List (List V.Bs)) (w : World) (hv : Lines w v ls) (hx : ∀ l ∈ ls, ∀ x ∈ l, x.length ≤ maxLen) (hsz : V.jl ls ls.length ≤ 9000000) :
  Calls Tryz.prog 21 #[v] w (EncG ls w) := by
 refine (zh7 v ls w hv hx hsz).mono ?_
 intro e w' h
 refine ⟨fun hz => ?_, h.2⟩
 obtain ⟨u, he, hb⟩ := h.1 hz
 exact ⟨u, he, hb.buf⟩
end Go.Proofs.YtiloljoancdcbaaGreatDoor
