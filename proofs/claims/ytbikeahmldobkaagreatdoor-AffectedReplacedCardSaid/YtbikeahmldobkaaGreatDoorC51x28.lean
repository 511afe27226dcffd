/-
  Lemmas for the law.
-/
import Derived.Test.YtbikeahmldobkaaGreatDoorC51x27
import Derived.Test.YtbikeahmldobkaaGreatDoorC51x24
import Derived.Test.YtbikeahmldobkaaGreatDoorC51x25
import Derived.Test.YtbikeahmldobkaaGreatDoorC51x04
import Derived.Deep.DeepCutAuto
set_option linter.all false
set_option maxRecDepth 100000
set_option maxHeartbeats 6400000
namespace Go.Proofs.YtbikeahmldobkaaGreatDoor
open Go.RowKit
namespace V
theorem zql {p q : Prop} (h : ¬ (¬ p /\ q)) : p ∨ ¬ q := by
 by_cases hp : p
 ·exact .inl hp
 ·exact .inr (fun hq => h ⟨hp, hq⟩)
def jp (l : List (List Int)) : Nat -> List (List Int)
 | 0 => []
 | m + 1 => jp l m ++ match l[m]? with | some x => (if m = 0 ∨ l[m - 1]? ≠ some x then [x] else []) | none => []
theorem zcj {l : List (List Int)} {m : Nat} (h : m < l.length) (hn : m = 0 ∨ l[m - 1]? ≠ some l[m]) : jp l (m + 1) = jp l m ++ [l[m]] := by
 rw [jp, List.getElem?_eq_getElem h]
 simp only
 rw [if_pos hn]
theorem za2 {l : List (List Int)} {m : Nat} (h : m < l.length) (h0 : m ≠ 0) (e : l[m - 1]? = some l[m]) : jp l (m + 1) = jp l m := by
 rw [jp, List.getElem?_eq_getElem h]
 simp only
 rw [if_neg (fun q => q.elim h0 (fun q => q e)), List.append_nil]
theorem zba {l : List (List Int)} : ∀ {m : Nat}, m ≤ l.length -> (∀ j (hj : j < l.length), 1 ≤ j -> j < m -> l[j - 1]? ≠ some l[j]) -> jp l m = l.take m
 | 0, _, _ => by simp [jp]
 | m + 1, hm, h => by
  rw [zcj (by omega) (zql (fun q => h m (by omega) (Nat.pos_of_ne_zero q.1) (by omega) q.2)), zba (by omega) (fun j hj h1 h2 => h j hj h1 (by omega)), List.take_succ_eq_append_getElem (by omega)]
theorem zco {l : List (List Int)} {x : List Int} : ∀ {m : Nat}, x ∈ jp l m ↔ ∃ j, j < m /\ l[j]? = some x
 | 0 => by simp [jp]
 | m + 1 => by
  have ih := zco (l := l) (x := x) (m := m)
  by_cases h : m < l.length
  ·by_cases e : m ≠ 0 /\ l[m - 1]? = some l[m]
   ·rw [za2 h e.1 e.2, ih]
    constructor
    ·rintro ⟨j, hj, hx⟩; exact ⟨j, by omega, hx⟩
    ·rintro ⟨j, hj, hx⟩
     by_cases q : j = m
     ·subst q
      refine ⟨j - 1, by omega, ?_⟩
      rw [e.2, ← List.getElem?_eq_getElem h]; exact hx
     ·exact ⟨j, by omega, hx⟩
   ·rw [zcj h (zql e), List.mem_append, ih, List.mem_singleton]
    constructor
    ·rintro (⟨j, hj, hx⟩ | rfl)
     ·exact ⟨j, by omega, hx⟩
     ·exact ⟨m, by omega, List.getElem?_eq_getElem h⟩
    ·rintro ⟨j, hj, hx⟩
     by_cases q : j = m
     ·subst q
      rw [List.getElem?_eq_getElem h] at hx
      exact .inr (Option.some.inj hx).symm
     ·exact .inl ⟨j, by omega, hx⟩
  ·have hn : l[m]? = none := List.getElem?_eq_none (by omega)
   rw [jp, hn, List.append_nil, ih]
   constructor
   ·rintro ⟨j, hj, hx⟩; exact ⟨j, by omega, hx⟩
   ·rintro ⟨j, hj, hx⟩
    by_cases q : j = m
    ·subst q; rw [hn] at hx; cases hx
    ·exact ⟨j, by omega, hx⟩
theorem zjy {l : List (List Int)} (hs : l.Pairwise fun a b => ¬ cmpI b a < 0) : ∀ {m : Nat}, m ≤ l.length -> AscC cmpI (jp l m)
 | 0, _ => List.Pairwise.nil
 | m + 1, hm => by
  have ih := zjy hs (m := m) (by omega)
  have h : m < l.length := by omega
  by_cases e : m ≠ 0 /\ l[m - 1]? = some l[m]
  ·rw [za2 h e.1 e.2]; exact ih
  ·rw [zcj h (zql e)]
   refine List.pairwise_append.2 ⟨ih, List.pairwise_singleton _ _, fun x hx y hy => ?_⟩
   rw [List.mem_singleton] at hy
   subst hy
   obtain ⟨j, hj, hx⟩ := zco.1 hx
   have g1 : j < l.length := by omega
   rw [List.getElem?_eq_getElem g1] at hx
   have hx := Option.some.inj hx
   subst hx
   have hp := List.pairwise_iff_getElem.1 hs
   have g0 : m - 1 < l.length := by omega
   have g2 : l[m - 1] ≠ l[m] := fun q => e ⟨by omega, by rw [List.getElem?_eq_getElem g0, q]⟩
   have h1 := hp (m - 1) m g0 h (by omega)
   have h2 : cmpI l[m - 1] l[m] < 0 := by
    have a1 := zbu l[m - 1] l[m]
    have a2 : cmpI l[m - 1] l[m] ≠ 0 := fun q => g2 ((ux _ _).1 q)
    omega
   by_cases q : j = m - 1
   ·subst q; exact h2
   ·have h3 := hp j (m - 1) g1 g0 (by omega)
    by_cases r : cmpI l[j] l[m - 1] = 0
    ·rw [(ux _ _).1 r]; exact h2
    ·have a1 := zbu l[j] l[m - 1]
     exact zat _ _ _ (by omega) h2
theorem zp9 {l xs : List (List Int)} (hp : l.Perm xs) (hs : l.Pairwise fun a b => ¬ cmpI b a < 0) : jp l l.length = zbj cmpI [] xs :=
 zh3 zda (zjy hs (zva _)) (zb2 zda List.Pairwise.nil) fun x => by
  rw [zco, zbz, ← hp.mem_iff]
  constructor
  ·rintro ⟨j, _, h⟩; exact .inr (List.mem_of_getElem? h)
  ·rintro (h | h)
   ·simp at h
   ·obtain ⟨j, hj, e⟩ := List.mem_iff_getElem.1 h
    exact ⟨j, hj, by rw [List.getElem?_eq_getElem hj, e]⟩
end V
theorem ztx {ops : Array Oper} {rest : List Oper} {o : Oper} {a : Act} {w : World} {Q : Exit -> Act -> World -> Prop} (g5 : o.guard = none) (x : Operand) (ho : o.op = .call { callee := .builtin .clear, args := #[x], argTypes := #[55] })
  (g cap n m : Nat) (l : List (List Int)) (hr : ERow 26 32 dE w g l) (hn : n + m = l.length) (g7 : 0 < n) (hx : a.eval x = .slice (some ⟨g, m * 32, none⟩) n cap)
  (h : ∀ W, ERow 26 32 dE W g (l.take m) -> w.grownBy W (some g) -> wpList Tryz.prog ops Q rest (a.put o.dst (.tuple #[])) W) : wpList Tryz.prog ops Q (o :: rest) a w := by
 obtain ⟨z, hz⟩ : ∃ z : Array Value, z = (dE []).toArray := ⟨_, rfl⟩
 have g6 : ∀ w, (zeroValue 26).run Tryz.prog w = .ok (.agg z) w := by
  intro w; rw [hz]; exact Tryz.zeroValue26 w
 have g3 : ∀ v ∈ (Builtin.zeroCells z n).toList, v.oneCell' = true := fun v hv => by
  unfold Builtin.zeroCells at hv
  rw [Array.mem_toList_iff, Array.mem_map] at hv
  obtain ⟨i, _, rfl⟩ := hv
  have hs : z.size = 32 := by rw [hz]; simp [dE]
  rw [getElem!_pos _ _ (by rw [hs]; omega)]
  subst hz
  exact zbd [] _ (by simp)
 have g0 : (Builtin.zeroCells z n).toList.length = n * 32 := by
  unfold Builtin.zeroCells
  rw [hz]; simp [dE]
 have g4 : (Builtin.clear_ #[55] o.type #[.slice (some ⟨g, m * 32, none⟩) n cap]).run Tryz.prog w = .ok (.tuple #[]) (w.setCells g (m * 32) (Builtin.zeroCells z n).toList) := by
  have g1 : ∀ j, j < n * 32 -> (w.cell? ⟨g, m * 32 + j, none⟩).isSome = true /\ w.frozen? ⟨g, m * 32 + j, none⟩ = false := fun j hj => by
   obtain ⟨cs, hg, hs, _⟩ := hr
   exact zxj
  have g2 := run_storeCells_cells (P := Tryz.prog) g (m * 32) (Builtin.zeroCells z n).toList 0 w (fun j hj => (g1 j (by rw [g0] at hj; exact hj)).1) (fun j hj => (g1 j (by rw [g0] at hj; exact hj)).2) g3
  simp only [Nat.add_zero] at g2
  obtain ⟨n', rfl⟩ : ∃ n', n = n' + 1 := ⟨n - 1, by omega⟩
  simp [Builtin.clear_, run_underlying Tryz.underlying55, g6, g2, Value.cells]
 refine wpList_plain g5 fun K hK => ?_
 unfold Oper.wp execOp
 simp only [ho, resolve, invoke, builtin, Sem.run_bind, Sem.run_pure, Result.andThen_ok, List.map_toArray, List.map_cons, List.map_nil, hx, g4]
 exact hK _ _ (h _ (hr.tail kw (by omega) _) (yu g _ _ w))
theorem ztp (g cap : Nat) (l : List (List Int)) (w : World) (h : ERow 26 32 dE w g l) (hw : ∀ d ∈ l, qh d) (hl : l.length ≤ 1000) (k5 : l.length ≤ cap) :
  Calls Tryz.prog 72 #[.slice (some ⟨g, 0, none⟩) l.length cap] w fun e w' => e = .returned (.slice (some ⟨g, 0, none⟩) (V.jp l l.length).length cap) /\ ERow 26 32 dE w' g (V.jp l l.length) /\ w.grownBy w' (some g) := by
 have HR := zu8 h
 have HW := zu8 hw
 clear h hw
 by_cases h2 : l.length < 2
 ·have HE : Hid (V.jp l l.length = l) := zu8 (by rw [V.zba (zva _) (fun j hj h1 _ => by omega), List.take_length])
  go_enter Tryz.func72, Tryz.ntmps72
  go_wp2
  go_ret
  exact ⟨by rw [HE.out]; rfl, by rw [HE.out]; exact HR.out, xm w _⟩
 ·have k7 : ¬ (l.length : Int) < 2 := by omega
  obtain ⟨n, hn⟩ : ∃ n, n = l.length := ⟨_, rfl⟩
  have HN := zu8 hn
  rw [← hn] at hl k5 h2 k7 ⊢
  clear hn
  go_enter Tryz.func72, Tryz.ntmps72
  go_wp2_with fail
  go_loopw [3] (fun kv wx => ∃ k : Nat, 1 ≤ k /\ k ≤ n /\ kv = .int .i64 k /\ Below w.heap.size w wx /\ (∀ j (hj : j < l.length), 1 ≤ j -> j < k -> l[j - 1]? ≠ some l[j])) (fun kv _ => n - (intOf kv).toNat)
  case atStart => exact ⟨1, zva _, by omega, rfl, zvb _ _, fun j _ h1 hj => absurd hj (by omega)⟩
  case round =>
   obtain ⟨k, q4, q5, rfl, j7, j8⟩ := hrel
   have HBX := zu8 j7
   have HE := zu8 j8
   clear j7 j8
   obtain ⟨m, hm⟩ : ∃ m, k = m + 1 := ⟨k - 1, by omega⟩
   have HK := zu8 hm
   have hkm : (k : Int) - 1 = (m : Int) := by omega
   have k8 : IntKind.i64.wrap (m : Int) = (m : Int) := IntWalk.i64_in _ (by omega)
   clear hm
   by_cases hlt : k < n
   ·have h7 : k < l.length := by rw [← HN.out]; exact hlt
    have h0 : m < l.length := by have := HK.out; omega
    have HX := zu8 (HW.out _ (List.getElem_mem h7))
    have HY := zu8 (HW.out _ (List.getElem_mem h0))
    have g4 : Hid (wr.drew.rangeAt g (k * 32) (zn l[k])) := zu8 (by rw [← zf6 HX.out]; exact ((HR.out.below HBX.out).below (zvb _ wr).drew).at kw h7)
    have g5 : Hid (wr.drew.rangeAt g (m * 32) (zn l[m])) := zu8 (by rw [← zf6 HY.out]; exact ((HR.out.below HBX.out).below (zvb _ wr).drew).at kw h0)
    have j9 := zu8 ((HR.out.below HBX.out).below (zvb _ wr).drew)
    have HBD := zu8 HBX.out.drew
    have q6 : (0 : Int) ≤ (k : Int) := by omega
    have q7 : (k : Int) < (n : Int) := by omega
    have q8 : (0 : Int) ≤ (m : Int) := by omega
    have q9 : (m : Int) < (n : Int) := by omega
    have g2 : Hid (l[m] = l[k] -> V.jp l (k + 1) = l.take k) := zu8 (fun e => by
      have k9 : k ≠ 0 := by omega
      rw [V.za2 h7 k9 (by rw [show k - 1 = m by have := HK.out; omega, List.getElem?_eq_getElem h0, e]), V.zba (by omega) HE.out])
    have HNE : Hid (l[m] ≠ l[k] -> ∀ j (hj : j < l.length), 1 ≤ j -> j < k + 1 -> l[j - 1]? ≠ some l[j]) := zu8 (fun e j hj h1 h3 => by
      by_cases q : j = k
      · subst q
        rw [show j - 1 = m by have := HK.out; omega, List.getElem?_eq_getElem h0]
        intro r; exact e (Option.some.inj r)
      · exact HE.out j hj h1 (by omega))
    generalize l[k] = x at *
    generalize l[m] = y at *
    go_wp2
    refine wp_region_still_lit (by kernel_rfl) (by kernel_rfl) ?_
    still_step
    still_step
    still_step
    refine wpStill_step (fun K hK => ?_)
    refine ku rfl (.tmp 18) rfl g (k * 32) rfl x HX.out g4.out (hK _ ?_)
    clear hK K
    still_step
    still_step
    still_step
    still_step
    refine wpStill_step (fun K hK => ?_)
    refine ku rfl (.tmp 23) rfl g (m * 32) rfl y HY.out g5.out (hK _ ?_)
    clear hK K
    refine wpStill_step (fun K hK => ?_)
    refine zj8 rfl (.tmp 19) (.tmp 24) rfl x y HX.out HY.out rfl rfl (hK _ ?_)
    clear hK K
    refine wpStill_nil ?_
    change Exit.then _ _ _ _ wr.drew
    clear g4 g5 k8 hkm
    by_cases hxy : x = y
    ·rw [decide_eq_true hxy]
     have HS := zu8 (g2.out hxy.symm)
     clear hxy g2 HNE
     have v0 : cap ≠ k := by omega
     have v1 : (k : Int) ≤ (n : Int) := by omega
     go_wp2_with fail
     go_loopw [3, 5] (fun kv iv wx => ∃ (q r : Nat) (cur : List (List Int)), 1 ≤ r /\ k + r ≤ n /\ q + 1 ≤ k + r /\ kv = .int .i64 q /\ iv = .int .i64 r /\ cur.length = l.length /\ ERow 26 32 dE wx g cur /\ cur.take q = V.jp l (k + r) /\ (∀ j (h : j < cur.length) (h' : j < l.length), k + r ≤ j + 1 -> cur[j] = l[j]) /\ w.grownBy wx (some g)) (fun _ iv _ => n - (intOf iv).toNat)
     case atStart => exact ⟨k, 1, l, zva _, by omega, zva _, rfl, rfl, rfl, j9.out, HS.out.symm, fun _ _ _ _ => rfl, zm HBD.out _⟩
     case round =>
      clear j9 HBD HBX HE HX HY
      obtain ⟨q, r, cur, v2, v3, hq, rfl, rfl, k0, h8, k1, h4, k2⟩ := hrel
      have g3 := zu8 h8
      have HTK := zu8 k1
      have g0 := zu8 h4
      have h9 := zu8 k2
      have g1 := zu8 k0
      clear h8 k1 h4 k2 k0
      obtain ⟨s, hs⟩ : ∃ s, r = s + 1 := ⟨r - 1, by omega⟩
      have h5 := zu8 hs
      have v4 : (r : Int) - 1 = (s : Int) := by omega
      have v5 : IntKind.i64.wrap (s : Int) = (s : Int) := IntWalk.i64_in _ (by omega)
      clear hs
      have v6 : (n : Int) - (k : Int) = ((n - k : Nat) : Int) := by omega
      by_cases hrlt : k + r < n
      ·have g6 : k + r < l.length := by rw [← HN.out]; exact hrlt
       have g7 : k + s < l.length := by have := h5.out; omega
       have j0 : k + r < cur.length := by rw [g1.out]; exact g6
       have j1 : k + s < cur.length := by rw [g1.out]; exact g7
       have HX := zu8 (HW.out _ (List.getElem_mem g6))
       have HY := zu8 (HW.out _ (List.getElem_mem g7))
       have j2 : Hid (cur[k + r] = l[k + r]) := zu8 (g0.out _ j0 g6 (by omega))
       have j3 : Hid (cur[k + s] = l[k + s]) := zu8 (g0.out _ j1 g7 (by have := h5.out; omega))
       have g4 : Hid (wr.drew.rangeAt g (k * 32 + r * 32) (zn l[k + r])) := zu8 (by rw [← j2.out, ← zf6 (by rw [j2.out]; exact HX.out), show k * 32 + r * 32 = (k + r) * 32 by omega]; exact (g3.out.below (zvb _ wr).drew).at kw j0)
       have g5 : Hid (wr.drew.rangeAt g (k * 32 + s * 32) (zn l[k + s])) := zu8 (by rw [← j3.out, ← zf6 (by rw [j3.out]; exact HY.out), show k * 32 + s * 32 = (k + s) * 32 by omega]; exact (g3.out.below (zvb _ wr).drew).at kw j1)
       have h6 := zu8 (g3.out.below (zvb _ wr).drew)
       have j4 : Hid (w.grownBy wr.drew (some g)) := zu8 (h9.out.trans (zq2 wr _))
       have g2 : Hid (l[k + s] = l[k + r] -> V.jp l (k + (r + 1)) = cur.take q) := zu8 (fun e => by
         rw [HTK.out, show k + (r + 1) = k + r + 1 by omega]
         exact V.za2 g6 (by omega) (by rw [show k + r - 1 = k + s by have := h5.out; omega, List.getElem?_eq_getElem g7, e]))
       have HNE : Hid (l[k + s] ≠ l[k + r] -> (cur.set q l[k + r]).take (q + 1) = V.jp l (k + (r + 1))) := zu8 (fun e => by
         have q0 : q < cur.length := by rw [g1.out, ← HN.out]; omega
         rw [show k + (r + 1) = k + r + 1 by omega, V.zcj g6 (.inr (by rw [show k + r - 1 = k + s by have := h5.out; omega, List.getElem?_eq_getElem g7]; intro z; exact e (Option.some.inj z))), ← HTK.out,
           List.take_succ_eq_append_getElem (by rw [List.length_set]; exact q0), List.take_set_of_le (zva _), List.getElem_set_self])
       have k3 : Hid (∀ j (h : j < (cur.set q l[k + r]).length) (h' : j < l.length), k + (r + 1) ≤ j + 1 -> (cur.set q l[k + r])[j] = l[j]) := zu8 (fun j h h' hj => by
         rw [List.getElem_set_ne (by omega)]
         exact g0.out j (by rw [List.length_set] at h; exact h) h' (by omega))
       have j5 : Hid (∀ j (h : j < cur.length) (h' : j < l.length), k + (r + 1) ≤ j + 1 -> cur[j] = l[j]) := zu8 (fun j h h' hj => g0.out j h h' (by omega))
       have q1 : Hid (q < cur.length) := zu8 (by rw [g1.out, ← HN.out]; omega)
       have k6 : Hid ((cur.set q l[k + r]).length = l.length) := zu8 (by rw [List.length_set]; exact g1.out)
       have v7 : (0 : Int) ≤ (r : Int) := by omega
       have v8 : (r : Int) < ((n - k : Nat) : Int) := by omega
       have v9 : (0 : Int) ≤ (s : Int) := by omega
       have y0 : (s : Int) < ((n - k : Nat) : Int) := by omega
       have y1 : (0 : Int) ≤ (q : Int) := by omega
       have y2 : (q : Int) < (n : Int) := by omega
       clear j2 j3 g3 h9 g0 HTK
       generalize l[k + r] = x at *
       generalize l[k + s] = y at *
       clear g6 g7 j0 j1
       go_wp2
       refine wp_region_still_lit (by kernel_rfl) (by kernel_rfl) ?_
       still_step
       still_step
       still_step
       refine wpStill_step (fun K hK => ?_)
       refine ku rfl (.tmp 37) rfl g (k * 32 + r * 32) rfl x HX.out g4.out (hK _ ?_)
       clear hK K
       still_step
       still_step
       still_step
       still_step
       refine wpStill_step (fun K hK => ?_)
       refine ku rfl (.tmp 42) rfl g (k * 32 + s * 32) rfl y HY.out g5.out (hK _ ?_)
       clear hK K
       refine wpStill_step (fun K hK => ?_)
       refine zjh rfl (.tmp 38) (.tmp 43) rfl x y HX.out HY.out rfl rfl (hK _ ?_)
       clear hK K
       refine wpStill_nil ?_
       change Exit.then _ _ _ _ wr.drew
       generalize wr.drew = wq at *
       by_cases hxy : x = y
       ·rw [decide_eq_true hxy]
        have j6 := zu8 (g2.out hxy.symm)
        clear hxy g2 HNE g4 g5 k3
        go_wp2
        go_roundw
        case rel => exact ⟨q, r + 1, cur, by omega, by omega, by omega, rfl, by go_num, g1.out, h6.out, j6.out.symm, j5.out, j4.out⟩
        case measure => simp [intOf]; omega
       ·rw [decide_eq_false hxy]
        have j6 := zu8 (HNE.out (fun e => hxy e.symm))
        clear hxy g2 HNE g5 j5
        go_wp2_with (first | (refine ze5 rfl _ rfl g (k * 32 + r * 32) rfl x HX.out g4.out ?_) | (refine zst kw zbd zdf rfl _ _ rfl g cur h6.out q q1.out rfl x (by rw [zbx HX.out]; rfl) ?_; intro w9 g8 g9) | fail)
        have HR9 := zu8 g8
        have HG9 := zu8 (j4.out.trans g9)
        clear g8 g9
        go_wp2
        go_roundw
        case rel => exact ⟨q + 1, r + 1, _, by omega, by omega, by omega, by go_num, by go_num, k6.out, HR9.out, j6.out, k3.out, HG9.out⟩
        case measure => simp [intOf]; omega
      ·obtain rfl : r = n - k := by omega
       have HEQ : Hid (cur.take q = V.jp l n) := zu8 (by rw [HTK.out, show k + (n - k) = n by omega])
       have q2 : Hid ((V.jp l n).length = q) := zu8 (by rw [← HEQ.out, List.length_take, g1.out, ← HN.out]; omega)
       have y3 : ((n : Int) - (q : Int)) = ((n - q : Nat) : Int) := by omega
       have y4 : cap ≠ q := by omega
       have y5 : (0 : Int) ≤ (q : Int) := by omega
       have y6 : (q : Int) ≤ (n : Int) := by omega
       have y7 : (q : Int) ≤ (cap : Int) := by omega
       go_wp2_with (first | (refine ztx rfl _ rfl g (cap - q) (n - q) q cur g3.out (by rw [g1.out, ← HN.out]; omega) (by omega) rfl ?_; intro w9 g8 g9) | fail)
       rw [HEQ.out] at g8
       have HR9 := zu8 g8
       have HG9 := zu8 (h9.out.trans g9)
       clear g8 g9
       go_ret
       exact ⟨by rw [q2.out]; rfl, HR9.out, HG9.out⟩
    ·rw [decide_eq_false hxy]
     have q3 := zu8 (HNE.out (fun e => hxy e.symm))
     clear hxy g2 HNE
     generalize wr.drew = wq at *
     go_wp2
     go_roundw
     case rel => exact ⟨k + 1, by omega, by omega, by go_num, HBD.out, q3.out⟩
     case measure => simp [intOf]; omega
   ·obtain rfl : k = n := by omega
    have k4 : Hid (V.jp l k = l) := zu8 (by rw [V.zba (by rw [HN.out]; exact zva _) HE.out, HN.out, List.take_length])
    go_wp2
    go_ret
    exact ⟨by rw [k4.out, ← HN.out]; rfl, by rw [k4.out]; exact HR.out.below HBX.out, zm HBX.out _⟩
open Go.RowKit
theorem Notes.at {w : World} {a : Option Addr} {n cap : Nat} {xs : List NV} (h : Notes w (.slice a n cap) xs) (j : Nat) (hj : j < xs.length) : NOk w xs[j] /\ ∃ g off, a = some ⟨g, off, none⟩ /\ g < w.heap.size /\ w.rangeAt g (off + j * 37) (nl xs[j]) := by
 obtain ⟨a', c, e, hc⟩ := h
 cases e
 exact hc j hj
theorem any_no {xs : List NV} {p : NV -> Bool} (h : ∀ j (hj : j < xs.length), p xs[j] = false) : xs.any p = false := by
 rw [List.any_eq_false]
 intro x hx
 obtain ⟨j, hj, rfl⟩ := List.mem_iff_getElem.1 hx
 rw [h j hj]; simp
theorem zl9 (n : Int) (a b : V.Bs) (w : World) (hm : zj w) (ha : a.length ≤ maxLen) (hb : b.length ≤ maxLen) :
  Calls Tryz.prog 46 #[.int .i64 n, .string ⟨a.toArray⟩, .string ⟨b.toArray⟩] w fun e w' => e = .returned (.bool (decide ((V.qc n a b).2 = 0) && decide (0 < (V.qc n a b).1))) /\ Below w.heap.size w w' := by
 have HM := zu8 hm
 have HA := zu8 ha
 have HB := zu8 hb
 clear hm ha hb
 go_enter Tryz.func46, Tryz.ntmps46
 go_wp2_with fail
 refine (zhf n ⟨a.toArray⟩ ⟨b.toArray⟩ w HM.out (by simpa [ByteArray.size] using HA.out) (by simpa [ByteArray.size] using HB.out)).mono ?_
 rintro e w1 ⟨rfl, hb1⟩
 have HB1 := zu8 hb1
 rw [zf7, zf7]
 clear hb1
 obtain ⟨⟨c, d⟩, hr⟩ : ∃ r, r = V.qc n a b := ⟨_, rfl⟩
 have HR := zu8 hr
 rw [← hr]
 clear hr
 simp only
 by_cases hd : d = 0
 ·subst hd
  by_cases hc : 0 < c
  ·go_wp2
   go_ret
   exact ⟨by rw [← HR.out]; simp [hc], HB1.out⟩
  ·go_wp2
   go_ret
   exact ⟨by rw [← HR.out]; simp [hc], HB1.out⟩
 ·have g0 : (d == 0) = false := by simp [hd]
  go_wp2
  go_ret
  exact ⟨by rw [← HR.out]; simp [hd], HB1.out⟩
def sE (s : V.Bs) : List Value := [.string ⟨s.toArray⟩]
theorem zrj (s : V.Bs) : (sE s).length = 1 := rfl
theorem sE_one (s : V.Bs) : ∀ u ∈ sE s, u.oneCell' = true := fun u hu => by rw [List.mem_singleton.1 hu]; rfl
theorem strGI : jh 9 1 16 := by
 have h : (match Tryz.prog.info? 9 with | some i => i.size == 1 && (i.bytes == 16 && (match i.zero with | some z => z.cells.size == 1 | none => false)) | none => false) = true := by kernel_rfl
 unfold jh
 cases hq : Tryz.prog.info? 9 with
 | none => rw [hq] at h; cases h
 | some i =>
  exact zvk
theorem GSl.strs {w : World} {v : Value} {l : List V.Bs} (h : GSl 1 sE w v l) : Strs w v l := by
 obtain ⟨a, cap, e, hc⟩ := h
 refine ⟨a, cap, e, fun j hj => ?_⟩
 obtain ⟨g, off, ea, hg, hr⟩ := hc j hj
 have := hr 0 _ rfl
 rw [Nat.mul_one, Nat.add_zero] at this
 exact ⟨g, off, ea, hg, this⟩
open Go.RowKit
variable {F : Fence} {n : Nat} {P : Program}
def HandsP {α : Type} (F : Fence) (n : Nat) (P : Program) (g : Nat) (lb : Array Value) (encs : α -> Array Value) (Kp : World -> World -> Prop) (S Sp : List α -> Prop) (Ok : List α -> α -> Prop) (w : World) (b : Nat) : Prop :=
 ∀ (l : Nat) (J Jx : List α -> World -> Prop) (W : World), Below w.heap.size w W -> (∀ s A v, J s A -> J s (A.setCell ⟨b, 0, none⟩ v)) ->
  (∀ pre x W1, J pre W1 -> Ok pre x -> YieldAt F (n - 1) P l (encs x) W1 fun e W' =>
    (e = .returned (.bool true) /\ J (pre ++ [x]) W' /\ Kp W1 W') ∨ (e = .returned (.bool false) /\ Jx (pre ++ [x]) W')) ->
  J [] W ->
  CallsIn F n P g (#[.func (.yield l) #[] #[]] ++ lb) W fun e W' => (∃ v, e = .returned v) /\ ((∃ xs, S xs /\ J xs W') ∨ (∃ pre, Sp pre /\ Jx pre W'))
structure RoundP {α : Type} (F : Fence) (n : Nat) (P : Program) (B b : Nat) (ps : Array Tmp) (t : Array Value) (assign body : Code) (encs : α -> Array Value) (Kp : World -> World -> Prop) (Ok : List α -> α -> Prop) (I : List α -> World -> Prop) (Ix : Code -> List α -> World -> Prop) (act : α -> Act) : Prop where
 own : OwnFrom B I
 ownx : ∀ c, OwnFrom B (Ix c)
 state : ∀ s A v, I s A -> I s (A.setCell ⟨b, 0, none⟩ v)
 assigned : ∀ (l : Nat) (x : α) (W : World) (K : Act -> World -> Prop), K (act x) W ->
  assign.wpIn (F.inRound l) (n - 1 - 1) P (Exit.then K (fun _ _ _ => False)) { tmps := (ps.zip (encs x)).foldl (fun t (p, v) => t.setIfInBounds p v) t, defers := [] } W
 run : ∀ (l : Nat) (pre : List α) (x : α) (W : World), I pre W -> Ok pre x -> body.wpIn (F.inRound l) (n - 1 - 1) P (ownPostK Kp I Ix (pre ++ [x]) W) (act x) W
theorem RoundP.yields {α : Type} {B b : Nat} {ps : Array Tmp} {t : Array Value} {assign body : Code} {encs : α -> Array Value} {Kp : World -> World -> Prop} {Ok : List α -> α -> Prop} {I : List α -> World -> Prop} {Ix : Code -> List α -> World -> Prop} {act : α -> Act}
  (h : RoundP F n P B b ps t assign body encs Kp Ok I Ix act) {fn : FuncId} (hfn : F.fn fn) (hps : ∀ x, (encs x).size = ps.size)
  (hKt : ∀ {A C D : World}, Kp A C -> Kp C D -> Kp A D) (hKb : ∀ (W : World) (l : Nat) (o o' : Obj), B ≤ l -> W.heap[l]? = some o -> o.isCells = false -> o.isWalk = false -> Kp W (W.putObj l o'))
  {pre : List α} {x : α} {W : World} (hi : I pre W) (hB : Booked B (recd fn t ps assign body B .ready none) W) (hx : Ok pre x) :
  YieldAt F (n - 1 - 1) P (B + 1) (encs x) W fun e W' =>
   (e = .returned (.bool true) /\ (I (pre ++ [x]) W' /\ Booked B (recd fn t ps assign body B .ready none) W') /\ Kp W W') ∨
   (e = .returned (.bool false) /\ ∃ c, Ix c (pre ++ [x]) W' /\ Booked B (recd fn t ps assign body B .done (some c)) W') := by
 have g0 := hB.turn (recd fn t ps assign body B .busy none)
 have g1 := hKb W (B + 1) _ (.loop (recd fn t ps assign body B .busy none)) (Nat.le_succ B) hB.at1 rfl rfl
 refine ⟨fn, _, assign, body, run_yield (P := P) (args := encs x) hB.at1 (hps x), roundIn_of_wpIn hfn (h.assigned _ x W _ ⟨_, run_beginRound hB.at1 rfl, ?_⟩)⟩
 refine wpIn_mono (h.run _ pre x _ (hB.own h.own hi _) hx) fun e a3 W3 hp => ?_
 have left : ∀ c, KeepsOthers (W.putObj (B + 1) (.loop (recd fn t ps assign body B .busy none))) W3 -> Ix c (pre ++ [x]) W3 ->
   ∃ c', Ix c' (pre ++ [x]) (W3.putObj (B + 1) (.loop (recd fn t ps assign body B .done (some c)))) /\ Booked B (recd fn t ps assign body B .done (some c')) (W3.putObj (B + 1) (.loop (recd fn t ps assign body B .done (some c)))) :=
  fun c k hx => ⟨c, (g0.keep k).own (h.ownx c) hx _, (g0.keep k).turn _⟩
 cases e with
 | normal => exact ⟨_, _, (g0.keep hp.1).ends none, .inl ⟨rfl, ⟨(g0.keep hp.1).own h.own hp.2.2 _, (g0.keep hp.1).turn _⟩, hKt (hKt g1 hp.2.1) (hKb _ _ _ _ (Nat.le_succ B) (g0.keep hp.1).at1 rfl rfl)⟩⟩
 | ret => exact ⟨_, _, (g0.keep hp.1).ends (some .ret), .inr ⟨rfl, left _ hp.1 hp.2⟩⟩
 | exit id => exact ⟨_, _, (g0.keep hp.1).ends (some (.exit id)), .inr ⟨rfl, left _ hp.1 hp.2⟩⟩
 | goto c => exact ⟨_, _, (g0.keep hp.1).ends (some (.goto c)), .inr ⟨rfl, left _ hp.1 hp.2⟩⟩
 | panic ch => exact hp.elim
 | outgrown => exact hp.elim
theorem zfd {α : Type} {g : Operand} {ps : Array Tmp} {assign body : Code} {Q : Exit -> Act -> World -> Prop} {a : Act} {w : World}
  (g3 : F.round = none) (h1 : 1 ≤ n) {gf : Nat} {lb : Array Value} (hg : a.eval g = .func (.func gf) #[] lb) (g4 : F.fn gf) (eg : ∀ args w, (callFunc gf args).run P w = .ok (.enter gf args) w)
  {encs : α -> Array Value} {Kp : World -> World -> Prop} {S Sp : List α -> Prop} {Ok : List α -> α -> Prop} {b : Nat} (hb : b < w.heap.size) (hseq : HandsP F (n - 1) P gf lb encs Kp S Sp Ok w b)
  (hKt : ∀ {A B C : World}, Kp A B -> Kp B C -> Kp A C) (hKb : ∀ (W : World) (l : Nat) (o o' : Obj), w.heap.size ≤ l -> W.heap[l]? = some o -> o.isCells = false -> o.isWalk = false -> Kp W (W.putObj l o')) (hps : ∀ x, (encs x).size = ps.size)
  {I : List α -> World -> Prop} {Ix : Code -> List α -> World -> Prop} {act : α -> Act} (hr : RoundP F n P w.heap.size b ps a.tmps assign body encs Kp Ok I Ix act) (h0 : I [] w)
  (hdone : ∀ (D : Nat) (xs : List α) (W : World), w.heap.size ≤ D -> S xs -> I xs W -> W.heap[D]? = some (.deferred (some [])) -> Q .normal { a with defers := { target := .collected D, args := #[] } :: a.defers } W)
  (hstop : ∀ (D : Nat) (c : Code) (pre : List α) (W : World), w.heap.size ≤ D -> Sp pre -> Ix c pre W -> W.heap[D]? = some (.deferred (some [])) -> c.wpIn F n P Q { a with defers := { target := .collected D, args := #[] } :: a.defers } W) :
  (Code.rangeFunc g ps assign body).wpIn F n P Q a w := by
 refine wpIn_rangeFunc fun fn hfn => ?_
 have hbk := Booked.fresh w (recd fn a.tmps ps assign body w.heap.size .ready none)
 have hbel : Below w.heap.size w ((w.alloc (.deferred (some []))).alloc (.loop (recd fn a.tmps ps assign body w.heap.size .ready none))) := ((zvb _ w).alloc (zva _) _).alloc (by simp) _
 have hI1 := hr.own.alloc (.loop (recd fn a.tmps ps assign body w.heap.size .ready none)) (hr.own.alloc (.deferred (some [])) h0)
 rw [g3]
 have g2 := run_enterLoop_outer (P := P) (w := w) fn a.tmps ps assign body
 obtain ⟨W1, g0⟩ : ∃ W1, W1 = (w.alloc (.deferred (some []))).alloc (.loop (recd fn a.tmps ps assign body w.heap.size .ready none)) := ⟨_, rfl⟩
 rw [← g0] at hbk hbel hI1
 refine ⟨w.heap.size + 1, [{ target := .collected w.heap.size, args := #[] }], W1, { target := .fn (.func gf) lb, args := #[.func (.yield (w.heap.size + 1)) #[] #[]] }, W1, gf,
   #[.func (.yield (w.heap.size + 1)) #[] #[]] ++ lb, W1, by rw [g0]; exact g2, ?called, ?led, ?entered, fun _ => h1, ?it⟩
 case called => simp only [resolve, hg]; simp [go_sem]
 case led => intro f' g1; simp [Target.leads] at g1; exact g1 ▸ g4
 case entered => simp [invoke, go_sem, eg]
 case it =>
  exact zvo
end Go.Proofs.YtbikeahmldobkaaGreatDoor
