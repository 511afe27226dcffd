/-
  Lemmas for the law.
-/
import Derived.Test.YtbikeahmldobkaaGreatDoorC42x28
import Derived.Test.YtbikeahmldobkaaGreatDoorC42x24
import Derived.Test.YtbikeahmldobkaaGreatDoorC42x26
import Derived.Deep.DeepCutAuto
set_option linter.all false
set_option maxRecDepth 100000
set_option maxHeartbeats 6400000
namespace Go.Proofs.YtbikeahmldobkaaGreatDoor
open Go.RowKit
namespace V
theorem zq9 {p q : Prop} (h : ¬ (¬ p /\ q)) : p ∨ ¬ q := by
 by_cases hp : p
 ·exact .inl hp
 ·exact .inr (fun hq => h ⟨hp, hq⟩)
def jx (l : List (List Int)) : Nat -> List (List Int)
 | 0 => []
 | m + 1 => jx l m ++ match l[m]? with | some x => (if m = 0 ∨ l[m - 1]? ≠ some x then [x] else []) | none => []
theorem zcr {l : List (List Int)} {m : Nat} (h : m < l.length) (hn : m = 0 ∨ l[m - 1]? ≠ some l[m]) : jx l (m + 1) = jx l m ++ [l[m]] := by
 rw [jx, List.getElem?_eq_getElem h]
 simp only
 rw [if_pos hn]
theorem zbh {l : List (List Int)} {m : Nat} (h : m < l.length) (h0 : m ≠ 0) (e : l[m - 1]? = some l[m]) : jx l (m + 1) = jx l m := by
 rw [jx, List.getElem?_eq_getElem h]
 simp only
 rw [if_neg (fun q => q.elim h0 (fun q => q e)), List.append_nil]
theorem zbo {l : List (List Int)} : ∀ {m : Nat}, m ≤ l.length -> (∀ j (hj : j < l.length), 1 ≤ j -> j < m -> l[j - 1]? ≠ some l[j]) -> jx l m = l.take m
 | 0, _, _ => by simp [jx]
 | m + 1, hm, h => by
  rw [zcr (by omega) (zq9 (fun q => h m (by omega) (Nat.pos_of_ne_zero q.1) (by omega) q.2)), zbo (by omega) (fun j hj h1 h2 => h j hj h1 (by omega)), List.take_succ_eq_append_getElem (by omega)]
theorem zcw {l : List (List Int)} {x : List Int} : ∀ {m : Nat}, x ∈ jx l m ↔ ∃ j, j < m /\ l[j]? = some x
 | 0 => by simp [jx]
 | m + 1 => by
  have ih := zcw (l := l) (x := x) (m := m)
  by_cases h : m < l.length
  ·by_cases e : m ≠ 0 /\ l[m - 1]? = some l[m]
   ·rw [zbh h e.1 e.2, ih]
    constructor
    ·rintro ⟨j, hj, hx⟩; exact ⟨j, by omega, hx⟩
    ·rintro ⟨j, hj, hx⟩
     by_cases q : j = m
     ·subst q
      refine ⟨j - 1, by omega, ?_⟩
      rw [e.2, ← List.getElem?_eq_getElem h]; exact hx
     ·exact ⟨j, by omega, hx⟩
   ·rw [zcr h (zq9 e), List.mem_append, ih, List.mem_singleton]
    constructor
    ·rintro (⟨j, hj, hx⟩ | rfl)
     ·exact ⟨j, by omega, hx⟩
     ·exact ⟨m, by omega, List.getElem?_eq_getElem h⟩
    ·rintro ⟨j, hj, hx⟩
     by_cases q : j = m
     ·subst q
      rw [List.getElem?_eq_getElem h] at hx
      exact .inr (Option.some.inj hx).symm
     ·exact .inl ⟨j, by omega, hx⟩
  ·have hn : l[m]? = none := List.getElem?_eq_none (by omega)
   rw [jx, hn, List.append_nil, ih]
   constructor
   ·rintro ⟨j, hj, hx⟩; exact ⟨j, by omega, hx⟩
   ·rintro ⟨j, hj, hx⟩
    by_cases q : j = m
    ·subst q; rw [hn] at hx; cases hx
    ·exact ⟨j, by omega, hx⟩
theorem zj7 {l : List (List Int)} (hs : l.Pairwise fun a b => ¬ cmpI b a < 0) : ∀ {m : Nat}, m ≤ l.length -> AscC cmpI (jx l m)
 | 0, _ => List.Pairwise.nil
 | m + 1, hm => by
  have ih := zj7 hs (m := m) (by omega)
  have h : m < l.length := by omega
  by_cases e : m ≠ 0 /\ l[m - 1]? = some l[m]
  ·rw [zbh h e.1 e.2]; exact ih
  ·rw [zcr h (zq9 e)]
   refine List.pairwise_append.2 ⟨ih, List.pairwise_singleton _ _, fun x hx y hy => ?_⟩
   rw [List.mem_singleton] at hy
   subst hy
   obtain ⟨j, hj, hx⟩ := zcw.1 hx
   have g1 : j < l.length := by omega
   rw [List.getElem?_eq_getElem g1] at hx
   have hx := Option.some.inj hx
   subst hx
   have hp := List.pairwise_iff_getElem.1 hs
   have g0 : m - 1 < l.length := by omega
   have g2 : l[m - 1] ≠ l[m] := fun q => e ⟨by omega, by rw [List.getElem?_eq_getElem g0, q]⟩
   have h1 := hp (m - 1) m g0 h (by omega)
   have h2 : cmpI l[m - 1] l[m] < 0 := by
    have a1 := zb6 l[m - 1] l[m]
    have a2 : cmpI l[m - 1] l[m] ≠ 0 := fun q => g2 ((vi _ _).1 q)
    omega
   by_cases q : j = m - 1
   ·subst q; exact h2
   ·have h3 := hp j (m - 1) g1 g0 (by omega)
    by_cases r : cmpI l[j] l[m - 1] = 0
    ·rw [(vi _ _).1 r]; exact h2
    ·have a1 := zb6 l[j] l[m - 1]
     exact za4 _ _ _ (by omega) h2
theorem zqy {l xs : List (List Int)} (hp : l.Perm xs) (hs : l.Pairwise fun a b => ¬ cmpI b a < 0) : jx l l.length = wu cmpI [] xs :=
 zn4 zpy (zj7 hs (zv4 _)) (zgs zpy List.Pairwise.nil) fun x => by
  rw [zcw, zgo, ← hp.mem_iff]
  constructor
  ·rintro ⟨j, _, h⟩; exact .inr (List.mem_of_getElem? h)
  ·rintro (h | h)
   ·simp at h
   ·obtain ⟨j, hj, e⟩ := List.mem_iff_getElem.1 h
    exact ⟨j, hj, by rw [List.getElem?_eq_getElem hj, e]⟩
end V
theorem zul {ops : Array Oper} {rest : List Oper} {o : Oper} {a : Act} {w : World} {Q : Exit -> Act -> World -> Prop} (g5 : o.guard = none) (x : Operand) (ho : o.op = .call { callee := .builtin .clear, args := #[x], argTypes := #[55] })
  (g cap n m : Nat) (l : List (List Int)) (hr : ERow 26 32 dE w g l) (hn : n + m = l.length) (g7 : 0 < n) (hx : a.eval x = .slice (some ⟨g, m * 32, none⟩) n cap)
  (h : ∀ W, ERow 26 32 dE W g (l.take m) -> w.grownBy W (some g) -> wpList Tryz.prog ops Q rest (a.put o.dst (.tuple #[])) W) : wpList Tryz.prog ops Q (o :: rest) a w := by
 obtain ⟨z, hz⟩ : ∃ z : Array Value, z = (dE []).toArray := ⟨_, rfl⟩
 have g6 : ∀ w, (zeroValue 26).run Tryz.prog w = .ok (.agg z) w := by
  intro w; rw [hz]; exact Tryz.zeroValue26 w
 have g3 : ∀ v ∈ (Builtin.zeroCells z n).toList, v.oneCell' = true := fun v hv => by
  unfold Builtin.zeroCells at hv
  rw [Array.mem_toList_iff, Array.mem_map] at hv
  obtain ⟨i, _, rfl⟩ := hv
  have hs : z.size = 32 := by rw [hz]; simp [dE]
  rw [getElem!_pos _ _ (by rw [hs]; omega)]
  subst hz
  exact zbr [] _ (by simp)
 have g0 : (Builtin.zeroCells z n).toList.length = n * 32 := by
  unfold Builtin.zeroCells
  rw [hz]; simp [dE]
 have g4 : (Builtin.clear_ #[55] o.type #[.slice (some ⟨g, m * 32, none⟩) n cap]).run Tryz.prog w = .ok (.tuple #[]) (w.setCells g (m * 32) (Builtin.zeroCells z n).toList) := by
  have g1 : ∀ j, j < n * 32 -> (w.cell? ⟨g, m * 32 + j, none⟩).isSome = true /\ w.frozen? ⟨g, m * 32 + j, none⟩ = false := fun j hj => by
   obtain ⟨cs, hg, hs, _⟩ := hr
   exact zyp
  have g2 := run_storeCells_cells (P := Tryz.prog) g (m * 32) (Builtin.zeroCells z n).toList 0 w (fun j hj => (g1 j (by rw [g0] at hj; exact hj)).1) (fun j hj => (g1 j (by rw [g0] at hj; exact hj)).2) g3
  simp only [Nat.add_zero] at g2
  obtain ⟨n', rfl⟩ : ∃ n', n = n' + 1 := ⟨n - 1, by omega⟩
  simp [Builtin.clear_, run_underlying Tryz.underlying55, g6, g2, Value.cells]
 refine wpList_plain g5 fun K hK => ?_
 unfold Oper.wp execOp
 simp only [ho, resolve, invoke, builtin, Sem.run_bind, Sem.run_pure, Result.andThen_ok, List.map_toArray, List.map_cons, List.map_nil, hx, g4]
 exact hK _ _ (h _ (hr.tail xf (by omega) _) (uf g _ _ w))
theorem zub (g cap : Nat) (l : List (List Int)) (w : World) (h : ERow 26 32 dE w g l) (hw : ∀ d ∈ l, qi d) (hl : l.length ≤ 1000) (k4 : l.length ≤ cap) :
  Calls Tryz.prog 72 #[.slice (some ⟨g, 0, none⟩) l.length cap] w fun e w' => e = .returned (.slice (some ⟨g, 0, none⟩) (V.jx l l.length).length cap) /\ ERow 26 32 dE w' g (V.jx l l.length) /\ w.grownBy w' (some g) := by
 have HR := zv2 h
 have HW := zv2 hw
 clear h hw
 by_cases h2 : l.length < 2
 ·have HE : Hid (V.jx l l.length = l) := zv2 (by rw [V.zbo (zv4 _) (fun j hj h1 _ => by omega), List.take_length])
  go_enter Tryz.func72, Tryz.ntmps72
  go_wp2
  go_ret
  exact ⟨by rw [HE.out]; rfl, by rw [HE.out]; exact HR.out, zco w _⟩
 ·have k6 : ¬ (l.length : Int) < 2 := by omega
  obtain ⟨n, hn⟩ : ∃ n, n = l.length := ⟨_, rfl⟩
  have HN := zv2 hn
  rw [← hn] at hl k4 h2 k6 ⊢
  clear hn
  go_enter Tryz.func72, Tryz.ntmps72
  go_wp2_with fail
  go_loopw [3] (fun kv wx => ∃ k : Nat, 1 ≤ k /\ k ≤ n /\ kv = .int .i64 k /\ Below w.heap.size w wx /\ (∀ j (hj : j < l.length), 1 ≤ j -> j < k -> l[j - 1]? ≠ some l[j])) (fun kv _ => n - (intOf kv).toNat)
  case atStart => exact ⟨1, zv4 _, by omega, rfl, zv5 _ _, fun j _ h1 hj => absurd hj (by omega)⟩
  case round =>
   obtain ⟨k, q2, q3, rfl, j6, j7⟩ := hrel
   have HBX := zv2 j6
   have HE := zv2 j7
   clear j6 j7
   obtain ⟨m, hm⟩ : ∃ m, k = m + 1 := ⟨k - 1, by omega⟩
   have HK := zv2 hm
   have hkm : (k : Int) - 1 = (m : Int) := by omega
   have k7 : IntKind.i64.wrap (m : Int) = (m : Int) := IntWalk.i64_in _ (by omega)
   clear hm
   by_cases hlt : k < n
   ·have h7 : k < l.length := by rw [← HN.out]; exact hlt
    have h0 : m < l.length := by have := HK.out; omega
    have HX := zv2 (HW.out _ (List.getElem_mem h7))
    have HY := zv2 (HW.out _ (List.getElem_mem h0))
    have g4 : Hid (wr.drew.rangeAt g (k * 32) (zn l[k])) := zv2 (by rw [← zf9 HX.out]; exact ((HR.out.below HBX.out).below (zv5 _ wr).drew).at xf h7)
    have g5 : Hid (wr.drew.rangeAt g (m * 32) (zn l[m])) := zv2 (by rw [← zf9 HY.out]; exact ((HR.out.below HBX.out).below (zv5 _ wr).drew).at xf h0)
    have j8 := zv2 ((HR.out.below HBX.out).below (zv5 _ wr).drew)
    have HBD := zv2 HBX.out.drew
    have q4 : (0 : Int) ≤ (k : Int) := by omega
    have q5 : (k : Int) < (n : Int) := by omega
    have q6 : (0 : Int) ≤ (m : Int) := by omega
    have q7 : (m : Int) < (n : Int) := by omega
    have g2 : Hid (l[m] = l[k] -> V.jx l (k + 1) = l.take k) := zv2 (fun e => by
      have k8 : k ≠ 0 := by omega
      rw [V.zbh h7 k8 (by rw [show k - 1 = m by have := HK.out; omega, List.getElem?_eq_getElem h0, e]), V.zbo (by omega) HE.out])
    have HNE : Hid (l[m] ≠ l[k] -> ∀ j (hj : j < l.length), 1 ≤ j -> j < k + 1 -> l[j - 1]? ≠ some l[j]) := zv2 (fun e j hj h1 h3 => by
      by_cases q : j = k
      · subst q
        rw [show j - 1 = m by have := HK.out; omega, List.getElem?_eq_getElem h0]
        intro r; exact e (Option.some.inj r)
      · exact HE.out j hj h1 (by omega))
    generalize l[k] = x at *
    generalize l[m] = y at *
    go_wp2
    refine wp_region_still_lit (by kernel_rfl) (by kernel_rfl) ?_
    still_step
    still_step
    still_step
    refine wpStill_step (fun K hK => ?_)
    refine xe rfl (.tmp 18) rfl g (k * 32) rfl x HX.out g4.out (hK _ ?_)
    clear hK K
    still_step
    still_step
    still_step
    still_step
    refine wpStill_step (fun K hK => ?_)
    refine xe rfl (.tmp 23) rfl g (m * 32) rfl y HY.out g5.out (hK _ ?_)
    clear hK K
    refine wpStill_step (fun K hK => ?_)
    refine zkh rfl (.tmp 19) (.tmp 24) rfl x y HX.out HY.out rfl rfl (hK _ ?_)
    clear hK K
    refine wpStill_nil ?_
    change Exit.then _ _ _ _ wr.drew
    clear g4 g5 k7 hkm
    by_cases hxy : x = y
    ·rw [decide_eq_true hxy]
     have HS := zv2 (g2.out hxy.symm)
     clear hxy g2 HNE
     have q8 : cap ≠ k := by omega
     have q9 : (k : Int) ≤ (n : Int) := by omega
     go_wp2_with fail
     go_loopw [3, 5] (fun kv iv wx => ∃ (q r : Nat) (cur : List (List Int)), 1 ≤ r /\ k + r ≤ n /\ q + 1 ≤ k + r /\ kv = .int .i64 q /\ iv = .int .i64 r /\ cur.length = l.length /\ ERow 26 32 dE wx g cur /\ cur.take q = V.jx l (k + r) /\ (∀ j (h : j < cur.length) (h' : j < l.length), k + r ≤ j + 1 -> cur[j] = l[j]) /\ w.grownBy wx (some g)) (fun _ iv _ => n - (intOf iv).toNat)
     case atStart => exact ⟨k, 1, l, zv4 _, by omega, zv4 _, rfl, rfl, rfl, j8.out, HS.out.symm, fun _ _ _ _ => rfl, zq HBD.out _⟩
     case round =>
      clear j8 HBD HBX HE HX HY
      obtain ⟨q, r, cur, v0, v1, hq, rfl, rfl, j9, h8, k0, h4, k1⟩ := hrel
      have g3 := zv2 h8
      have HTK := zv2 k0
      have g0 := zv2 h4
      have h9 := zv2 k1
      have g1 := zv2 j9
      clear h8 k0 h4 k1 j9
      obtain ⟨s, hs⟩ : ∃ s, r = s + 1 := ⟨r - 1, by omega⟩
      have h5 := zv2 hs
      have v2 : (r : Int) - 1 = (s : Int) := by omega
      have v3 : IntKind.i64.wrap (s : Int) = (s : Int) := IntWalk.i64_in _ (by omega)
      clear hs
      have v4 : (n : Int) - (k : Int) = ((n - k : Nat) : Int) := by omega
      by_cases hrlt : k + r < n
      ·have g6 : k + r < l.length := by rw [← HN.out]; exact hrlt
       have g7 : k + s < l.length := by have := h5.out; omega
       have j0 : k + r < cur.length := by rw [g1.out]; exact g6
       have j1 : k + s < cur.length := by rw [g1.out]; exact g7
       have HX := zv2 (HW.out _ (List.getElem_mem g6))
       have HY := zv2 (HW.out _ (List.getElem_mem g7))
       have j2 : Hid (cur[k + r] = l[k + r]) := zv2 (g0.out _ j0 g6 (by omega))
       have j3 : Hid (cur[k + s] = l[k + s]) := zv2 (g0.out _ j1 g7 (by have := h5.out; omega))
       have g4 : Hid (wr.drew.rangeAt g (k * 32 + r * 32) (zn l[k + r])) := zv2 (by rw [← j2.out, ← zf9 (by rw [j2.out]; exact HX.out), show k * 32 + r * 32 = (k + r) * 32 by omega]; exact (g3.out.below (zv5 _ wr).drew).at xf j0)
       have g5 : Hid (wr.drew.rangeAt g (k * 32 + s * 32) (zn l[k + s])) := zv2 (by rw [← j3.out, ← zf9 (by rw [j3.out]; exact HY.out), show k * 32 + s * 32 = (k + s) * 32 by omega]; exact (g3.out.below (zv5 _ wr).drew).at xf j1)
       have h6 := zv2 (g3.out.below (zv5 _ wr).drew)
       have j4 : Hid (w.grownBy wr.drew (some g)) := zv2 (h9.out.trans (zrs wr _))
       have g2 : Hid (l[k + s] = l[k + r] -> V.jx l (k + (r + 1)) = cur.take q) := zv2 (fun e => by
         rw [HTK.out, show k + (r + 1) = k + r + 1 by omega]
         exact V.zbh g6 (by omega) (by rw [show k + r - 1 = k + s by have := h5.out; omega, List.getElem?_eq_getElem g7, e]))
       have HNE : Hid (l[k + s] ≠ l[k + r] -> (cur.set q l[k + r]).take (q + 1) = V.jx l (k + (r + 1))) := zv2 (fun e => by
         have k9 : q < cur.length := by rw [g1.out, ← HN.out]; omega
         rw [show k + (r + 1) = k + r + 1 by omega, V.zcr g6 (.inr (by rw [show k + r - 1 = k + s by have := h5.out; omega, List.getElem?_eq_getElem g7]; intro z; exact e (Option.some.inj z))), ← HTK.out,
           List.take_succ_eq_append_getElem (by rw [List.length_set]; exact k9), List.take_set_of_le (zv4 _), List.getElem_set_self])
       have k2 : Hid (∀ j (h : j < (cur.set q l[k + r]).length) (h' : j < l.length), k + (r + 1) ≤ j + 1 -> (cur.set q l[k + r])[j] = l[j]) := zv2 (fun j h h' hj => by
         rw [List.getElem_set_ne (by omega)]
         exact g0.out j (by rw [List.length_set] at h; exact h) h' (by omega))
       have j5 : Hid (∀ j (h : j < cur.length) (h' : j < l.length), k + (r + 1) ≤ j + 1 -> cur[j] = l[j]) := zv2 (fun j h h' hj => g0.out j h h' (by omega))
       have q0 : Hid (q < cur.length) := zv2 (by rw [g1.out, ← HN.out]; omega)
       have k5 : Hid ((cur.set q l[k + r]).length = l.length) := zv2 (by rw [List.length_set]; exact g1.out)
       have v5 : (0 : Int) ≤ (r : Int) := by omega
       have v6 : (r : Int) < ((n - k : Nat) : Int) := by omega
       have v7 : (0 : Int) ≤ (s : Int) := by omega
       have v8 : (s : Int) < ((n - k : Nat) : Int) := by omega
       have v9 : (0 : Int) ≤ (q : Int) := by omega
       have y0 : (q : Int) < (n : Int) := by omega
       clear j2 j3 g3 h9 g0 HTK
       generalize l[k + r] = x at *
       generalize l[k + s] = y at *
       clear g6 g7 j0 j1
       go_wp2
       refine wp_region_still_lit (by kernel_rfl) (by kernel_rfl) ?_
       still_step
       still_step
       still_step
       refine wpStill_step (fun K hK => ?_)
       refine xe rfl (.tmp 37) rfl g (k * 32 + r * 32) rfl x HX.out g4.out (hK _ ?_)
       clear hK K
       still_step
       still_step
       still_step
       still_step
       refine wpStill_step (fun K hK => ?_)
       refine xe rfl (.tmp 42) rfl g (k * 32 + s * 32) rfl y HY.out g5.out (hK _ ?_)
       clear hK K
       refine wpStill_step (fun K hK => ?_)
       refine zjr rfl (.tmp 38) (.tmp 43) rfl x y HX.out HY.out rfl rfl (hK _ ?_)
       clear hK K
       refine wpStill_nil ?_
       change Exit.then _ _ _ _ wr.drew
       generalize wr.drew = wq at *
       by_cases hxy : x = y
       ·rw [decide_eq_true hxy]
        have HS2 := zv2 (g2.out hxy.symm)
        clear hxy g2 HNE g4 g5 k2
        go_wp2
        go_roundw
        case rel => exact ⟨q, r + 1, cur, by omega, by omega, by omega, rfl, by go_num, g1.out, h6.out, HS2.out.symm, j5.out, j4.out⟩
        case measure => simp [intOf]; omega
       ·rw [decide_eq_false hxy]
        have HS2 := zv2 (HNE.out (fun e => hxy e.symm))
        clear hxy g2 HNE g5 j5
        go_wp2_with (first | (refine ze6 rfl _ rfl g (k * 32 + r * 32) rfl x HX.out g4.out ?_) | (refine ztg xf zbr zdl rfl _ _ rfl g cur h6.out q q0.out rfl x (by rw [zb9 HX.out]; rfl) ?_; intro w9 g8 g9) | fail)
        have HR9 := zv2 g8
        have HG9 := zv2 (j4.out.trans g9)
        clear g8 g9
        go_wp2
        go_roundw
        case rel => exact ⟨q + 1, r + 1, _, by omega, by omega, by omega, by go_num, by go_num, k5.out, HR9.out, HS2.out, k2.out, HG9.out⟩
        case measure => simp [intOf]; omega
      ·obtain rfl : r = n - k := by omega
       have HEQ : Hid (cur.take q = V.jx l n) := zv2 (by rw [HTK.out, show k + (n - k) = n by omega])
       have q1 : Hid ((V.jx l n).length = q) := zv2 (by rw [← HEQ.out, List.length_take, g1.out, ← HN.out]; omega)
       have y1 : ((n : Int) - (q : Int)) = ((n - q : Nat) : Int) := by omega
       have y2 : cap ≠ q := by omega
       have y3 : (0 : Int) ≤ (q : Int) := by omega
       have y4 : (q : Int) ≤ (n : Int) := by omega
       have y5 : (q : Int) ≤ (cap : Int) := by omega
       go_wp2_with (first | (refine zul rfl _ rfl g (cap - q) (n - q) q cur g3.out (by rw [g1.out, ← HN.out]; omega) (by omega) rfl ?_; intro w9 g8 g9) | fail)
       rw [HEQ.out] at g8
       have HR9 := zv2 g8
       have HG9 := zv2 (h9.out.trans g9)
       clear g8 g9
       go_ret
       exact ⟨by rw [q1.out]; rfl, HR9.out, HG9.out⟩
    ·rw [decide_eq_false hxy]
     have HNN := zv2 (HNE.out (fun e => hxy e.symm))
     clear hxy g2 HNE
     generalize wr.drew = wq at *
     go_wp2
     go_roundw
     case rel => exact ⟨k + 1, by omega, by omega, by go_num, HBD.out, HNN.out⟩
     case measure => simp [intOf]; omega
   ·obtain rfl : k = n := by omega
    have k3 : Hid (V.jx l k = l) := zv2 (by rw [V.zbo (by rw [HN.out]; exact zv4 _) HE.out, HN.out, List.take_length])
    go_wp2
    go_ret
    exact ⟨by rw [k3.out, ← HN.out]; rfl, by rw [k3.out]; exact HR.out.below HBX.out, zq HBX.out _⟩
open Go.RowKit
theorem Notes.at {w : World} {a : Option Addr} {n cap : Nat} {xs : List NV} (h : Notes w (.slice a n cap) xs) (j : Nat) (hj : j < xs.length) : NOk w xs[j] /\ ∃ g off, a = some ⟨g, off, none⟩ /\ g < w.heap.size /\ w.rangeAt g (off + j * 37) (nl xs[j]) := by
 obtain ⟨a', c, e, hc⟩ := h
 cases e
 exact hc j hj
theorem any_no {xs : List NV} {p : NV -> Bool} (h : ∀ j (hj : j < xs.length), p xs[j] = false) : xs.any p = false := by
 rw [List.any_eq_false]
 intro x hx
 obtain ⟨j, hj, rfl⟩ := List.mem_iff_getElem.1 hx
 rw [h j hj]; simp
theorem zmo (n : Int) (a b : V.Bs) (w : World) (hm : zk w) (ha : a.length ≤ maxLen) (hb : b.length ≤ maxLen) :
  Calls Tryz.prog 46 #[.int .i64 n, .string ⟨a.toArray⟩, .string ⟨b.toArray⟩] w fun e w' => e = .returned (.bool (decide ((V.qe n a b).2 = 0) && decide (0 < (V.qe n a b).1))) /\ Below w.heap.size w w' := by
 have HM := zv2 hm
 have HA := zv2 ha
 have HB := zv2 hb
 clear hm ha hb
 go_enter Tryz.func46, Tryz.ntmps46
 go_wp2_with fail
 refine (zhl n ⟨a.toArray⟩ ⟨b.toArray⟩ w HM.out (by simpa [ByteArray.size] using HA.out) (by simpa [ByteArray.size] using HB.out)).mono ?_
 rintro e w1 ⟨rfl, hb1⟩
 have HB1 := zv2 hb1
 rw [zdb, zdb]
 clear hb1
 obtain ⟨⟨c, d⟩, hr⟩ : ∃ r, r = V.qe n a b := ⟨_, rfl⟩
 have HR := zv2 hr
 rw [← hr]
 clear hr
 simp only
 by_cases hd : d = 0
 ·subst hd
  by_cases hc : 0 < c
  ·go_wp2
   go_ret
   exact ⟨by rw [← HR.out]; simp [hc], HB1.out⟩
  ·go_wp2
   go_ret
   exact ⟨by rw [← HR.out]; simp [hc], HB1.out⟩
 ·have g0 : (d == 0) = false := by simp [hd]
  go_wp2
  go_ret
  exact ⟨by rw [← HR.out]; simp [hd], HB1.out⟩
end Go.Proofs.YtbikeahmldobkaaGreatDoor
