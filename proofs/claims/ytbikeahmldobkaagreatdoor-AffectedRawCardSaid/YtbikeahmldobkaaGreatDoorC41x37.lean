/-
  Lemmas for the law.
-/
import Derived.Test.YtbikeahmldobkaaGreatDoorC41x36
import Derived.Test.YtbikeahmldobkaaGreatDoorC41x28
import Derived.Test.YtbikeahmldobkaaGreatDoorC41x32
import Derived.Deep.DeepCutAuto
set_option linter.all false
set_option maxRecDepth 100000
set_option maxHeartbeats 6400000
namespace Go.Proofs.YtbikeahmldobkaaGreatDoor
open Go.RowKit
namespace V
theorem zlw {p q : Prop} (h : ¬ (¬ p /\ q)) : p ∨ ¬ q := by
 by_cases hp : p
 ·exact .inl hp
 ·exact .inr (fun hq => h ⟨hp, hq⟩)
def qz (l : List (List Int)) : Nat -> List (List Int)
 | 0 => []
 | m + 1 => qz l m ++ match l[m]? with | some x => (if m = 0 ∨ l[m - 1]? ≠ some x then [x] else []) | none => []
theorem vw {l : List (List Int)} {m : Nat} (h : m < l.length) (hn : m = 0 ∨ l[m - 1]? ≠ some l[m]) : qz l (m + 1) = qz l m ++ [l[m]] := by
 rw [qz, List.getElem?_eq_getElem h]
 simp only
 rw [if_pos hn]
theorem uj {l : List (List Int)} {m : Nat} (h : m < l.length) (h0 : m ≠ 0) (e : l[m - 1]? = some l[m]) : qz l (m + 1) = qz l m := by
 rw [qz, List.getElem?_eq_getElem h]
 simp only
 rw [if_neg (fun q => q.elim h0 (fun q => q e)), List.append_nil]
theorem uo {l : List (List Int)} : ∀ {m : Nat}, m ≤ l.length -> (∀ j (hj : j < l.length), 1 ≤ j -> j < m -> l[j - 1]? ≠ some l[j]) -> qz l m = l.take m
 | 0, _, _ => by simp [qz]
 | m + 1, hm, h => by
  rw [vw (by omega) (zlw (fun q => h m (by omega) (Nat.pos_of_ne_zero q.1) (by omega) q.2)), uo (by omega) (fun j hj h1 h2 => h j hj h1 (by omega)), List.take_succ_eq_append_getElem (by omega)]
theorem wd {l : List (List Int)} {x : List Int} : ∀ {m : Nat}, x ∈ qz l m ↔ ∃ j, j < m /\ l[j]? = some x
 | 0 => by simp [qz]
 | m + 1 => by
  have ih := wd (l := l) (x := x) (m := m)
  by_cases h : m < l.length
  ·by_cases e : m ≠ 0 /\ l[m - 1]? = some l[m]
   ·rw [uj h e.1 e.2, ih]
    constructor
    ·rintro ⟨j, hj, hx⟩; exact ⟨j, by omega, hx⟩
    ·rintro ⟨j, hj, hx⟩
     by_cases q : j = m
     ·subst q
      refine ⟨j - 1, by omega, ?_⟩
      rw [e.2, ← List.getElem?_eq_getElem h]; exact hx
     ·exact ⟨j, by omega, hx⟩
   ·rw [vw h (zlw e), List.mem_append, ih, List.mem_singleton]
    constructor
    ·rintro (⟨j, hj, hx⟩ | rfl)
     ·exact ⟨j, by omega, hx⟩
     ·exact ⟨m, by omega, List.getElem?_eq_getElem h⟩
    ·rintro ⟨j, hj, hx⟩
     by_cases q : j = m
     ·subst q
      rw [List.getElem?_eq_getElem h] at hx
      exact .inr (Option.some.inj hx).symm
     ·exact .inl ⟨j, by omega, hx⟩
  ·have hn : l[m]? = none := List.getElem?_eq_none (by omega)
   rw [qz, hn, List.append_nil, ih]
   constructor
   ·rintro ⟨j, hj, hx⟩; exact ⟨j, by omega, hx⟩
   ·rintro ⟨j, hj, hx⟩
    by_cases q : j = m
    ·subst q; rw [hn] at hx; cases hx
    ·exact ⟨j, by omega, hx⟩
theorem zf0 {l : List (List Int)} (hs : l.Pairwise fun a b => ¬ cmpI b a < 0) : ∀ {m : Nat}, m ≤ l.length -> AscC cmpI (qz l m)
 | 0, _ => List.Pairwise.nil
 | m + 1, hm => by
  have ih := zf0 hs (m := m) (by omega)
  have h : m < l.length := by omega
  by_cases e : m ≠ 0 /\ l[m - 1]? = some l[m]
  ·rw [uj h e.1 e.2]; exact ih
  ·rw [vw h (zlw e)]
   refine List.pairwise_append.2 ⟨ih, List.pairwise_singleton _ _, fun x hx y hy => ?_⟩
   rw [List.mem_singleton] at hy
   subst hy
   obtain ⟨j, hj, hx⟩ := wd.1 hx
   have hjl : j < l.length := by omega
   rw [List.getElem?_eq_getElem hjl] at hx
   have hx := Option.some.inj hx
   subst hx
   have hp := List.pairwise_iff_getElem.1 hs
   have hm1 : m - 1 < l.length := by omega
   have hne : l[m - 1] ≠ l[m] := fun q => e ⟨by omega, by rw [List.getElem?_eq_getElem hm1, q]⟩
   have h1 := hp (m - 1) m hm1 h (by omega)
   have h2 : cmpI l[m - 1] l[m] < 0 := by
    have a1 := ux l[m - 1] l[m]
    have a2 : cmpI l[m - 1] l[m] ≠ 0 := fun q => hne ((xm _ _).1 q)
    omega
   by_cases q : j = m - 1
   ·subst q; exact h2
   ·have h3 := hp j (m - 1) hjl hm1 (by omega)
    by_cases r : cmpI l[j] l[m - 1] = 0
    ·rw [(xm _ _).1 r]; exact h2
    ·have a1 := ux l[j] l[m - 1]
     exact ue _ _ _ (by omega) h2
theorem zlo {l xs : List (List Int)} (hp : l.Perm xs) (hs : l.Pairwise fun a b => ¬ cmpI b a < 0) : qz l l.length = ye cmpI [] xs :=
 zjd zko (zf0 hs (zpc _)) (zdb zko List.Pairwise.nil) fun x => by
  rw [wd, zc9, ← hp.mem_iff]
  constructor
  ·rintro ⟨j, _, h⟩; exact .inr (List.mem_of_getElem? h)
  ·rintro (h | h)
   ·simp at h
   ·obtain ⟨j, hj, e⟩ := List.mem_iff_getElem.1 h
    exact ⟨j, hj, by rw [List.getElem?_eq_getElem hj, e]⟩
end V
theorem zn7 {ops : Array Oper} {rest : List Oper} {o : Oper} {a : Act} {w : World} {Q : Exit -> Act -> World -> Prop} (hgd : o.guard = none) (x : Operand) (ho : o.op = .call { callee := .builtin .clear, args := #[x], argTypes := #[55] })
  (g cap n m : Nat) (l : List (List Int)) (hr : ERow 26 32 dE w g l) (hn : n + m = l.length) (hn0 : 0 < n) (hx : a.eval x = .slice (some ⟨g, m * 32, none⟩) n cap)
  (h : ∀ W, ERow 26 32 dE W g (l.take m) -> w.grownBy W (some g) -> wpList Tryz.prog ops Q rest (a.put o.dst (.tuple #[])) W) : wpList Tryz.prog ops Q (o :: rest) a w := by
 obtain ⟨z, hz⟩ : ∃ z : Array Value, z = (dE []).toArray := ⟨_, rfl⟩
 have hzv : ∀ w, (zeroValue 26).run Tryz.prog w = .ok (.agg z) w := by
  intro w; rw [hz]; exact Tryz.zeroValue26 w
 have hone : ∀ v ∈ (Builtin.zeroCells z n).toList, v.oneCell' = true := fun v hv => by
  unfold Builtin.zeroCells at hv
  rw [Array.mem_toList_iff, Array.mem_map] at hv
  obtain ⟨i, _, rfl⟩ := hv
  have hs : z.size = 32 := by rw [hz]; simp [dE]
  rw [getElem!_pos _ _ (by rw [hs]; omega)]
  subst hz
  exact vm [] _ (by simp)
 have hlen : (Builtin.zeroCells z n).toList.length = n * 32 := by
  unfold Builtin.zeroCells
  rw [hz]; simp [dE]
 have hrun : (Builtin.clear_ #[55] o.type #[.slice (some ⟨g, m * 32, none⟩) n cap]).run Tryz.prog w = .ok (.tuple #[]) (w.setCells g (m * 32) (Builtin.zeroCells z n).toList) := by
  have hth : ∀ j, j < n * 32 -> (w.cell? ⟨g, m * 32 + j, none⟩).isSome = true /\ w.frozen? ⟨g, m * 32 + j, none⟩ = false := fun j hj => by
   obtain ⟨cs, hg, hs, _⟩ := hr
   exact zra
  have hst := run_storeCells_cells (P := Tryz.prog) g (m * 32) (Builtin.zeroCells z n).toList 0 w (fun j hj => (hth j (by rw [hlen] at hj; exact hj)).1) (fun j hj => (hth j (by rw [hlen] at hj; exact hj)).2) hone
  simp only [Nat.add_zero] at hst
  obtain ⟨n', rfl⟩ : ∃ n', n = n' + 1 := ⟨n - 1, by omega⟩
  simp [Builtin.clear_, run_underlying Tryz.underlying55, hzv, hst, Value.cells]
 refine wpList_plain hgd fun K hK => ?_
 unfold Oper.wp execOp
 simp only [ho, resolve, invoke, builtin, Sem.run_bind, Sem.run_pure, Result.andThen_ok, List.map_toArray, List.map_cons, List.map_nil, hx, hrun]
 exact hK _ _ (h _ (hr.tail jw (by omega) _) (kz g _ _ w))
theorem zn0 (g cap : Nat) (l : List (List Int)) (w : World) (h : ERow 26 32 dE w g l) (hw : ∀ d ∈ l, qg d) (hl : l.length ≤ 1000) (hcap : l.length ≤ cap) :
  Calls Tryz.prog 72 #[.slice (some ⟨g, 0, none⟩) l.length cap] w fun e w' => e = .returned (.slice (some ⟨g, 0, none⟩) (V.qz l l.length).length cap) /\ ERow 26 32 dE w' g (V.qz l l.length) /\ w.grownBy w' (some g) := by
 have HR := zpa h
 have HW := zpa hw
 clear h hw
 by_cases h2 : l.length < 2
 ·have HE : Hid (V.qz l l.length = l) := zpa (by rw [V.uo (zpc _) (fun j hj h1 _ => by omega), List.take_length])
  go_enter Tryz.func72, Tryz.ntmps72
  go_wp2
  go_ret
  exact ⟨by rw [HE.out]; rfl, by rw [HE.out]; exact HR.out, vp w _⟩
 ·have h2' : ¬ (l.length : Int) < 2 := by omega
  obtain ⟨n, hn⟩ : ∃ n, n = l.length := ⟨_, rfl⟩
  have HN := zpa hn
  rw [← hn] at hl hcap h2 h2' ⊢
  clear hn
  go_enter Tryz.func72, Tryz.ntmps72
  go_wp2_with fail
  go_loopw [3] (fun kv wx => ∃ k : Nat, 1 ≤ k /\ k ≤ n /\ kv = .int .i64 k /\ Below w.heap.size w wx /\ (∀ j (hj : j < l.length), 1 ≤ j -> j < k -> l[j - 1]? ≠ some l[j])) (fun kv _ => n - (intOf kv).toNat)
  case atStart => exact ⟨1, zpc _, by omega, rfl, zpd _ _, fun j _ h1 hj => absurd hj (by omega)⟩
  case round =>
   obtain ⟨k, hk1, hkn, rfl, hbx, hne⟩ := hrel
   have HBX := zpa hbx
   have HE := zpa hne
   clear hbx hne
   obtain ⟨m, hm⟩ : ∃ m, k = m + 1 := ⟨k - 1, by omega⟩
   have HK := zpa hm
   have hkm : (k : Int) - 1 = (m : Int) := by omega
   have hw1 : IntKind.i64.wrap (m : Int) = (m : Int) := IntWalk.i64_in _ (by omega)
   clear hm
   by_cases hlt : k < n
   ·have hkl : k < l.length := by rw [← HN.out]; exact hlt
    have hml : m < l.length := by have := HK.out; omega
    have HX := zpa (HW.out _ (List.getElem_mem hkl))
    have HY := zpa (HW.out _ (List.getElem_mem hml))
    have HRX : Hid (wr.drew.rangeAt g (k * 32) (zk l[k])) := zpa (by rw [← zd4 HX.out]; exact ((HR.out.below HBX.out).below (zpd _ wr).drew).at jw hkl)
    have HRY : Hid (wr.drew.rangeAt g (m * 32) (zk l[m])) := zpa (by rw [← zd4 HY.out]; exact ((HR.out.below HBX.out).below (zpd _ wr).drew).at jw hml)
    have HRW := zpa ((HR.out.below HBX.out).below (zpd _ wr).drew)
    have HBD := zpa HBX.out.drew
    have hi1 : (0 : Int) ≤ (k : Int) := by omega
    have hi2 : (k : Int) < (n : Int) := by omega
    have hi3 : (0 : Int) ≤ (m : Int) := by omega
    have hi4 : (m : Int) < (n : Int) := by omega
    have HXY : Hid (l[m] = l[k] -> V.qz l (k + 1) = l.take k) := zpa (fun e => by
      have hk0 : k ≠ 0 := by omega
      rw [V.uj hkl hk0 (by rw [show k - 1 = m by have := HK.out; omega, List.getElem?_eq_getElem hml, e]), V.uo (by omega) HE.out])
    have HNE : Hid (l[m] ≠ l[k] -> ∀ j (hj : j < l.length), 1 ≤ j -> j < k + 1 -> l[j - 1]? ≠ some l[j]) := zpa (fun e j hj h1 h3 => by
      by_cases q : j = k
      · subst q
        rw [show j - 1 = m by have := HK.out; omega, List.getElem?_eq_getElem hml]
        intro r; exact e (Option.some.inj r)
      · exact HE.out j hj h1 (by omega))
    generalize l[k] = x at *
    generalize l[m] = y at *
    go_wp2
    refine wp_region_still_lit (by kernel_rfl) (by kernel_rfl) ?_
    still_step
    still_step
    still_step
    refine wpStill_step (fun K hK => ?_)
    refine jr rfl (.tmp 18) rfl g (k * 32) rfl x HX.out HRX.out (hK _ ?_)
    clear hK K
    still_step
    still_step
    still_step
    still_step
    refine wpStill_step (fun K hK => ?_)
    refine jr rfl (.tmp 23) rfl g (m * 32) rfl y HY.out HRY.out (hK _ ?_)
    clear hK K
    refine wpStill_step (fun K hK => ?_)
    refine zf8 rfl (.tmp 19) (.tmp 24) rfl x y HX.out HY.out rfl rfl (hK _ ?_)
    clear hK K
    refine wpStill_nil ?_
    change Exit.then _ _ _ _ wr.drew
    clear HRX HRY hw1 hkm
    by_cases hxy : x = y
    ·rw [decide_eq_true hxy]
     have HS := zpa (HXY.out hxy.symm)
     clear hxy HXY HNE
     have hck : cap ≠ k := by omega
     have hkc : (k : Int) ≤ (n : Int) := by omega
     go_wp2_with fail
     go_loopw [3, 5] (fun kv iv wx => ∃ (q r : Nat) (cur : List (List Int)), 1 ≤ r /\ k + r ≤ n /\ q + 1 ≤ k + r /\ kv = .int .i64 q /\ iv = .int .i64 r /\ cur.length = l.length /\ ERow 26 32 dE wx g cur /\ cur.take q = V.qz l (k + r) /\ (∀ j (h : j < cur.length) (h' : j < l.length), k + r ≤ j + 1 -> cur[j] = l[j]) /\ w.grownBy wx (some g)) (fun _ iv _ => n - (intOf iv).toNat)
     case atStart => exact ⟨k, 1, l, zpc _, by omega, zpc _, rfl, rfl, rfl, HRW.out, HS.out.symm, fun _ _ _ _ => rfl, jp HBD.out _⟩
     case round =>
      clear HRW HBD HBX HE HX HY
      obtain ⟨q, r, cur, hr1, hrn, hq, rfl, rfl, hcl, hrow, htk, hsame, hgr⟩ := hrel
      have HROW := zpa hrow
      have HTK := zpa htk
      have HSAME := zpa hsame
      have HGR := zpa hgr
      have HCL := zpa hcl
      clear hrow htk hsame hgr hcl
      obtain ⟨s, hs⟩ : ∃ s, r = s + 1 := ⟨r - 1, by omega⟩
      have HSR := zpa hs
      have hrs : (r : Int) - 1 = (s : Int) := by omega
      have hw2 : IntKind.i64.wrap (s : Int) = (s : Int) := IntWalk.i64_in _ (by omega)
      clear hs
      have hnk : (n : Int) - (k : Int) = ((n - k : Nat) : Int) := by omega
      by_cases hrlt : k + r < n
      ·have hxl : k + r < l.length := by rw [← HN.out]; exact hrlt
       have hyl : k + s < l.length := by have := HSR.out; omega
       have hxc : k + r < cur.length := by rw [HCL.out]; exact hxl
       have hyc : k + s < cur.length := by rw [HCL.out]; exact hyl
       have HX := zpa (HW.out _ (List.getElem_mem hxl))
       have HY := zpa (HW.out _ (List.getElem_mem hyl))
       have HXE : Hid (cur[k + r] = l[k + r]) := zpa (HSAME.out _ hxc hxl (by omega))
       have HYE : Hid (cur[k + s] = l[k + s]) := zpa (HSAME.out _ hyc hyl (by have := HSR.out; omega))
       have HRX : Hid (wr.drew.rangeAt g (k * 32 + r * 32) (zk l[k + r])) := zpa (by rw [← HXE.out, ← zd4 (by rw [HXE.out]; exact HX.out), show k * 32 + r * 32 = (k + r) * 32 by omega]; exact (HROW.out.below (zpd _ wr).drew).at jw hxc)
       have HRY : Hid (wr.drew.rangeAt g (k * 32 + s * 32) (zk l[k + s])) := zpa (by rw [← HYE.out, ← zd4 (by rw [HYE.out]; exact HY.out), show k * 32 + s * 32 = (k + s) * 32 by omega]; exact (HROW.out.below (zpd _ wr).drew).at jw hyc)
       have HROW2 := zpa (HROW.out.below (zpd _ wr).drew)
       have HGR2 : Hid (w.grownBy wr.drew (some g)) := zpa (HGR.out.trans (zl7 wr _))
       have HXY : Hid (l[k + s] = l[k + r] -> V.qz l (k + (r + 1)) = cur.take q) := zpa (fun e => by
         rw [HTK.out, show k + (r + 1) = k + r + 1 by omega]
         exact V.uj hxl (by omega) (by rw [show k + r - 1 = k + s by have := HSR.out; omega, List.getElem?_eq_getElem hyl, e]))
       have HNE : Hid (l[k + s] ≠ l[k + r] -> (cur.set q l[k + r]).take (q + 1) = V.qz l (k + (r + 1))) := zpa (fun e => by
         have hqc : q < cur.length := by rw [HCL.out, ← HN.out]; omega
         rw [show k + (r + 1) = k + r + 1 by omega, V.vw hxl (.inr (by rw [show k + r - 1 = k + s by have := HSR.out; omega, List.getElem?_eq_getElem hyl]; intro z; exact e (Option.some.inj z))), ← HTK.out,
           List.take_succ_eq_append_getElem (by rw [List.length_set]; exact hqc), List.take_set_of_le (zpc _), List.getElem_set_self])
       have HSM : Hid (∀ j (h : j < (cur.set q l[k + r]).length) (h' : j < l.length), k + (r + 1) ≤ j + 1 -> (cur.set q l[k + r])[j] = l[j]) := zpa (fun j h h' hj => by
         rw [List.getElem_set_ne (by omega)]
         exact HSAME.out j (by rw [List.length_set] at h; exact h) h' (by omega))
       have HSM2 : Hid (∀ j (h : j < cur.length) (h' : j < l.length), k + (r + 1) ≤ j + 1 -> cur[j] = l[j]) := zpa (fun j h h' hj => HSAME.out j h h' (by omega))
       have HQC : Hid (q < cur.length) := zpa (by rw [HCL.out, ← HN.out]; omega)
       have HCL2 : Hid ((cur.set q l[k + r]).length = l.length) := zpa (by rw [List.length_set]; exact HCL.out)
       have hj1 : (0 : Int) ≤ (r : Int) := by omega
       have hj2 : (r : Int) < ((n - k : Nat) : Int) := by omega
       have hj3 : (0 : Int) ≤ (s : Int) := by omega
       have hj4 : (s : Int) < ((n - k : Nat) : Int) := by omega
       have hj5 : (0 : Int) ≤ (q : Int) := by omega
       have hj6 : (q : Int) < (n : Int) := by omega
       clear HXE HYE HROW HGR HSAME HTK
       generalize l[k + r] = x at *
       generalize l[k + s] = y at *
       clear hxl hyl hxc hyc
       go_wp2
       refine wp_region_still_lit (by kernel_rfl) (by kernel_rfl) ?_
       still_step
       still_step
       still_step
       refine wpStill_step (fun K hK => ?_)
       refine jr rfl (.tmp 37) rfl g (k * 32 + r * 32) rfl x HX.out HRX.out (hK _ ?_)
       clear hK K
       still_step
       still_step
       still_step
       still_step
       refine wpStill_step (fun K hK => ?_)
       refine jr rfl (.tmp 42) rfl g (k * 32 + s * 32) rfl y HY.out HRY.out (hK _ ?_)
       clear hK K
       refine wpStill_step (fun K hK => ?_)
       refine zfo rfl (.tmp 38) (.tmp 43) rfl x y HX.out HY.out rfl rfl (hK _ ?_)
       clear hK K
       refine wpStill_nil ?_
       change Exit.then _ _ _ _ wr.drew
       generalize wr.drew = wq at *
       by_cases hxy : x = y
       ·rw [decide_eq_true hxy]
        have HS2 := zpa (HXY.out hxy.symm)
        clear hxy HXY HNE HRX HRY HSM
        go_wp2
        go_roundw
        case rel => exact ⟨q, r + 1, cur, by omega, by omega, by omega, rfl, by go_num, HCL.out, HROW2.out, HS2.out.symm, HSM2.out, HGR2.out⟩
        case measure => simp [intOf]; omega
       ·rw [decide_eq_false hxy]
        have HS2 := zpa (HNE.out (fun e => hxy e.symm))
        clear hxy HXY HNE HRY HSM2
        go_wp2_with (first | (refine zb5 rfl _ rfl g (k * 32 + r * 32) rfl x HX.out HRX.out ?_) | (refine znf jw vm zao rfl _ _ rfl g cur HROW2.out q HQC.out rfl x (by rw [uz HX.out]; rfl) ?_; intro w9 hr9 hg9) | fail)
        have HR9 := zpa hr9
        have HG9 := zpa (HGR2.out.trans hg9)
        clear hr9 hg9
        go_wp2
        go_roundw
        case rel => exact ⟨q + 1, r + 1, _, by omega, by omega, by omega, by go_num, by go_num, HCL2.out, HR9.out, HS2.out, HSM.out, HG9.out⟩
        case measure => simp [intOf]; omega
      ·obtain rfl : r = n - k := by omega
       have HEQ : Hid (cur.take q = V.qz l n) := zpa (by rw [HTK.out, show k + (n - k) = n by omega])
       have HLQ : Hid ((V.qz l n).length = q) := zpa (by rw [← HEQ.out, List.length_take, HCL.out, ← HN.out]; omega)
       have hnq : ((n : Int) - (q : Int)) = ((n - q : Nat) : Int) := by omega
       have hcq : cap ≠ q := by omega
       have hq1 : (0 : Int) ≤ (q : Int) := by omega
       have hq2 : (q : Int) ≤ (n : Int) := by omega
       have hq3 : (q : Int) ≤ (cap : Int) := by omega
       go_wp2_with (first | (refine zn7 rfl _ rfl g (cap - q) (n - q) q cur HROW.out (by rw [HCL.out, ← HN.out]; omega) (by omega) rfl ?_; intro w9 hr9 hg9) | fail)
       rw [HEQ.out] at hr9
       have HR9 := zpa hr9
       have HG9 := zpa (HGR.out.trans hg9)
       clear hr9 hg9
       go_ret
       exact ⟨by rw [HLQ.out]; rfl, HR9.out, HG9.out⟩
    ·rw [decide_eq_false hxy]
     have HNN := zpa (HNE.out (fun e => hxy e.symm))
     clear hxy HXY HNE
     generalize wr.drew = wq at *
     go_wp2
     go_roundw
     case rel => exact ⟨k + 1, by omega, by omega, by go_num, HBD.out, HNN.out⟩
     case measure => simp [intOf]; omega
   ·obtain rfl : k = n := by omega
    have HEN : Hid (V.qz l k = l) := zpa (by rw [V.uo (by rw [HN.out]; exact zpc _) HE.out, HN.out, List.take_length])
    go_wp2
    go_ret
    exact ⟨by rw [HEN.out, ← HN.out]; rfl, by rw [HEN.out]; exact HR.out.below HBX.out, jp HBX.out _⟩
open Go.RowKit
theorem Notes.at {w : World} {a : Option Addr} {n cap : Nat} {xs : List NV} (h : Notes w (.slice a n cap) xs) (j : Nat) (hj : j < xs.length) : NOk w xs[j] /\ ∃ g off, a = some ⟨g, off, none⟩ /\ g < w.heap.size /\ w.rangeAt g (off + j * 37) (nl xs[j]) := by
 obtain ⟨a', c, e, hc⟩ := h
 cases e
 exact hc j hj
theorem any_no {xs : List NV} {p : NV -> Bool} (h : ∀ j (hj : j < xs.length), p xs[j] = false) : xs.any p = false := by
 rw [List.any_eq_false]
 intro x hx
 obtain ⟨j, hj, rfl⟩ := List.mem_iff_getElem.1 hx
 rw [h j hj]; simp
theorem zh2 (n : Int) (a b : V.Bs) (w : World) (hm : zm w) (ha : a.length ≤ maxLen) (hb : b.length ≤ maxLen) :
  Calls Tryz.prog 46 #[.int .i64 n, .string ⟨a.toArray⟩, .string ⟨b.toArray⟩] w fun e w' => e = .returned (.bool (decide ((V.zv n a b).2 = 0) && decide (0 < (V.zv n a b).1))) /\ Below w.heap.size w w' := by
 have HM := zpa hm
 have HA := zpa ha
 have HB := zpa hb
 clear hm ha hb
 go_enter Tryz.func46, Tryz.ntmps46
 go_wp2_with fail
 refine (zd0 n ⟨a.toArray⟩ ⟨b.toArray⟩ w HM.out (by simpa [ByteArray.size] using HA.out) (by simpa [ByteArray.size] using HB.out)).mono ?_
 rintro e w1 ⟨rfl, hb1⟩
 have HB1 := zpa hb1
 rw [zaz, zaz]
 clear hb1
 obtain ⟨⟨c, d⟩, hr⟩ : ∃ r, r = V.zv n a b := ⟨_, rfl⟩
 have HR := zpa hr
 rw [← hr]
 clear hr
 simp only
 by_cases hd : d = 0
 ·subst hd
  by_cases hc : 0 < c
  ·go_wp2
   go_ret
   exact ⟨by rw [← HR.out]; simp [hc], HB1.out⟩
  ·go_wp2
   go_ret
   exact ⟨by rw [← HR.out]; simp [hc], HB1.out⟩
 ·have hd2 : (d == 0) = false := by simp [hd]
  go_wp2
  go_ret
  exact ⟨by rw [← HR.out]; simp [hd], HB1.out⟩
end Go.Proofs.YtbikeahmldobkaaGreatDoor
