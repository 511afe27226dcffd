/-
  Lemmas for the law.
-/
import Derived.Test.YtbikeahmldobkaaGreatDoorC50x25
import Derived.Test.YtbikeahmldobkaaGreatDoorShelf2
import Derived.Lib.BytesEntry
import Derived.Shelf.SlSortCmp.WholeK
import Derived.Deep.DeepCutAuto
set_option linter.all false
set_option maxRecDepth 100000
set_option maxHeartbeats 6400000
namespace Go.Proofs.YtbikeahmldobkaaGreatDoor
open Go.RowKit
theorem zgl {P : Program} (w : World) (a b : List Int) (x y : Addr) (n m c c' : Nat) (hn : a.length = n) (hm : b.length = m) (ha : ∀ j u, a[j]? = some u -> w.cell? (x.add j) = some (.int .u8 u)) (hb : ∀ j u, b[j]? = some u -> w.cell? (y.add j) = some (.int .u8 u)) :
  (Extern.BytealgCompare.compare #[.slice (some x) n c, .slice (some y) m c']).run P w = .ok (.int .i64 (Lib.compareBytes (Lib.bytesOf a) (Lib.bytesOf b))) w := by
 subst hn hm
 change Sem.run P (do pure (goInt (Extern.BytealgCompare.cmp (← Extern.Bytes.bytesOf (.slice (some x) a.length c)) (← Extern.Bytes.bytesOf (.slice (some y) b.length c'))))) w = _
 simp only [Extern.Bytes.bytesOf, Sem.run_bind, Sem.run_pure, Lib.run_loadBytesX w a x .empty ha, Lib.run_loadBytesX w b y .empty hb, Result.andThen]
 rw [Lib.cmp_eq]
 simp
 rfl
theorem V.cmp_bytes : ∀ {a b : List Int}, (∀ n ∈ a, 0 ≤ n /\ n < 256) -> (∀ n ∈ b, 0 ≤ n /\ n < 256) -> Lib.compareBytes (Lib.bytesOf a) (Lib.bytesOf b) = V.cmpI a b
 | [], [], _, _ => rfl
 | [], _ :: _, _, _ => rfl
 | _ :: _, [], _, _ => rfl
 | x :: a, y :: b, ha, hb => by
  have ih := V.cmp_bytes (fun n hn => ha n (List.mem_cons_of_mem _ hn)) (fun n hn => hb n (List.mem_cons_of_mem _ hn))
  have hx := ha x (by simp)
  have hy := hb y (by simp)
  unfold Lib.bytesOf at ih ⊢
  rw [List.map_cons, List.map_cons]
  unfold Lib.compareBytes V.cmpI
  rw [ih]
  have e : ∀ z : Int, 0 ≤ z -> z < 256 -> z.toNat.toUInt8.toNat = z.toNat := fun z h0 h1 => by
   rw [Nat.toUInt8, UInt8.toNat_ofNat']
   exact Nat.mod_eq_of_lt (by omega)
  simp only [UInt8.lt_iff_toNat_lt, e x hx.1 hx.2, e y hy.1 hy.2]
  by_cases h1 : x < y
  ·rw [if_pos (by omega), if_pos h1]
  ·rw [if_neg (by omega), if_neg h1]
   by_cases h2 : y < x
   ·rw [if_pos (by omega), if_pos h2]
   ·rw [if_neg (by omega), if_neg h2]
theorem qj.rng {d : List Int} (h : qj d) : ∀ n ∈ d, 0 ≤ n /\ n < 256 := fun n hn => by
 have := h.2 n hn
 simp [Lit.wf, IntKind.min, IntKind.max, IntKind.signed, IntKind.bits] at this
 omega
theorem zoa (g g2 : Nat) (a b : List Int) (w : World) (ha : qj a) (hb : qj b) (ka : w.rangeAt g 0 (zq a)) (kb : w.rangeAt g2 0 (zq b)) :
  Calls Tryz.prog 71 #[.slice (some ⟨g, 0, none⟩) 32 32, .slice (some ⟨g2, 0, none⟩) 32 32] w fun e w' => e = .returned (.int .i64 (V.cmpI a b)) /\ w' = w := by
 have HR := zwg (zgl (P := Tryz.prog) w a b ⟨g, 0, none⟩ ⟨g2, 0, none⟩ 32 32 32 32 ha.1 hb.1 (fun j u hu => by rw [Addr.add_mid]; exact ka j _ (by unfold zq; rw [List.getElem?_map, hu]; rfl)) (fun j u hu => by rw [Addr.add_mid]; exact kb j _ (by unfold zq; rw [List.getElem?_map, hu]; rfl)))
 rw [V.cmp_bytes ha.rng hb.rng] at HR
 clear ka kb ha hb
 go_enter Tryz.func71, Tryz.ntmps71
 go_wp2
 rw [run_callFunc_extern Tryz.func108 (by kernel_rfl) (by kernel_rfl) (by kernel_rfl) (e := Extern.BytealgCompare.compare) (by kernel_rfl), HR.out]
 simp only [Result.andThen]
 rw [Oper.upon_value]
 go_wp2
 go_ret
 exact ⟨rfl, rfl⟩
theorem ztf (w : World) (n : Nat) (os : Array Obj) : (Sort.grow w os).drewN n = Sort.grow (w.drewN n) os := by
 rfl
theorem zre (a b : List Int) (w : World) (ha : qj a) (hb : qj b) :
  Calls Tryz.prog 70 #[.agg (dcells a), .agg (dcells b)] w fun e w' => e = .returned (.int .i64 (V.cmpI a b)) /\ ∃ q os', w' = Sort.grow (w.drewN q) os' := by
 obtain ⟨W0, hW0⟩ : ∃ W0, W0 = (w.alloc (.cells (dcells a) 26)).alloc (.cells (dcells b) 26) := ⟨_, rfl⟩
 have K0 : Hid (W0.rangeAt w.heap.size 0 (zq a)) := zwg (ziu (T := 26) (fr := (0, 0)) (by rw [hW0, heap_alloc, if_neg (by simp), heap_alloc, if_pos rfl]))
 have K1 : Hid (W0.rangeAt (w.heap.size + 1) 0 (zq b)) := zwg (ziu (T := 26) (fr := (0, 0)) (by rw [hW0, heap_alloc, if_pos (by simp)]))
 have HW := zwg hW0
 have HA := zwg ha
 have HB := zwg hb
 have HE : Hid (W0 = Sort.grow w #[.cells (dcells a) 26, .cells (dcells b) 26]) := zwg (by rw [hW0, Sort.alloc_eq_grow, Sort.alloc_eq_grow, Sort.grow_grow]; rfl)
 clear hW0 ha hb
 go_enter Tryz.func70, Tryz.ntmps70
 go_wp2_with fail
 rw [← HW.out]
 have hc : ∀ n, Calls Tryz.prog 71 #[.slice (some ⟨w.heap.size, 0, none⟩) 32 32, .slice (some ⟨w.heap.size + 1, 0, none⟩) 32 32] (W0.drewN n) fun e w' => e = .returned (.int .i64 (V.cmpI a b)) /\ w' = W0.drewN n := fun n => zoa _ _ a b _ HA.out HB.out (zk K0.out (below_drewN (zwj _ W0) n)) (zk K1.out (below_drewN (zwj _ W0) n))
 go_quiet (first | (go_at_call 71; refine Calls.quiet_of_same (hc _)) | fail)
 rename_i nq
 have HQ : Hid (W0.drewN nq = Sort.grow (w.drewN nq) #[.cells (dcells a) 26, .cells (dcells b) 26]) := zwg (by rw [HE.out, ztf])
 clear hc
 go_wp2
 go_ret
 exact ⟨rfl, nq, _, HQ.out⟩
abbrev Dg := { d : List Int // qj d }
instance : Inhabited Dg := ⟨⟨List.replicate 32 0, by unfold qj; decide⟩⟩
def gE (d : Dg) : List Value := zq d.1
theorem zsw (d : Dg) : (gE d).length = 32 := zdg d.2
theorem gE_one (d : Dg) : ∀ v ∈ gE d, v.oneCell' = true := fun v hv => by
 unfold gE zq at hv
 obtain ⟨_, _, rfl⟩ := List.mem_map.1 hv
 rfl
def gC (x y : Dg) : Int := V.cmpI x.1 y.1
theorem gC_swo : Sort.SWO (ltOf gC) where
 irrefl x := by unfold ltOf gC; rw [(V.vx _ _).2 rfl]; rfl
 trans x y z h1 h2 := by
  unfold ltOf gC at *
  simp only [decide_eq_true_eq] at *
  exact V.zbg _ _ _ h1 h2
 ntrans x y z h1 h2 := by
  unfold ltOf gC at *
  simp only [decide_eq_false_iff_not] at *
  intro h3
  by_cases e : V.cmpI x.1 y.1 = 0
  ·rw [(V.vx _ _).1 e] at h3; exact h2 h3
  ·have a1 := V.zcj x.1 y.1
   exact h2 (V.zbg _ _ _ (by omega) h3)
theorem dgs_of : ∀ {l : List (List Int)}, (∀ d ∈ l, qj d) -> ∃ ds : List Dg, ds.map (·.1) = l
 | [], _ => ⟨[], rfl⟩
 | d :: l, h => by
  obtain ⟨ds, e⟩ := dgs_of (fun c hc => h c (List.mem_cons_of_mem _ hc))
  exact ⟨⟨d, h d (by simp)⟩ :: ds, by rw [List.map_cons, e]⟩
theorem zuk (ds : List Dg) : (ds.map (·.1)).flatMap dE = ds.flatMap gE := by
 rw [zot (fun d hd => by obtain ⟨x, _, rfl⟩ := List.mem_map.1 hd; exact x.2), List.flatMap_map]
 rfl
theorem zq2 (ds : List Dg) {j : Nat} (hj : j < ds.length * 32) : (ds.flatMap gE)[j]? = some (Sort.flatK gE 32 ds.toArray)[j]! := by
 have hq : j / 32 < ds.length := by omega
 have e := wu zsw (l := ds) (j / 32) hq (j % 32) (by omega)
 rw [show j / 32 * 32 + j % 32 = j by omega] at e
 rw [e, Sort.get_flatK _ _ _ _ (by simpa using hj)]
 have e1 : ds.toArray[j / 32]! = ds[j / 32] := by rw [getElem!_pos _ _ (by simpa using hq)]; simp
 have h2 : j % 32 < (gE ds[j / 32]).length := by rw [zsw]; omega
 rw [e1, List.getElem?_eq_getElem h2, getElem!_pos (gE ds[j / 32]) (j % 32) h2]
theorem zr5 {w : World} {g : Nat} {ds : List Dg} (h : ERow 26 32 dE w g (ds.map (·.1))) : Sort.HoldsK gE 32 w g 0 ds.toArray := by
 obtain ⟨cs, hg, hs, hc⟩ := h
 intro j hj
 have g0 : j < ds.length * 32 := by simpa using hj
 refine ⟨?_, ko hg⟩
 rw [Nat.zero_add, cell_of_row w g _ _ _ _ hg, hc j (by simpa using g0), zuk, zq2 ds g0]
 rfl
theorem zr6 {w : World} {g n : Nat} {os : Array Obj} {l : List (List Int)} {ds : List Dg} (h : ERow 26 32 dE w g l) (hs : ds.length = l.length) :
  ERow 26 32 dE (sortWorldK gE 32 w g 0 n ds.toArray os) g (ds.map (·.1)) /\ w.grownBy (sortWorldK gE 32 w g 0 n ds.toArray os) (some g) := by
 have hlt := h.lt
 obtain ⟨cs, hg, g3, hc⟩ := h
 have g1 : (sortWorldK gE 32 w g 0 n ds.toArray os).heap[g]? = some (.cells (Sort.putCells id 0 (Sort.flatK gE 32 ds.toArray) cs) 26 (0, 0)) := by
  unfold sortWorldK Sort.putRowK
  rw [Sort.heap_grow_old _ _ (by simpa using hlt)]
  simp [Sort.putRow, Sort.mapBlock, Sort.ahead, Array.getElem?_modify, hg, Sort.onCells]
 refine ⟨⟨_, g1, by simp [Sort.putCells]; omega, fun i hi => ?_⟩, rfl, rfl, rfl, ?_, fun i hi g2 => ?_⟩
 ·have g0 : i < ds.length * 32 := by simpa using hi
  rw [zuk, zq2 ds g0]
  have hcs : i < cs.size := by omega
  simp [Sort.putCells, hcs, g0]
 ·unfold sortWorldK Sort.putRowK; simp
 ·unfold sortWorldK Sort.putRowK
  rw [Sort.heap_grow_old _ _ (by simpa using hi)]
  have : g ≠ i := fun e => g2 (by rw [e])
  simp [Sort.putRow, Sort.mapBlock, Sort.ahead, Array.getElem?_modify, this]
theorem zpy {w : World} {g n : Nat} {os : Array Obj} {l : List (List Int)} {d : Array Dg} (h : ERow 26 32 dE w g l) (hs : d.size = l.length) :
  ERow 26 32 dE (sortWorldK gE 32 w g 0 n d os) g (d.toList.map (·.1)) /\ w.grownBy (sortWorldK gE 32 w g 0 n d os) (some g) := by
 have := zr6 (n := n) (os := os) (ds := d.toList) h (by rw [Array.length_toList]; exact hs)
 rwa [Array.toArray_toList] at this
theorem zul (N : Nat) (v : Value) (l : List (List Int)) (w : World) (h : GRow 26 32 dE w N v l) (hw : ∀ d ∈ l, qj d) (h0 : l ≠ []) (hl : l.length ≤ 1000) :
  Calls Tryz.prog 69 #[v, .func (.func 70) #[] #[]] w fun e w' => e = .returned (.tuple #[]) /\
   ∃ g cap l', v = .slice (some ⟨g, 0, none⟩) l.length cap /\ N ≤ g /\ l'.Perm l /\ l'.Pairwise (fun a b => ¬ V.cmpI b a < 0) /\ ERow 26 32 dE w' g l' /\ w.grownBy w' (some g) := by
 rcases GRow.row xi h with ⟨_, e⟩ | ⟨g, cap, rfl, hN, g7, hr⟩
 ·exact absurd e h0
 ·obtain ⟨ds, rfl⟩ := dgs_of hw
  have eg : ∀ args w, (callFunc 70 args).run Tryz.prog w = .ok (.enter 70 args) w := enters_of Tryz.func70 (by kernel_rfl) rfl
  have g0 := AnyQ.slices_SortFunc Tryz.sortDig 32 Tryz.isAgg26 Tryz.sizeOf26 gE zsw gE_one gC gC_swo 70 #[] g 0 cap ds.toArray w eg
   (fun _ _ _ _ x y => zre x.1 y.1 _ x.2 y.2) (zr5 hr) hr.lt (by simp at hl ⊢; omega)
  change Calls Tryz.prog 69 _ _ _ at g0
  have g1 : ds.toArray.size = (ds.map (·.1)).length := by simp
  rw [g1] at g0
  refine g0.mono ?_
  rintro e w' ⟨rfl, d', n, os, hp, hs, rfl⟩
  have hd : d'.size = (ds.map (·.1)).length := by rw [List.length_map]; have := hp.1; simpa using this
  obtain ⟨g2, g3⟩ := zpy (n := n) (os := os) (d := d') hr hd
  generalize sortWorldK gE 32 w g 0 n d' os = w9 at *
  refine ⟨rfl, g, cap, _, rfl, hN, ?_, ?_, g2, g3⟩
  ·have hp2 := hp.2.2
   have e1 : (d'.extract 0 (ds.map (·.1)).length).toList = d'.toList := by rw [← hd]; simp
   have e2 : (ds.toArray.extract 0 (ds.map (·.1)).length).toList = ds := by simp
   rw [e1, e2] at hp2
   exact hp2.map _
  ·rw [List.pairwise_map, List.pairwise_iff_getElem]
   intro i j hi hj g4
   have := hs i j (Nat.zero_le _) g4 (by rw [← hd]; simpa using hj)
   have g5 : i < d'.size := by simpa using hi
   have g6 : j < d'.size := by simpa using hj
   unfold ltOf gC at this
   rw [getElem!_pos d' i g5, getElem!_pos d' j g6] at this
   simpa using this
namespace V
theorem zrj {p q : Prop} (h : ¬ (¬ p /\ q)) : p ∨ ¬ q := by
 by_cases hp : p
 ·exact .inl hp
 ·exact .inr (fun hq => h ⟨hp, hq⟩)
def jy (l : List (List Int)) : Nat -> List (List Int)
 | 0 => []
 | m + 1 => jy l m ++ match l[m]? with | some x => (if m = 0 ∨ l[m - 1]? ≠ some x then [x] else []) | none => []
theorem zc8 {l : List (List Int)} {m : Nat} (h : m < l.length) (hn : m = 0 ∨ l[m - 1]? ≠ some l[m]) : jy l (m + 1) = jy l m ++ [l[m]] := by
 rw [jy, List.getElem?_eq_getElem h]
 simp only
 rw [if_pos hn]
theorem zbt {l : List (List Int)} {m : Nat} (h : m < l.length) (h0 : m ≠ 0) (e : l[m - 1]? = some l[m]) : jy l (m + 1) = jy l m := by
 rw [jy, List.getElem?_eq_getElem h]
 simp only
 rw [if_neg (fun q => q.elim h0 (fun q => q e)), List.append_nil]
theorem zb1 {l : List (List Int)} : ∀ {m : Nat}, m ≤ l.length -> (∀ j (hj : j < l.length), 1 ≤ j -> j < m -> l[j - 1]? ≠ some l[j]) -> jy l m = l.take m
 | 0, _, _ => by simp [jy]
 | m + 1, hm, h => by
  rw [zc8 (by omega) (zrj (fun q => h m (by omega) (Nat.pos_of_ne_zero q.1) (by omega) q.2)), zb1 (by omega) (fun j hj h1 h2 => h j hj h1 (by omega)), List.take_succ_eq_append_getElem (by omega)]
theorem zde {l : List (List Int)} {x : List Int} : ∀ {m : Nat}, x ∈ jy l m ↔ ∃ j, j < m /\ l[j]? = some x
 | 0 => by simp [jy]
 | m + 1 => by
  have ih := zde (l := l) (x := x) (m := m)
  by_cases h : m < l.length
  ·by_cases e : m ≠ 0 /\ l[m - 1]? = some l[m]
   ·rw [zbt h e.1 e.2, ih]
    constructor
    ·rintro ⟨j, hj, hx⟩; exact ⟨j, by omega, hx⟩
    ·rintro ⟨j, hj, hx⟩
     by_cases q : j = m
     ·subst q
      refine ⟨j - 1, by omega, ?_⟩
      rw [e.2, ← List.getElem?_eq_getElem h]; exact hx
     ·exact ⟨j, by omega, hx⟩
   ·rw [zc8 h (zrj e), List.mem_append, ih, List.mem_singleton]
    constructor
    ·rintro (⟨j, hj, hx⟩ | rfl)
     ·exact ⟨j, by omega, hx⟩
     ·exact ⟨m, by omega, List.getElem?_eq_getElem h⟩
    ·rintro ⟨j, hj, hx⟩
     by_cases q : j = m
     ·subst q
      rw [List.getElem?_eq_getElem h] at hx
      exact .inr (Option.some.inj hx).symm
     ·exact .inl ⟨j, by omega, hx⟩
  ·have hn : l[m]? = none := List.getElem?_eq_none (by omega)
   rw [jy, hn, List.append_nil, ih]
   constructor
   ·rintro ⟨j, hj, hx⟩; exact ⟨j, by omega, hx⟩
   ·rintro ⟨j, hj, hx⟩
    by_cases q : j = m
    ·subst q; rw [hn] at hx; cases hx
    ·exact ⟨j, by omega, hx⟩
theorem zkp {l : List (List Int)} (hs : l.Pairwise fun a b => ¬ cmpI b a < 0) : ∀ {m : Nat}, m ≤ l.length -> AscC cmpI (jy l m)
 | 0, _ => List.Pairwise.nil
 | m + 1, hm => by
  have ih := zkp hs (m := m) (by omega)
  have h : m < l.length := by omega
  by_cases e : m ≠ 0 /\ l[m - 1]? = some l[m]
  ·rw [zbt h e.1 e.2]; exact ih
  ·rw [zc8 h (zrj e)]
   refine List.pairwise_append.2 ⟨ih, List.pairwise_singleton _ _, fun x hx y hy => ?_⟩
   rw [List.mem_singleton] at hy
   subst hy
   obtain ⟨j, hj, hx⟩ := zde.1 hx
   have hjl : j < l.length := by omega
   rw [List.getElem?_eq_getElem hjl] at hx
   have hx := Option.some.inj hx
   subst hx
   have hp := List.pairwise_iff_getElem.1 hs
   have hm1 : m - 1 < l.length := by omega
   have g0 : l[m - 1] ≠ l[m] := fun q => e ⟨by omega, by rw [List.getElem?_eq_getElem hm1, q]⟩
   have h1 := hp (m - 1) m hm1 h (by omega)
   have h2 : cmpI l[m - 1] l[m] < 0 := by
    have a1 := zcj l[m - 1] l[m]
    have a2 : cmpI l[m - 1] l[m] ≠ 0 := fun q => g0 ((vx _ _).1 q)
    omega
   by_cases q : j = m - 1
   ·subst q; exact h2
   ·have h3 := hp j (m - 1) hjl hm1 (by omega)
    by_cases r : cmpI l[j] l[m - 1] = 0
    ·rw [(vx _ _).1 r]; exact h2
    ·have a1 := zcj l[j] l[m - 1]
     exact zbg _ _ _ (by omega) h2
theorem zq6 {l xs : List (List Int)} (hp : l.Perm xs) (hs : l.Pairwise fun a b => ¬ cmpI b a < 0) : jy l l.length = zai cmpI [] xs :=
 zgr zd3 (zkp hs (zwi _)) (zcs zd3 List.Pairwise.nil) fun x => by
  rw [zde, zco, ← hp.mem_iff]
  constructor
  ·rintro ⟨j, _, h⟩; exact .inr (List.mem_of_getElem? h)
  ·rintro (h | h)
   ·simp at h
   ·obtain ⟨j, hj, e⟩ := List.mem_iff_getElem.1 h
    exact ⟨j, hj, by rw [List.getElem?_eq_getElem hj, e]⟩
end V
theorem zu3 {ops : Array Oper} {rest : List Oper} {o : Oper} {a : Act} {w : World} {Q : Exit -> Act -> World -> Prop} (g5 : o.guard = none) (x : Operand) (ho : o.op = .call { callee := .builtin .clear, args := #[x], argTypes := #[55] })
  (g cap n m : Nat) (l : List (List Int)) (hr : ERow 26 32 dE w g l) (hn : n + m = l.length) (g7 : 0 < n) (hx : a.eval x = .slice (some ⟨g, m * 32, none⟩) n cap)
  (h : ∀ W, ERow 26 32 dE W g (l.take m) -> w.grownBy W (some g) -> wpList Tryz.prog ops Q rest (a.put o.dst (.tuple #[])) W) : wpList Tryz.prog ops Q (o :: rest) a w := by
 obtain ⟨z, hz⟩ : ∃ z : Array Value, z = (dE []).toArray := ⟨_, rfl⟩
 have g6 : ∀ w, (zeroValue 26).run Tryz.prog w = .ok (.agg z) w := by
  intro w; rw [hz]; exact Tryz.zeroValue26 w
 have g3 : ∀ v ∈ (Builtin.zeroCells z n).toList, v.oneCell' = true := fun v hv => by
  unfold Builtin.zeroCells at hv
  rw [Array.mem_toList_iff, Array.mem_map] at hv
  obtain ⟨i, _, rfl⟩ := hv
  have hs : z.size = 32 := by rw [hz]; simp [dE]
  rw [getElem!_pos _ _ (by rw [hs]; omega)]
  subst hz
  exact zb3 [] _ (by simp)
 have g0 : (Builtin.zeroCells z n).toList.length = n * 32 := by
  unfold Builtin.zeroCells
  rw [hz]; simp [dE]
 have g4 : (Builtin.clear_ #[55] o.type #[.slice (some ⟨g, m * 32, none⟩) n cap]).run Tryz.prog w = .ok (.tuple #[]) (w.setCells g (m * 32) (Builtin.zeroCells z n).toList) := by
  have g1 : ∀ j, j < n * 32 -> (w.cell? ⟨g, m * 32 + j, none⟩).isSome = true /\ w.frozen? ⟨g, m * 32 + j, none⟩ = false := fun j hj => by
   obtain ⟨cs, hg, hs, _⟩ := hr
   exact zy7
  have g2 := run_storeCells_cells (P := Tryz.prog) g (m * 32) (Builtin.zeroCells z n).toList 0 w (fun j hj => (g1 j (by rw [g0] at hj; exact hj)).1) (fun j hj => (g1 j (by rw [g0] at hj; exact hj)).2) g3
  simp only [Nat.add_zero] at g2
  obtain ⟨n', rfl⟩ : ∃ n', n = n' + 1 := ⟨n - 1, by omega⟩
  simp [Builtin.clear_, run_underlying Tryz.underlying55, g6, g2, Value.cells]
 refine wpList_plain g5 fun K hK => ?_
 unfold Oper.wp execOp
 simp only [ho, resolve, invoke, builtin, Sem.run_bind, Sem.run_pure, Result.andThen_ok, List.map_toArray, List.map_cons, List.map_nil, hx, g4]
 exact hK _ _ (h _ (hr.tail xi (by omega) _) (uk g _ _ w))
theorem zus (g cap : Nat) (l : List (List Int)) (w : World) (h : ERow 26 32 dE w g l) (hw : ∀ d ∈ l, qj d) (hl : l.length ≤ 1000) (k4 : l.length ≤ cap) :
  Calls Tryz.prog 72 #[.slice (some ⟨g, 0, none⟩) l.length cap] w fun e w' => e = .returned (.slice (some ⟨g, 0, none⟩) (V.jy l l.length).length cap) /\ ERow 26 32 dE w' g (V.jy l l.length) /\ w.grownBy w' (some g) := by
 have HR := zwg h
 have HW := zwg hw
 clear h hw
 by_cases h2 : l.length < 2
 ·have HE : Hid (V.jy l l.length = l) := zwg (by rw [V.zb1 (zwi _) (fun j hj h1 _ => by omega), List.take_length])
  go_enter Tryz.func72, Tryz.ntmps72
  go_wp2
  go_ret
  exact ⟨by rw [HE.out]; rfl, by rw [HE.out]; exact HR.out, vt w _⟩
 ·have k6 : ¬ (l.length : Int) < 2 := by omega
  obtain ⟨n, hn⟩ : ∃ n, n = l.length := ⟨_, rfl⟩
  have HN := zwg hn
  rw [← hn] at hl k4 h2 k6 ⊢
  clear hn
  go_enter Tryz.func72, Tryz.ntmps72
  go_wp2_with fail
  go_loopw [3] (fun kv wx => ∃ k : Nat, 1 ≤ k /\ k ≤ n /\ kv = .int .i64 k /\ Below w.heap.size w wx /\ (∀ j (hj : j < l.length), 1 ≤ j -> j < k -> l[j - 1]? ≠ some l[j])) (fun kv _ => n - (intOf kv).toNat)
  case atStart => exact ⟨1, zwi _, by omega, rfl, zwj _ _, fun j _ h1 hj => absurd hj (by omega)⟩
  case round =>
   obtain ⟨k, q2, q3, rfl, j6, j7⟩ := hrel
   have HBX := zwg j6
   have HE := zwg j7
   clear j6 j7
   obtain ⟨m, hm⟩ : ∃ m, k = m + 1 := ⟨k - 1, by omega⟩
   have HK := zwg hm
   have hkm : (k : Int) - 1 = (m : Int) := by omega
   have k7 : IntKind.i64.wrap (m : Int) = (m : Int) := IntWalk.i64_in _ (by omega)
   clear hm
   by_cases hlt : k < n
   ·have h6 : k < l.length := by rw [← HN.out]; exact hlt
    have g9 : m < l.length := by have := HK.out; omega
    have HX := zwg (HW.out _ (List.getElem_mem h6))
    have HY := zwg (HW.out _ (List.getElem_mem g9))
    have g4 : Hid (wr.drew.rangeAt g (k * 32) (zq l[k])) := zwg (by rw [← zg5 HX.out]; exact ((HR.out.below HBX.out).below (zwj _ wr).drew).at xi h6)
    have g5 : Hid (wr.drew.rangeAt g (m * 32) (zq l[m])) := zwg (by rw [← zg5 HY.out]; exact ((HR.out.below HBX.out).below (zwj _ wr).drew).at xi g9)
    have j8 := zwg ((HR.out.below HBX.out).below (zwj _ wr).drew)
    have HBD := zwg HBX.out.drew
    have q4 : (0 : Int) ≤ (k : Int) := by omega
    have q5 : (k : Int) < (n : Int) := by omega
    have q6 : (0 : Int) ≤ (m : Int) := by omega
    have q7 : (m : Int) < (n : Int) := by omega
    have g2 : Hid (l[m] = l[k] -> V.jy l (k + 1) = l.take k) := zwg (fun e => by
      have k8 : k ≠ 0 := by omega
      rw [V.zbt h6 k8 (by rw [show k - 1 = m by have := HK.out; omega, List.getElem?_eq_getElem g9, e]), V.zb1 (by omega) HE.out])
    have HNE : Hid (l[m] ≠ l[k] -> ∀ j (hj : j < l.length), 1 ≤ j -> j < k + 1 -> l[j - 1]? ≠ some l[j]) := zwg (fun e j hj h1 h3 => by
      by_cases q : j = k
      · subst q
        rw [show j - 1 = m by have := HK.out; omega, List.getElem?_eq_getElem g9]
        intro r; exact e (Option.some.inj r)
      · exact HE.out j hj h1 (by omega))
    generalize l[k] = x at *
    generalize l[m] = y at *
    go_wp2
    refine wp_region_still_lit (by kernel_rfl) (by kernel_rfl) ?_
    still_step
    still_step
    still_step
    refine wpStill_step (fun K hK => ?_)
    refine xg rfl (.tmp 18) rfl g (k * 32) rfl x HX.out g4.out (hK _ ?_)
    clear hK K
    still_step
    still_step
    still_step
    still_step
    refine wpStill_step (fun K hK => ?_)
    refine xg rfl (.tmp 23) rfl g (m * 32) rfl y HY.out g5.out (hK _ ?_)
    clear hK K
    refine wpStill_step (fun K hK => ?_)
    refine zkz rfl (.tmp 19) (.tmp 24) rfl x y HX.out HY.out rfl rfl (hK _ ?_)
    clear hK K
    refine wpStill_nil ?_
    change Exit.then _ _ _ _ wr.drew
    clear g4 g5 k7 hkm
    by_cases hxy : x = y
    ·rw [decide_eq_true hxy]
     have HS := zwg (g2.out hxy.symm)
     clear hxy g2 HNE
     have q8 : cap ≠ k := by omega
     have q9 : (k : Int) ≤ (n : Int) := by omega
     go_wp2_with fail
     go_loopw [3, 5] (fun kv iv wx => ∃ (q r : Nat) (cur : List (List Int)), 1 ≤ r /\ k + r ≤ n /\ q + 1 ≤ k + r /\ kv = .int .i64 q /\ iv = .int .i64 r /\ cur.length = l.length /\ ERow 26 32 dE wx g cur /\ cur.take q = V.jy l (k + r) /\ (∀ j (h : j < cur.length) (h' : j < l.length), k + r ≤ j + 1 -> cur[j] = l[j]) /\ w.grownBy wx (some g)) (fun _ iv _ => n - (intOf iv).toNat)
     case atStart => exact ⟨k, 1, l, zwi _, by omega, zwi _, rfl, rfl, rfl, j8.out, HS.out.symm, fun _ _ _ _ => rfl, zn HBD.out _⟩
     case round =>
      clear j8 HBD HBX HE HX HY
      obtain ⟨q, r, cur, v0, v1, hq, rfl, rfl, j9, h7, k0, h0, k1⟩ := hrel
      have g3 := zwg h7
      have HTK := zwg k0
      have g0 := zwg h0
      have h8 := zwg k1
      have g1 := zwg j9
      clear h7 k0 h0 k1 j9
      obtain ⟨s, hs⟩ : ∃ s, r = s + 1 := ⟨r - 1, by omega⟩
      have h4 := zwg hs
      have v2 : (r : Int) - 1 = (s : Int) := by omega
      have v3 : IntKind.i64.wrap (s : Int) = (s : Int) := IntWalk.i64_in _ (by omega)
      clear hs
      have v4 : (n : Int) - (k : Int) = ((n - k : Nat) : Int) := by omega
      by_cases hrlt : k + r < n
      ·have g6 : k + r < l.length := by rw [← HN.out]; exact hrlt
       have g7 : k + s < l.length := by have := h4.out; omega
       have h9 : k + r < cur.length := by rw [g1.out]; exact g6
       have j0 : k + s < cur.length := by rw [g1.out]; exact g7
       have HX := zwg (HW.out _ (List.getElem_mem g6))
       have HY := zwg (HW.out _ (List.getElem_mem g7))
       have j1 : Hid (cur[k + r] = l[k + r]) := zwg (g0.out _ h9 g6 (by omega))
       have j2 : Hid (cur[k + s] = l[k + s]) := zwg (g0.out _ j0 g7 (by have := h4.out; omega))
       have g4 : Hid (wr.drew.rangeAt g (k * 32 + r * 32) (zq l[k + r])) := zwg (by rw [← j1.out, ← zg5 (by rw [j1.out]; exact HX.out), show k * 32 + r * 32 = (k + r) * 32 by omega]; exact (g3.out.below (zwj _ wr).drew).at xi h9)
       have g5 : Hid (wr.drew.rangeAt g (k * 32 + s * 32) (zq l[k + s])) := zwg (by rw [← j2.out, ← zg5 (by rw [j2.out]; exact HY.out), show k * 32 + s * 32 = (k + s) * 32 by omega]; exact (g3.out.below (zwj _ wr).drew).at xi j0)
       have h5 := zwg (g3.out.below (zwj _ wr).drew)
       have j3 : Hid (w.grownBy wr.drew (some g)) := zwg (h8.out.trans (zr4 wr _))
       have g2 : Hid (l[k + s] = l[k + r] -> V.jy l (k + (r + 1)) = cur.take q) := zwg (fun e => by
         rw [HTK.out, show k + (r + 1) = k + r + 1 by omega]
         exact V.zbt g6 (by omega) (by rw [show k + r - 1 = k + s by have := h4.out; omega, List.getElem?_eq_getElem g7, e]))
       have HNE : Hid (l[k + s] ≠ l[k + r] -> (cur.set q l[k + r]).take (q + 1) = V.jy l (k + (r + 1))) := zwg (fun e => by
         have k9 : q < cur.length := by rw [g1.out, ← HN.out]; omega
         rw [show k + (r + 1) = k + r + 1 by omega, V.zc8 g6 (.inr (by rw [show k + r - 1 = k + s by have := h4.out; omega, List.getElem?_eq_getElem g7]; intro z; exact e (Option.some.inj z))), ← HTK.out,
           List.take_succ_eq_append_getElem (by rw [List.length_set]; exact k9), List.take_set_of_le (zwi _), List.getElem_set_self])
       have k2 : Hid (∀ j (h : j < (cur.set q l[k + r]).length) (h' : j < l.length), k + (r + 1) ≤ j + 1 -> (cur.set q l[k + r])[j] = l[j]) := zwg (fun j h h' hj => by
         rw [List.getElem_set_ne (by omega)]
         exact g0.out j (by rw [List.length_set] at h; exact h) h' (by omega))
       have j4 : Hid (∀ j (h : j < cur.length) (h' : j < l.length), k + (r + 1) ≤ j + 1 -> cur[j] = l[j]) := zwg (fun j h h' hj => g0.out j h h' (by omega))
       have q0 : Hid (q < cur.length) := zwg (by rw [g1.out, ← HN.out]; omega)
       have k5 : Hid ((cur.set q l[k + r]).length = l.length) := zwg (by rw [List.length_set]; exact g1.out)
       have v5 : (0 : Int) ≤ (r : Int) := by omega
       have v6 : (r : Int) < ((n - k : Nat) : Int) := by omega
       have v7 : (0 : Int) ≤ (s : Int) := by omega
       have v8 : (s : Int) < ((n - k : Nat) : Int) := by omega
       have v9 : (0 : Int) ≤ (q : Int) := by omega
       have y0 : (q : Int) < (n : Int) := by omega
       clear j1 j2 g3 h8 g0 HTK
       generalize l[k + r] = x at *
       generalize l[k + s] = y at *
       clear g6 g7 h9 j0
       go_wp2
       refine wp_region_still_lit (by kernel_rfl) (by kernel_rfl) ?_
       still_step
       still_step
       still_step
       refine wpStill_step (fun K hK => ?_)
       refine xg rfl (.tmp 37) rfl g (k * 32 + r * 32) rfl x HX.out g4.out (hK _ ?_)
       clear hK K
       still_step
       still_step
       still_step
       still_step
       refine wpStill_step (fun K hK => ?_)
       refine xg rfl (.tmp 42) rfl g (k * 32 + s * 32) rfl y HY.out g5.out (hK _ ?_)
       clear hK K
       refine wpStill_step (fun K hK => ?_)
       refine zkb rfl (.tmp 38) (.tmp 43) rfl x y HX.out HY.out rfl rfl (hK _ ?_)
       clear hK K
       refine wpStill_nil ?_
       change Exit.then _ _ _ _ wr.drew
       generalize wr.drew = wq at *
       by_cases hxy : x = y
       ·rw [decide_eq_true hxy]
        have j5 := zwg (g2.out hxy.symm)
        clear hxy g2 HNE g4 g5 k2
        go_wp2
        go_roundw
        case rel => exact ⟨q, r + 1, cur, by omega, by omega, by omega, rfl, by go_num, g1.out, h5.out, j5.out.symm, j4.out, j3.out⟩
        case measure => simp [intOf]; omega
       ·rw [decide_eq_false hxy]
        have j5 := zwg (HNE.out (fun e => hxy e.symm))
        clear hxy g2 HNE g5 j4
        go_wp2_with (first | (refine zfu rfl _ rfl g (k * 32 + r * 32) rfl x HX.out g4.out ?_) | (refine ztv xi zb3 zd5 rfl _ _ rfl g cur h5.out q q0.out rfl x (by rw [zcm HX.out]; rfl) ?_; intro w9 hr9 g8) | fail)
        have HR9 := zwg hr9
        have HG9 := zwg (j3.out.trans g8)
        clear hr9 g8
        go_wp2
        go_roundw
        case rel => exact ⟨q + 1, r + 1, _, by omega, by omega, by omega, by go_num, by go_num, k5.out, HR9.out, j5.out, k2.out, HG9.out⟩
        case measure => simp [intOf]; omega
      ·obtain rfl : r = n - k := by omega
       have HEQ : Hid (cur.take q = V.jy l n) := zwg (by rw [HTK.out, show k + (n - k) = n by omega])
       have q1 : Hid ((V.jy l n).length = q) := zwg (by rw [← HEQ.out, List.length_take, g1.out, ← HN.out]; omega)
       have y1 : ((n : Int) - (q : Int)) = ((n - q : Nat) : Int) := by omega
       have y2 : cap ≠ q := by omega
       have y3 : (0 : Int) ≤ (q : Int) := by omega
       have y4 : (q : Int) ≤ (n : Int) := by omega
       have y5 : (q : Int) ≤ (cap : Int) := by omega
       go_wp2_with (first | (refine zu3 rfl _ rfl g (cap - q) (n - q) q cur g3.out (by rw [g1.out, ← HN.out]; omega) (by omega) rfl ?_; intro w9 hr9 g8) | fail)
       rw [HEQ.out] at hr9
       have HR9 := zwg hr9
       have HG9 := zwg (h8.out.trans g8)
       clear hr9 g8
       go_ret
       exact ⟨by rw [q1.out]; rfl, HR9.out, HG9.out⟩
    ·rw [decide_eq_false hxy]
     have HNN := zwg (HNE.out (fun e => hxy e.symm))
     clear hxy g2 HNE
     generalize wr.drew = wq at *
     go_wp2
     go_roundw
     case rel => exact ⟨k + 1, by omega, by omega, by go_num, HBD.out, HNN.out⟩
     case measure => simp [intOf]; omega
   ·obtain rfl : k = n := by omega
    have k3 : Hid (V.jy l k = l) := zwg (by rw [V.zb1 (by rw [HN.out]; exact zwi _) HE.out, HN.out, List.take_length])
    go_wp2
    go_ret
    exact ⟨by rw [k3.out, ← HN.out]; rfl, by rw [k3.out]; exact HR.out.below HBX.out, zn HBX.out _⟩
end Go.Proofs.YtbikeahmldobkaaGreatDoor
