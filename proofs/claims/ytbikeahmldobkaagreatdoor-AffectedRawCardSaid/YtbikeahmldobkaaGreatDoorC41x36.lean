/-
  Lemmas for the law.
-/
import Derived.Test.YtbikeahmldobkaaGreatDoorC41x35
import Derived.Test.YtbikeahmldobkaaGreatDoorShelf2
import Derived.Lib.BytesEntry
import Derived.Shelf.SlSortCmp.WholeK
set_option linter.all false
set_option maxRecDepth 100000
set_option maxHeartbeats 1600000
namespace Go.Proofs.YtbikeahmldobkaaGreatDoor
open Go.RowKit
theorem zco {P : Program} (w : World) (a b : List Int) (x y : Addr) (n m c c' : Nat) (hn : a.length = n) (hm : b.length = m) (ha : ∀ j u, a[j]? = some u -> w.cell? (x.add j) = some (.int .u8 u)) (hb : ∀ j u, b[j]? = some u -> w.cell? (y.add j) = some (.int .u8 u)) :
  (Extern.BytealgCompare.compare #[.slice (some x) n c, .slice (some y) m c']).run P w = .ok (.int .i64 (Lib.compareBytes (Lib.bytesOf a) (Lib.bytesOf b))) w := by
 subst hn hm
 change Sem.run P (do pure (goInt (Extern.BytealgCompare.cmp (← Extern.Bytes.bytesOf (.slice (some x) a.length c)) (← Extern.Bytes.bytesOf (.slice (some y) b.length c'))))) w = _
 simp only [Extern.Bytes.bytesOf, Sem.run_bind, Sem.run_pure, Lib.run_loadBytesX w a x .empty ha, Lib.run_loadBytesX w b y .empty hb, Result.andThen]
 rw [Lib.cmp_eq]
 simp
 rfl
theorem V.cmp_bytes : ∀ {a b : List Int}, (∀ n ∈ a, 0 ≤ n /\ n < 256) -> (∀ n ∈ b, 0 ≤ n /\ n < 256) -> Lib.compareBytes (Lib.bytesOf a) (Lib.bytesOf b) = V.cmpI a b
 | [], [], _, _ => rfl
 | [], _ :: _, _, _ => rfl
 | _ :: _, [], _, _ => rfl
 | x :: a, y :: b, ha, hb => by
  have ih := V.cmp_bytes (fun n hn => ha n (List.mem_cons_of_mem _ hn)) (fun n hn => hb n (List.mem_cons_of_mem _ hn))
  have hx := ha x (by simp)
  have hy := hb y (by simp)
  unfold Lib.bytesOf at ih ⊢
  rw [List.map_cons, List.map_cons]
  unfold Lib.compareBytes V.cmpI
  rw [ih]
  have e : ∀ z : Int, 0 ≤ z -> z < 256 -> z.toNat.toUInt8.toNat = z.toNat := fun z h0 h1 => by
   rw [Nat.toUInt8, UInt8.toNat_ofNat']
   exact Nat.mod_eq_of_lt (by omega)
  simp only [UInt8.lt_iff_toNat_lt, e x hx.1 hx.2, e y hy.1 hy.2]
  by_cases h1 : x < y
  ·rw [if_pos (by omega), if_pos h1]
  ·rw [if_neg (by omega), if_neg h1]
   by_cases h2 : y < x
   ·rw [if_pos (by omega), if_pos h2]
   ·rw [if_neg (by omega), if_neg h2]
theorem qg.rng {d : List Int} (h : qg d) : ∀ n ∈ d, 0 ≤ n /\ n < 256 := fun n hn => by
 have := h.2 n hn
 simp [Lit.wf, IntKind.min, IntKind.max, IntKind.signed, IntKind.bits] at this
 omega
theorem zjc (g g2 : Nat) (a b : List Int) (w : World) (ha : qg a) (hb : qg b) (ka : w.rangeAt g 0 (zk a)) (kb : w.rangeAt g2 0 (zk b)) :
  Calls Tryz.prog 71 #[.slice (some ⟨g, 0, none⟩) 32 32, .slice (some ⟨g2, 0, none⟩) 32 32] w fun e w' => e = .returned (.int .i64 (V.cmpI a b)) /\ w' = w := by
 have HR := zpa (zco (P := Tryz.prog) w a b ⟨g, 0, none⟩ ⟨g2, 0, none⟩ 32 32 32 32 ha.1 hb.1 (fun j u hu => by rw [Addr.add_mid]; exact ka j _ (by unfold zk; rw [List.getElem?_map, hu]; rfl)) (fun j u hu => by rw [Addr.add_mid]; exact kb j _ (by unfold zk; rw [List.getElem?_map, hu]; rfl)))
 rw [V.cmp_bytes ha.rng hb.rng] at HR
 clear ka kb ha hb
 go_enter Tryz.func71, Tryz.ntmps71
 go_wp2
 rw [run_callFunc_extern Tryz.func108 (by kernel_rfl) (by kernel_rfl) (by kernel_rfl) (e := Extern.BytealgCompare.compare) (by kernel_rfl), HR.out]
 simp only [Result.andThen]
 rw [Oper.upon_value]
 go_wp2
 go_ret
 exact ⟨rfl, rfl⟩
theorem zm8 (w : World) (n : Nat) (os : Array Obj) : (Sort.grow w os).drewN n = Sort.grow (w.drewN n) os := by
 rfl
theorem zlt (a b : List Int) (w : World) (ha : qg a) (hb : qg b) :
  Calls Tryz.prog 70 #[.agg (dcells a), .agg (dcells b)] w fun e w' => e = .returned (.int .i64 (V.cmpI a b)) /\ ∃ q os', w' = Sort.grow (w.drewN q) os' := by
 obtain ⟨W0, hW0⟩ : ∃ W0, W0 = (w.alloc (.cells (dcells a) 26)).alloc (.cells (dcells b) 26) := ⟨_, rfl⟩
 have K0 : Hid (W0.rangeAt w.heap.size 0 (zk a)) := zpa (zef (T := 26) (fr := (0, 0)) (by rw [hW0, heap_alloc, if_neg (by simp), heap_alloc, if_pos rfl]))
 have K1 : Hid (W0.rangeAt (w.heap.size + 1) 0 (zk b)) := zpa (zef (T := 26) (fr := (0, 0)) (by rw [hW0, heap_alloc, if_pos (by simp)]))
 have HW := zpa hW0
 have HA := zpa ha
 have HB := zpa hb
 have HE : Hid (W0 = Sort.grow w #[.cells (dcells a) 26, .cells (dcells b) 26]) := zpa (by rw [hW0, Sort.alloc_eq_grow, Sort.alloc_eq_grow, Sort.grow_grow]; rfl)
 clear hW0 ha hb
 go_enter Tryz.func70, Tryz.ntmps70
 go_wp2_with fail
 rw [← HW.out]
 have hc : ∀ n, Calls Tryz.prog 71 #[.slice (some ⟨w.heap.size, 0, none⟩) 32 32, .slice (some ⟨w.heap.size + 1, 0, none⟩) 32 32] (W0.drewN n) fun e w' => e = .returned (.int .i64 (V.cmpI a b)) /\ w' = W0.drewN n := fun n => zjc _ _ a b _ HA.out HB.out (zh K0.out (below_drewN (zpd _ W0) n)) (zh K1.out (below_drewN (zpd _ W0) n))
 go_quiet (first | (go_at_call 71; refine Calls.quiet_of_same (hc _)) | fail)
 rename_i nq
 have HQ : Hid (W0.drewN nq = Sort.grow (w.drewN nq) #[.cells (dcells a) 26, .cells (dcells b) 26]) := zpa (by rw [HE.out, zm8])
 clear hc
 go_wp2
 go_ret
 exact ⟨rfl, nq, _, HQ.out⟩
abbrev Dg := { d : List Int // qg d }
instance : Inhabited Dg := ⟨⟨List.replicate 32 0, by unfold qg; decide⟩⟩
def gE (d : Dg) : List Value := zk d.1
theorem zmu (d : Dg) : (gE d).length = 32 := wg d.2
theorem gE_one (d : Dg) : ∀ v ∈ gE d, v.oneCell' = true := fun v hv => by
 unfold gE zk at hv
 obtain ⟨_, _, rfl⟩ := List.mem_map.1 hv
 rfl
def gC (x y : Dg) : Int := V.cmpI x.1 y.1
theorem gC_swo : Sort.SWO (ltOf gC) where
 irrefl x := by unfold ltOf gC; rw [(V.xm _ _).2 rfl]; rfl
 trans x y z h1 h2 := by
  unfold ltOf gC at *
  simp only [decide_eq_true_eq] at *
  exact V.ue _ _ _ h1 h2
 ntrans x y z h1 h2 := by
  unfold ltOf gC at *
  simp only [decide_eq_false_iff_not] at *
  intro h3
  by_cases e : V.cmpI x.1 y.1 = 0
  ·rw [(V.xm _ _).1 e] at h3; exact h2 h3
  ·have a1 := V.ux x.1 y.1
   exact h2 (V.ue _ _ _ (by omega) h3)
theorem dgs_of : ∀ {l : List (List Int)}, (∀ d ∈ l, qg d) -> ∃ ds : List Dg, ds.map (·.1) = l
 | [], _ => ⟨[], rfl⟩
 | d :: l, h => by
  obtain ⟨ds, e⟩ := dgs_of (fun c hc => h c (List.mem_cons_of_mem _ hc))
  exact ⟨⟨d, h d (by simp)⟩ :: ds, by rw [List.map_cons, e]⟩
theorem znw (ds : List Dg) : (ds.map (·.1)).flatMap dE = ds.flatMap gE := by
 rw [zjs (fun d hd => by obtain ⟨x, _, rfl⟩ := List.mem_map.1 hd; exact x.2), List.flatMap_map]
 rfl
theorem zll (ds : List Dg) {j : Nat} (hj : j < ds.length * 32) : (ds.flatMap gE)[j]? = some (Sort.flatK gE 32 ds.toArray)[j]! := by
 have hq : j / 32 < ds.length := by omega
 have e := xx zmu (l := ds) (j / 32) hq (j % 32) (by omega)
 rw [show j / 32 * 32 + j % 32 = j by omega] at e
 rw [e, Sort.get_flatK _ _ _ _ (by simpa using hj)]
 have e1 : ds.toArray[j / 32]! = ds[j / 32] := by rw [getElem!_pos _ _ (by simpa using hq)]; simp
 have h2 : j % 32 < (gE ds[j / 32]).length := by rw [zmu]; omega
 rw [e1, List.getElem?_eq_getElem h2, getElem!_pos (gE ds[j / 32]) (j % 32) h2]
theorem zl8 {w : World} {g : Nat} {ds : List Dg} (h : ERow 26 32 dE w g (ds.map (·.1))) : Sort.HoldsK gE 32 w g 0 ds.toArray := by
 obtain ⟨cs, hg, hs, hc⟩ := h
 intro j hj
 have hj' : j < ds.length * 32 := by simpa using hj
 refine ⟨?_, yy hg⟩
 rw [Nat.zero_add, cell_of_row w g _ _ _ _ hg, hc j (by simpa using hj'), znw, zll ds hj']
 rfl
theorem zl9 {w : World} {g n : Nat} {os : Array Obj} {l : List (List Int)} {ds : List Dg} (h : ERow 26 32 dE w g l) (hs : ds.length = l.length) :
  ERow 26 32 dE (sortWorldK gE 32 w g 0 n ds.toArray os) g (ds.map (·.1)) /\ w.grownBy (sortWorldK gE 32 w g 0 n ds.toArray os) (some g) := by
 have hlt := h.lt
 obtain ⟨cs, hg, hsz, hc⟩ := h
 have hg' : (sortWorldK gE 32 w g 0 n ds.toArray os).heap[g]? = some (.cells (Sort.putCells id 0 (Sort.flatK gE 32 ds.toArray) cs) 26 (0, 0)) := by
  unfold sortWorldK Sort.putRowK
  rw [Sort.heap_grow_old _ _ (by simpa using hlt)]
  simp [Sort.putRow, Sort.mapBlock, Sort.ahead, Array.getElem?_modify, hg, Sort.onCells]
 refine ⟨⟨_, hg', by simp [Sort.putCells]; omega, fun i hi => ?_⟩, rfl, rfl, rfl, ?_, fun i hi hne => ?_⟩
 ·have hi' : i < ds.length * 32 := by simpa using hi
  rw [znw, zll ds hi']
  have hcs : i < cs.size := by omega
  simp [Sort.putCells, hcs, hi']
 ·unfold sortWorldK Sort.putRowK; simp
 ·unfold sortWorldK Sort.putRowK
  rw [Sort.heap_grow_old _ _ (by simpa using hi)]
  have : g ≠ i := fun e => hne (by rw [e])
  simp [Sort.putRow, Sort.mapBlock, Sort.ahead, Array.getElem?_modify, this]
theorem zkj {w : World} {g n : Nat} {os : Array Obj} {l : List (List Int)} {d : Array Dg} (h : ERow 26 32 dE w g l) (hs : d.size = l.length) :
  ERow 26 32 dE (sortWorldK gE 32 w g 0 n d os) g (d.toList.map (·.1)) /\ w.grownBy (sortWorldK gE 32 w g 0 n d os) (some g) := by
 have := zl9 (n := n) (os := os) (ds := d.toList) h (by rw [Array.length_toList]; exact hs)
 rwa [Array.toArray_toList] at this
theorem znx (N : Nat) (v : Value) (l : List (List Int)) (w : World) (h : GRow 26 32 dE w N v l) (hw : ∀ d ∈ l, qg d) (h0 : l ≠ []) (hl : l.length ≤ 1000) :
  Calls Tryz.prog 69 #[v, .func (.func 70) #[] #[]] w fun e w' => e = .returned (.tuple #[]) /\
   ∃ g cap l', v = .slice (some ⟨g, 0, none⟩) l.length cap /\ N ≤ g /\ l'.Perm l /\ l'.Pairwise (fun a b => ¬ V.cmpI b a < 0) /\ ERow 26 32 dE w' g l' /\ w.grownBy w' (some g) := by
 rcases GRow.row jw h with ⟨_, e⟩ | ⟨g, cap, rfl, hN, hcap, hr⟩
 ·exact absurd e h0
 ·obtain ⟨ds, rfl⟩ := dgs_of hw
  have eg : ∀ args w, (callFunc 70 args).run Tryz.prog w = .ok (.enter 70 args) w := enters_of Tryz.func70 (by kernel_rfl) rfl
  have hcon := AnyQ.slices_SortFunc Tryz.sortDig 32 Tryz.isAgg26 Tryz.sizeOf26 gE zmu gE_one gC gC_swo 70 #[] g 0 cap ds.toArray w eg
   (fun _ _ _ _ x y => zlt x.1 y.1 _ x.2 y.2) (zl8 hr) hr.lt (by simp at hl ⊢; omega)
  change Calls Tryz.prog 69 _ _ _ at hcon
  have hlen : ds.toArray.size = (ds.map (·.1)).length := by simp
  rw [hlen] at hcon
  refine hcon.mono ?_
  rintro e w' ⟨rfl, d', n, os, hp, hs, rfl⟩
  have hd : d'.size = (ds.map (·.1)).length := by rw [List.length_map]; have := hp.1; simpa using this
  obtain ⟨hr1, hr2⟩ := zkj (n := n) (os := os) (d := d') hr hd
  generalize sortWorldK gE 32 w g 0 n d' os = w9 at *
  refine ⟨rfl, g, cap, _, rfl, hN, ?_, ?_, hr1, hr2⟩
  ·have hp2 := hp.2.2
   have e1 : (d'.extract 0 (ds.map (·.1)).length).toList = d'.toList := by rw [← hd]; simp
   have e2 : (ds.toArray.extract 0 (ds.map (·.1)).length).toList = ds := by simp
   rw [e1, e2] at hp2
   exact hp2.map _
  ·rw [List.pairwise_map, List.pairwise_iff_getElem]
   intro i j hi hj hij
   have := hs i j (Nat.zero_le _) hij (by rw [← hd]; simpa using hj)
   have hi' : i < d'.size := by simpa using hi
   have hj' : j < d'.size := by simpa using hj
   unfold ltOf gC at this
   rw [getElem!_pos d' i hi', getElem!_pos d' j hj'] at this
   simpa using this
end Go.Proofs.YtbikeahmldobkaaGreatDoor
