/-
  Lemmas for the law.
-/
import Derived.Test.YtbikeahmldobkaaGreatDoorC41x44
import Derived.Test.YtbikeahmldobkaaGreatDoorC41x47
import Derived.Test.YtbikeahmldobkaaGreatDoorC41x12
import Derived.Test.YtbikeahmldobkaaGreatDoorC41x18
import Derived.Test.YtbikeahmldobkaaGreatDoorC41x42
import Derived.Test.YtbikeahmldobkaaGreatDoorC41x45
set_option linter.all false
set_option maxRecDepth 100000
set_option maxHeartbeats 3200000
namespace Go.Proofs.YtbikeahmldobkaaGreatDoor
open Go.RowKit
def wakC : V.Comp := ⟨-1, 3, [97], [49], qh⟩
theorem zne : CompWf wakC := ⟨by decide, by decide, by decide, by decide, by decide, by decide⟩
def wakI : V.Itv := ⟨[], 0, [50], 2⟩
def wakA : V.Aff := ⟨3, [97], 3, [wakI]⟩
def wakN (u : Value) : NV := ⟨⟨⟨[119], 1, 5, [wakA]⟩, dig1 3⟩, u, .slice none 0 0⟩
theorem wakA_wf : AffWf wakA := ⟨by decide, fun x hx => by rw [List.mem_singleton.1 hx]; decide, by decide⟩
theorem wak_ok : V.qc (dig1 1) 0 [wakC] = true := by kernel_rfl
theorem zk6 (u : Value) : V.jq true ([wakN u].map (·.n)) [wakC] = [⟨0, [119], 5, [dig1 3]⟩] := by kernel_rfl
theorem zol (u : Value) : V.uf [wakC] (V.jq true ([wakN u].map (·.n)) [wakC]) 0 = [⟨0, [119], 5, [dig1 3]⟩] := by rw [zk6]; kernel_rfl
theorem wak_up (u : Value) : V.upTo 3 [97] [49] ([wakN u].map (·.n)) [[51], [50], [49, 46, 53]] 3 = ([50], true) := by kernel_rfl
theorem noteIE3 : ∃ ie z, Tryz.prog.info? 57 = some ie /\ ie.zero = some z /\ ie.size = 37 /\ z.cells.size = 37 := by
 have h : (match Tryz.prog.info? 57 with | some i => i.size == 37 && (match i.zero with | some z => z.cells.size == 37 | none => false) | none => false) = true := by kernel_rfl
 cases hq : Tryz.prog.info? 57 with
 | none => rw [hq] at h; cases h
 | some i =>
  rw [hq] at h
  simp only [Bool.and_eq_true, beq_iff_eq] at h
  obtain ⟨h1, h3⟩ := h
  cases hz : i.zero with
  | none => rw [hz] at h3; cases h3
  | some z =>
   rw [hz] at h3
   exact ⟨i, z, rfl, hz, h1, by simpa using h3⟩
theorem zme {ops : Array Oper} {rest : List Oper} {o : Oper} {a : Act} {w : World} {Q : Exit -> Act -> World -> Prop} (hgd : o.guard = none) (e1 : Operand) (ho : o.op = .buildSlice 31 1 #[(0, e1)])
  (x : NV) (hx : qg x.n.doc) (h1 : a.eval e1 = .agg (ncells x))
  (h : wpList Tryz.prog ops Q rest (a.put o.dst (.slice (some ⟨w.heap.size, 0, none⟩) 1 1)) (w.alloc (.cells (ncells x) 57))) : wpList Tryz.prog ops Q (o :: rest) a w := by
 obtain ⟨ie, z, hie, hz, hsz, _⟩ := noteIE3
 refine wpList_buildSlice hgd _ 57 1 _ ho (ncells x) ie z Tryz.underlying31 hie hz (by rw [hsz]; decide) (by rw [hsz]; decide) ?_ h
 have := Great.fill_whole (s := 37) (by decide) [Value.agg (ncells x)] ((Array.range (1 * ie.size)).map (z.cells[· % z.cells.size]!)) (fun v hv => by
   rcases List.mem_cons.1 hv with rfl | hv
   · exact zaq hx
   · cases hv) (by rw [hsz]; simp)
 rw [hsz] at this ⊢
 simp only [h1, List.map_toArray, List.map_cons, List.map_nil]
 exact this.trans (by simp [Value.cells])
theorem zdo (w : World) (hm : zm w) : Calls Tryz.prog 21 #[] w fun e w' => e = .returned (.bool true) /\ Below w.heap.size w w' := by
 have HM := zpa hm
 clear hm
 have hz1 : (w.alloc (.cells (ccells wakC) 60)).heap.size = w.heap.size + 1 := by simp
 have HIN : Hid ((Tryz.prog.info? 29).map (·.size) = some (icells (dig1 1) 0 (.slice (some ⟨w.heap.size, 0, none⟩) 1 1)).size) := zpa (by rw [jg, qo rfl])
 have HS : Hid ((icells qh 0 (.slice none 0 0)).size = (icells (dig1 1) 0 (.slice (some ⟨w.heap.size, 0, none⟩) 1 1)).size) := zpa (by rw [qo rfl, qo rfl])
 have HO : Hid ((icells (dig1 1) 0 (.slice (some ⟨w.heap.size, 0, none⟩) 1 1)).all (·.oneCell') = true) := zpa (zmj rfl)
 have hR0 : ((w.alloc (.cells (ccells wakC) 60)).alloc (.cells (icells qh 0 (.slice none 0 0)) 29)).heap[w.heap.size + 1]? = some (.cells (icells qh 0 (.slice none 0 0)) 29 (0, 0)) := by rw [← hz1]; exact heap_alloc_new _ _
 have HR0 := zpa hR0
 have hb2 : Below w.heap.size w ((w.alloc (.cells (ccells wakC) 60)).alloc (.cells (icells qh 0 (.slice none 0 0)) 29)) := ((zpd _ w).alloc (zpc _) _).alloc (by simp) _
 obtain ⟨W3, hW3⟩ : ∃ W3, W3 = (((w.alloc (.cells (ccells wakC) 60)).alloc (.cells (icells qh 0 (.slice none 0 0)) 29)).setRow (w.heap.size + 1) (icells (dig1 1) 0 (.slice (some ⟨w.heap.size, 0, none⟩) 1 1))) := ⟨_, rfl⟩
 have hb3 : Below w.heap.size w W3 := by rw [hW3]; exact hb2.trans (zdj (zjm _ _ _) (by simp) (by simp; omega))
 have HB3 := zpa hb3
 have HG3 : Hid (W3.heap[w.heap.size + 1]? = some (.cells (icells (dig1 1) 0 (.slice (some ⟨w.heap.size, 0, none⟩) 1 1)) 29 (0, 0))) := zpa (by rw [hW3]; exact setRow_heap _ _ _ _ _ _ hR0)
 have hZ3 : W3.heap.size = w.heap.size + 2 := by rw [hW3]; simp
 have HZ3 := zpa hZ3
 have HC3 : Hid (Comps W3 (.slice (some ⟨w.heap.size, 0, none⟩) 1 1) [wakC]) := zpa ⟨_, 1, rfl, fun j hj => by
   obtain rfl : j = 0 := by simpa using hj
   refine ⟨zne, w.heap.size, 0, rfl, by omega, ?_⟩
   have h1 : W3.heap[w.heap.size]? = some (.cells (ccells wakC) 60 (0, 0)) := by
     rw [hW3, setRow_other _ _ _ _ (by omega), heap_alloc, if_neg (by simp), heap_alloc, if_pos rfl]
   intro i u hu
   rw [cell_of_row _ _ _ _ _ _ h1]
   unfold ccells
   simpa using hu⟩
 have HW3 := zpa hW3
 obtain ⟨W6, hW6⟩ : ∃ W6, W6 = (((W3.alloc (.cells #[.string ⟨#[]⟩, .int .i64 0, .string ⟨#[50]⟩, .int .i64 2] 83)).alloc (.cells #[.int .i64 3, .string ⟨#[97]⟩, .int .i64 3, .slice (some ⟨W3.heap.size, 0, none⟩) 1 1] 70)).alloc (.cells (ncells (wakN (.slice (some ⟨W3.heap.size + 1, 0, none⟩) 1 1))) 57)) := ⟨_, rfl⟩
 have hb6 : Below W3.heap.size W3 W6 := by rw [hW6]; exact (((zpd _ W3).alloc (zpc _) _).alloc (by simp) _).alloc (by simp; omega) _
 have hz6 : W6.heap.size = W3.heap.size + 3 := by rw [hW6]; simp
 have hq4 : W6.heap[W3.heap.size]? = some (.cells #[.string ⟨#[]⟩, .int .i64 0, .string ⟨#[50]⟩, .int .i64 2] 83 (0, 0)) := by rw [hW6, heap_alloc, if_neg (by simp; omega), heap_alloc, if_neg (by simp), heap_alloc, if_pos rfl]
 have hq5 : W6.heap[W3.heap.size + 1]? = some (.cells #[.int .i64 3, .string ⟨#[97]⟩, .int .i64 3, .slice (some ⟨W3.heap.size, 0, none⟩) 1 1] 70 (0, 0)) := by rw [hW6, heap_alloc, if_neg (by simp), heap_alloc, if_pos (by simp)]
 have hq6 : W6.heap[W3.heap.size + 2]? = some (.cells (ncells (wakN (.slice (some ⟨W3.heap.size + 1, 0, none⟩) 1 1))) 57 (0, 0)) := by rw [hW6, heap_alloc, if_pos (by simp)]
 have hit : Itvs W6 (.slice (some ⟨W3.heap.size, 0, none⟩) 1 1) [wakI] := ⟨_, _, rfl, fun j hj => by
   obtain rfl : j = 0 := by simpa using hj
   exact ⟨W3.heap.size, 0, rfl, by omega, cells4 hq4⟩⟩
 have haf : Affs W6 (.slice (some ⟨W3.heap.size + 1, 0, none⟩) 1 1) [wakA] := ⟨_, _, rfl, fun j hj => by
   obtain rfl : j = 0 := by simpa using hj
   obtain ⟨c0, c1, c2, c3⟩ := cells4 hq5
   exact ⟨wakA_wf, W3.heap.size + 1, 0, _, _, rfl, by omega, c0, c1, c2, c3, hit⟩⟩
 have HDG3 : Hid (qg (dig1 3)) := zpa ⟨rfl, by decide⟩
 have HN6 : Hid (Notes W6 (.slice (some ⟨W3.heap.size + 1 + 1, 0, none⟩) 1 1) [wakN (.slice (some ⟨W3.heap.size + 1, 0, none⟩) 1 1)]) := zpa ⟨_, 1, rfl, fun j hj => by
   obtain rfl : j = 0 := by simpa using hj
   exact ⟨⟨HDG3.out, haf, rfl, (by show 1 ≤ maxLen; decide), (by show 1 ≤ maxLen; decide)⟩, W3.heap.size + 2, 0, rfl, by omega, by rw [Nat.zero_mul, Nat.add_zero]; exact kt hq6⟩⟩
 have HB6 := zpa (hb3.trans (hb6.mono hb3.size))
 have HC6 := zpa (HC3.out.below hb6)
 have HG6 := zpa ((hb6.block _ (by omega)).trans HG3.out)
 have HW6 := zpa hW6
 have HSZ := zpa (qo (d := dig1 1) rfl 0 (.slice (some ⟨w.heap.size, 0, none⟩) 1 1))
 clear hit haf hq4 hq5 hq6 hz6 hb6 hW6 HC3 HG3
 clear hR0 hb2 hb3 hW3 hZ3 hz1
 go_enter Tryz.func21, Tryz.ntmps21
 go_wp2_with (first
   | (refine wpList_buildTo rfl 26 #[(0, .const (.int .u8 1))] rfl _ rfl (dcells (dig1 1)) (by kernel_rfl) ?_)
   | (refine wpList_buildTo rfl 60 #[(0, .const (.int .i64 (-1))), (1, .const (.int .i64 3)), (2, .const (.string ⟨#[97]⟩)), (3, .const (.string ⟨#[49]⟩))] rfl _ rfl (ccells wakC) (by kernel_rfl) ?_)
   | (refine zoi rfl _ rfl wakC zne rfl ?_)
   | (refine wpList_buildTo rfl 29 #[(0, .tmp 6), (2, .tmp 8)] rfl _ rfl (icells (dig1 1) 0 (.slice (some ⟨w.heap.size, 0, none⟩) 1 1)) (by kernel_rfl) ?_)
   | (rw [zero_inv]; refine wpList_store_row rfl _ _ _ rfl (w.heap.size + 1) (icells (dig1 1) 0 (.slice (some ⟨w.heap.size, 0, none⟩) 1 1)) ?hx ?hy 29 _ HR0.out HIN.out HS.out HO.out ?hr; (case hx => rfl); (case hy => rfl); rw [← HW3.out])
   | (refine wpList_buildTo rfl 70 #[(0, .const (.int .i64 3)), (1, .const (.string ⟨#[97]⟩)), (2, .tmp 12)] rfl _ rfl #[.int .i64 3, .string ⟨#[97]⟩, .int .i64 3, .slice (some ⟨W3.heap.size, 0, none⟩) 1 1] (by kernel_rfl) ?_)
   | (refine wpList_buildTo rfl 26 #[(0, .const (.int .u8 3))] rfl _ rfl (dcells (dig1 3)) (by kernel_rfl) ?_)
   | (refine wpList_buildTo rfl 57 #[(0, .tmp 15), (1, .tmp 16)] rfl _ rfl (ncells (wakN (.slice (some ⟨W3.heap.size + 1, 0, none⟩) 1 1))) (by kernel_rfl) ?_)
   | (refine zme rfl _ rfl (wakN (.slice (some ⟨W3.heap.size + 1, 0, none⟩) 1 1)) HDG3.out rfl ?_; rw [← HW6.out])
   | (refine wpList_load_row rfl _ _ rfl (w.heap.size + 1) rfl _ (icells (dig1 1) 0 (.slice (some ⟨w.heap.size, 0, none⟩) 1 1)) (0, 0) _ HG6.out Tryz.underlying29 rfl (by rw [jg, HSZ.out]) ?_)
   | fail)
 refine (ze5 (dig1 1) 0 (.slice (some ⟨w.heap.size, 0, none⟩) 1 1) [wakC] (.slice (some ⟨W3.heap.size + 1 + 1, 0, none⟩) 1 1) [wakN (.slice (some ⟨W3.heap.size + 1, 0, none⟩) 1 1)] W6 (HM.out.below HB6.out) rfl (by decide) HC6.out (by decide) HN6.out (by simp)).mono ?_
 rw [wak_ok]
 rintro e w7 ⟨hv, us, rfl, hrow, hsaid, hb7⟩
 rw [zk6] at hsaid
 have hl7 : us.length = 1 := by rw [← List.length_map (f := (·.1)), hsaid]; rfl
 obtain ⟨p, rfl⟩ := List.length_eq_one_iff.1 hl7
 have hp : p.1.sev = 5 := by
  have := List.head_eq_of_cons_eq (show p.1 :: [] = _ :: [] from hsaid)
  rw [this]
 obtain ⟨ha, hc, hve⟩ := hrow.list.1.slice
 subst hve
 obtain ⟨g, off, rfl, hg, hcc⟩ := hrow.list.1.at 0 (by simp)
 have h2 : w7.cell? ⟨g, off + 2, none⟩ = some (.int .i64 5) := by
  have := hcc 2 (.int .i64 p.1.sev) rfl
  rw [hp, Nat.zero_mul, Nat.add_zero] at this
  exact this
 have HB7 := zpb HB6 hb7
 have HC7 := zpa (HC6.out.below hb7)
 have HN7 := zpa (HN6.out.below hb7)
 have HG7 := zpa ((hb7.block _ (Array.getElem?_eq_some_iff.1 HG6.out).1).trans HG6.out)
 clear hrow hsaid hb7 hcc hl7 hp hg HIN HS HO HW3 HW6
 simp only [List.length_cons, List.length_nil, Nat.zero_add]
 have HS8 : Hid (Strs (w7.alloc (.cells #[.string ⟨#[51]⟩, .string ⟨#[50]⟩, .string ⟨#[49, 46, 53]⟩] 9)) (.slice (some ⟨w7.heap.size, 0, none⟩) 3 3) [[51], [50], [49, 46, 53]]) := zpa (Strs.three w7 [51] [50] [49, 46, 53] _)
 have hb8 : Below w7.heap.size w7 (w7.alloc (.cells #[.string ⟨#[51]⟩, .string ⟨#[50]⟩, .string ⟨#[49, 46, 53]⟩] 9)) := (zpd _ w7).alloc (zpc _) _
 have HB8 := zpb HB7 hb8
 have HC8 := zpa (HC7.out.below hb8)
 have HN8 := zpa (HN7.out.below hb8)
 have HG8 := zpa ((hb8.block _ (Array.getElem?_eq_some_iff.1 HG7.out).1).trans HG7.out)
 have h28 := zg hb8 h2
 clear hb8 h2
 go_wp2_with fail
 generalize w7.alloc (.cells #[.string ⟨#[51]⟩, .string ⟨#[50]⟩, .string ⟨#[49, 46, 53]⟩] 9) = w8 at *
 generalize w7.heap.size = S7 at *
 refine (zke (.slice (some ⟨W3.heap.size + 1 + 1, 0, none⟩) 1 1) [wakN (.slice (some ⟨W3.heap.size + 1, 0, none⟩) 1 1)] 3 [97] [49] (.slice (some ⟨S7, 0, none⟩) 3 3) [[51], [50], [49, 46, 53]] w8 (HM.out.below HB8.out) HN8.out (by simp) (by decide) HS8.out (by decide) (by decide)).mono ?_
 rintro e w9 ⟨rfl, hb9⟩
 rw [show ([[51], [50], [49, 46, 53]] : List V.Bs).length = 3 from rfl, wak_up]
 have HB9 := zpb HB8 hb9
 have HC9 := zpa (HC8.out.below hb9)
 have HN9 := zpa (HN8.out.below hb9)
 have HG9 := zpa ((hb9.block _ (Array.getElem?_eq_some_iff.1 HG8.out).1).trans HG8.out)
 have h29 := zg hb9 h28
 clear hb9 h28
 go_wp2_with (first
   | (refine wpList_load_row rfl _ _ rfl (w.heap.size + 1) rfl _ (icells (dig1 1) 0 (.slice (some ⟨w.heap.size, 0, none⟩) 1 1)) (0, 0) _ HG9.out Tryz.underlying29 rfl (by rw [jg, HSZ.out]) ?_)
   | (refine zni rfl (.agg (icells (dig1 1) 0 (.slice (some ⟨w.heap.size, 0, none⟩) 1 1))) (ul (ty := 29) rfl rfl (zam HG9.out Tryz.underlying29 rfl (by rw [jg, HSZ.out]))) ?_)
   | fail)
 refine (zho (dig1 1) 0 (.slice (some ⟨w.heap.size, 0, none⟩) 1 1) [wakC] (.slice (some ⟨W3.heap.size + 1 + 1, 0, none⟩) 1 1) [wakN (.slice (some ⟨W3.heap.size + 1, 0, none⟩) 1 1)] 0 w9 (HM.out.below HB9.out) rfl (by decide) HC9.out (by decide) HN9.out (by simp)).mono ?_
 rw [wak_ok]
 rintro e w10 ⟨hv2, us2, rfl, hlist2, hsaid2, hb10⟩
 rw [zol] at hsaid2
 have hl2 : us2.length = 1 := by rw [← List.length_map (f := (·.1)), hsaid2]; rfl
 obtain ⟨ua, uc, hue⟩ := hlist2.1.slice
 rw [hl2] at hue
 subst hue
 have HB10 := zpb HB9 hb10
 clear hlist2 hsaid2 hb10 hl2
 go_wp2
 go_ret
 exact ⟨rfl, HB10.out⟩
theorem ZRow.weaken {w : World} {N M : Nat} {v : Value} {l : List Int} (h : ZRow w N v l) (hM : M ≤ N) : ZRow w M v l := by
 obtain ⟨h1, h2⟩ := h
 refine ⟨h1, ?_⟩
 rcases h2 with h2 | ⟨g, cap, cur, e, hb, rest⟩
 ·exact .inl h2
 ·exact .inr ⟨g, cap, cur, e, by omega, rest⟩
def zoh (l : List V.Comp) (ok : Bool) (i : Int) (w : World) (e : Ending) (w' : World) : Prop := ∃ v, e = .returned v /\ ZRow w' w.heap.size v (if ok = true /\ 0 ≤ i /\ i < l.length then (V.anc l i).reverse else []) /\ Below w.heap.size w w'
theorem zkt (d : List Int) (time : Int) (v : Value) (l : List V.Comp) (i : Int) (w : World) (hm : zm w) (hd : d.length = 32) (hdw : ∀ n ∈ d, (Lit.int .u8 n).wf = true) (hv : Comps w v l) (hl : l.length ≤ 100000) :
  Calls Tryz.prog 45 #[.agg (icells d time v), .int .i64 i] w (zoh l (V.qc d time l) i w) := by
 have HM := zpa hm
 have HL := zpa hv
 have HD := zpa hd
 have HDW := zpa hdw
 have h33 := xq hd time v
 have HSZ := zpa (qo hd time v)
 obtain ⟨va, vc, rfl, hjunk⟩ := hv
 have HB0 := zpa ((zpd w.heap.size w).alloc (zpc _) (.cells (icells d time (.slice va l.length vc)) 29))
 clear hd hdw hjunk hm
 go_enter Tryz.func45, Tryz.ntmps45
 go_wp2_with (first | (refine wpList_load_row rfl _ _ rfl w.heap.size rfl _ (icells d time (.slice va l.length vc)) (0, 0) _ (heap_alloc_new w _) Tryz.underlying29 rfl (by rw [jg, HSZ.out]) ?_) | fail)
 refine (zc2 d time (.slice va l.length vc) l _ (HM.out.below HB0.out) HD.out HDW.out (HL.out.below (HB0.out.mono (zpc _))) (by unfold maxLen; omega)).mono ?_
 rintro e w1 ⟨rfl, hb1⟩
 have HB1 := zpb HB0 hb1
 have hg1 : w1.heap[w.heap.size]? = some (.cells (icells d time (.slice va l.length vc)) 29 (0, 0)) := (hb1.block _ (by simp)).trans (heap_alloc_new w _)
 have hz1 : w.heap.size < w1.heap.size := Nat.lt_of_lt_of_le (by simp) hb1.size
 have hc33 : w1.cell? ⟨w.heap.size, 33, none⟩ = some (.slice va l.length vc) := by rw [cell_of_row w1 w.heap.size 33 _ _ _ hg1]; exact h33
 have HVO : Hid (V.qc d time l = true -> V.zy l l.length = true) := zpa (fun h => by unfold V.qc at h; exact (Bool.and_eq_true_iff.1 h).2)
 clear hb1 hg1 h33
 generalize V.qc d time l = ok at *
 rcases ok with _ | _
 ·go_wp2
  go_ret
  refine ⟨_, rfl, ?_, HB1.out⟩
  rw [if_neg (by simp)]
  exact ZRow.nil _ _
 ·have HO := zpa (HVO.out rfl)
  by_cases hi0 : i < 0
  ·go_wp2
   go_ret
   refine ⟨_, rfl, ?_, HB1.out⟩
   rw [if_neg (by omega)]
   exact ZRow.nil _ _
  ·by_cases hil : (l.length : Int) ≤ i
   ·go_wp2
    go_ret
    refine ⟨_, rfl, ?_, HB1.out⟩
    rw [if_neg (by omega)]
    exact ZRow.nil _ _
   ·have HIN : Hid (0 ≤ i /\ i < (l.length : Int)) := zpa ⟨by omega, by omega⟩
    have HAL := zpa (V.zel HO.out i (by omega))
    go_wp2
    clear hi0 hil
    go_loopw [5, 6] (fun ov kv wr => ∃ (pre : List Int) (kk : Int), kv = .int .i64 kk /\ -1 ≤ kk /\ kk < l.length /\ V.anc l i = pre ++ V.anc l kk /\ ZRow wr w1.heap.size ov pre.reverse /\ Below w1.heap.size w1 wr) (fun _ kv _ => (intOf kv + 1).toNat)
    case atStart => exact ⟨[], i, rfl, by have := HIN.out; omega, HIN.out.2, rfl, ZRow.nil _ _, zpd _ _⟩
    case round =>
     obtain ⟨pre, kk, rfl, hk1, hk2, hpre, hzs, hbr⟩ := hrel
     have HPRE := zpa hpre
     have hlen : pre.length ≤ l.length := by have h1 := HAL.out; rw [hpre, List.length_append] at h1; omega
     have hr33 := (hbr.cell (p := ⟨w.heap.size, 33, none⟩) hz1).trans hc33
     have HBR := zpa hbr
     have HBW := zpb HB1 hbr
     have HZS := zpa hzs
     obtain ⟨pa, pc, hpv, hjunk⟩ := hzs.zs
     subst hpv
     clear hjunk hbr hpre
     by_cases hk0 : 0 ≤ kk
     ·obtain ⟨m, hm⟩ := Int.eq_ofNat_of_zero_le hk0
      have hm' : kk = (m : Int) := hm
      clear hm
      subst hm'
      have hml : m < l.length := by omega
      obtain ⟨_, b, off, rfl, hblt, hxr⟩ := HL.out.at m hml
      have HNX : Hid (V.anc l i = (pre ++ [(m : Int)]) ++ V.anc l l[m].par) := zpa (by rw [HPRE.out, V.zcx HO.out hml]; simp)
      have hpl := V.ze3 HO.out hml
      have hp1 := hpl.1
      have hp2 := hpl.2
      have hc := zh hxr HBW.out 0 _ rfl
      rw [Nat.add_zero] at hc
      clear hxr hpl
      generalize l[m] = x at *
      have hi1 : (0 : Int) ≤ (m : Int) := by omega
      have hi2 : (m : Int) < (l.length : Int) := by omega
      have HZ1 : Hid (ZRow (wr.alloc (.cells #[.int .i64 (m : Int)] 3)) w1.heap.size (.slice (some ⟨wr.heap.size, 0, none⟩) 1 1) [(m : Int)]) := zpa (World.ownsRow_lit wr #[.int .i64 (m : Int)] 1 HBR.out.size (by decide) rfl)
      have HB2 : Hid (Below w1.heap.size w1 (wr.alloc (.cells #[.int .i64 (m : Int)] 3))) := zpa (HBR.out.alloc HBR.out.size _)
      have HZ2 := zpa (HZS.out.zs.below ((zpd _ wr).alloc (zpc _) (.cells #[.int .i64 (m : Int)] 3)))
      have hzw : w1.heap.size ≤ wr.heap.size := HBR.out.size
      go_wp2_with (first | (refine zk7 rfl _ _ rfl w1.heap.size (.slice (some ⟨wr.heap.size, 0, none⟩) 1 1) [(m : Int)] rfl HZ1.out _ pre.reverse rfl HZ2.out (by simp; omega) HB2.out.size ?_
                            intro v' w3 hi3 hg3
                            have hb3 : Below w1.heap.size w1 w3 := HB2.out.trans ⟨hg3.os, hg3.tape, hg3.output, hg3.size, fun q hq => hg3.block q (Nat.lt_of_lt_of_le hq HB2.out.size) (fun e => by simp [Value.ownBlock] at e; omega)⟩
                            have HZ3 := zpa hi3
                            have HB3 := zpa hb3
                            have hs33 := (hb3.cell (p := ⟨w.heap.size, 33, none⟩) hz1).trans hc33
                            have hcx : w3.cell? ⟨b, off + m * 36, none⟩ = some (.int .i64 x.par) := ((HB1.out.trans (hb3.mono HB1.out.size)).cell (p := ⟨b, off + m * 36, none⟩) hblt).trans ((HBW.out.cell (p := ⟨b, off + m * 36, none⟩) hblt).symm.trans hc)
                            clear hi3 hg3 hb3 hr33 hc) | fail)
      go_roundw
      case rel => exact ⟨pre ++ [(m : Int)], x.par, rfl, hp1, by omega, HNX.out, by rw [List.reverse_append]; exact HZ3.out, HB3.out⟩
      case measure => simp [intOf]; omega
     ·have HEND : Hid (V.anc l i = pre) := zpa (by rw [HPRE.out, V.zio (by omega), List.append_nil])
      go_wp2
      go_ret
      refine ⟨_, rfl, ?_, HBW.out⟩
      rw [if_pos ⟨rfl, HIN.out⟩, HEND.out]
      have hz := HZS.out.weaken (M := w.heap.size) (Nat.le_of_lt hz1)
      rw [List.length_reverse] at hz
      exact hz
end Go.Proofs.YtbikeahmldobkaaGreatDoor
