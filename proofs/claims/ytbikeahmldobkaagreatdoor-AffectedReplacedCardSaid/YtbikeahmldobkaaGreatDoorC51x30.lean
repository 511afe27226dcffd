/-
  Lemmas for the law.
-/
import Derived.Test.YtbikeahmldobkaaGreatDoorC51x29
import Derived.Test.YtbikeahmldobkaaGreatDoorC51x08
import Derived.Carry
set_option linter.all false
set_option maxRecDepth 100000
set_option maxHeartbeats 12800000
namespace Go.Proofs.YtbikeahmldobkaaGreatDoor
open Go.RowKit Go.Maps
open Go.WideMaps (keyOf_string_mk)
theorem int_sz : (Tryz.prog.info? 3).map (·.size) = some 1 := by kernel_rfl
theorem str_sz : (Tryz.prog.info? 9).map (·.size) = some 1 := by kernel_rfl
theorem zsz : (Tryz.prog.info? 55).map (·.size) = some 1 := by kernel_rfl
theorem zpu (mb : Option Nat) (W : World) : Calls Tryz.prog 68 #[.map mb] W fun e w' => e = .returned (.func (.func 105) #[] #[.pointer (some ⟨W.heap.size, 0, none⟩)]) /\ w' = W.alloc (.cells #[.map mb] 106) :=
 callsIn_wide.1 (AnyZ.keys_in Tryz.keysIt Fence.wide 5 trivial rfl mb W)
theorem sorts_it (m : Nat) : AnyZ.SortsIn Tryz.prog Tryz.sortedIt_ren Fence.wide m :=
 ⟨fun blk off cap ss W hH g0 g1 => callsIn_wide.2 (AnyM.slices_Sort_string Tryz.sortIt blk off cap ss W hH g0 g1),
  fun p cap W => callsIn_wide.2 (AnyM.slices_Sort_string_none Tryz.sortIt p cap W)⟩
theorem zq8 (b nn : Nat) (D0 : DataW Value) (w : World) (g0 : w.ownsMap Tryz.prog 9 zdh b nn D0) (g2 : Maps.size D0 ≤ 1000000) :
  Calls Tryz.prog 67 #[.func (.func 105) #[] #[.pointer (some ⟨w.heap.size, 0, none⟩)]] (w.alloc (.cells #[.map (some b)] 106)) fun e w' => ∃ (v : Value) (ss : List (List UInt8)), e = .returned v /\ ss.Perm (strKeys D0) /\
   w'.ownsRow (w.alloc (.cells #[.map (some b)] 106)).heap.size 9 1 v ss.length ((ss.mergeSort (fun x y => decide (x ≤ y))).map encStr) /\ (v = .slice none 0 0 ↔ ss = []) /\ Below (w.alloc (.cells #[.map (some b)] 106)).heap.size (w.alloc (.cells #[.map (some b)] 106)) w' := by
 have g1 := g0.lt
 have hseq : SeqGives Fence.wide 2 Tryz.prog 105 #[.pointer (some ⟨w.heap.size, 0, none⟩)] encStr (fun ss => ss.Perm (strKeys D0)) (Maps.size D0) (w.alloc (.cells #[.map (some b)] 106)) :=
  AnyZ.keys_gives (ρ := Tryz.keysIt_ren) { Tryz.keysIt with } Fence.wide _ trivial rfl (by omega) w.heap.size b nn D0 _ (by simp) (by simp) (by
    obtain ⟨es, clock, hb, Ft, hs, hD⟩ := g0
    exact ⟨es, clock, (Below.heap_alloc _ _ b g1).trans hb, Ft, hs, hD⟩)
 exact callsIn_wide.1 (AnyZ.sorted_in Tryz.sortedIt Fence.wide 5 trivial trivial trivial trivial rfl (by omega) (sorts_it _) (enters_of Tryz.func104 (by kernel_rfl) rfl) 105 #[.pointer (some ⟨w.heap.size, 0, none⟩)] trivial (enters_of Tryz.func105 (by kernel_rfl) rfl) _ _ (by unfold maxLen; omega) (by omega) _ hseq)
theorem zla {ops : Array Oper} {rest : List Oper} {o : Oper} {a : Act} {w : World} {Q : Exit -> Act -> World -> Prop} (g0 : o.guard = none) (m x : Operand) (T : TypeId) (ho : o.op = .lookup T m x false) (b : Nat) (hm : a.eval m = .map (some b)) (key v : Value) (hx : a.eval x = key)
  (hr : (Instr.lookup T (.map (some b)) key false).run Tryz.prog w = .ok v w) (h : wpList Tryz.prog ops Q rest (a.put o.dst v) w) : wpList Tryz.prog ops Q (o :: rest) a w := by
 refine wpList_plain g0 fun K hK => ?_
 unfold Oper.wp execOp
 simp only [ho, hm, hx, Sem.run_bind, hr, Result.andThen_ok, Sem.run_pure]
 exact hK _ _ h
theorem hit_new (w : World) (h : V.Hit) (u : Sd) : ∀ j x, (hE (h, u))[j]? = some x -> (w.alloc (.cells #[.int .i64 h.comp, .string ⟨h.id.toArray⟩, .int .i64 h.sev, .slice u.a u.n u.c] 63)).cell? ⟨w.heap.size, j, none⟩ = some x := fun j x hx => by
 rw [World.cell?_alloc_new]
 simpa [hE, Sd.v] using hx
theorem str_flat (L : List V.Bs) : L.flatMap sE = L.map encStr := by
 induction L with
 | nil => rfl
 | cons x L ih => rw [List.flatMap_cons, List.map_cons, ih]; rfl
theorem FInv.look_of {N M : Nat} {i : Int} {c : V.Comp} {ys : List V.Note} {U : V.Bs -> Sd} {D : DataW Value} {W0 W : World} (h : FInv N M i c ys U D W0) (hm : W.ownsMap Tryz.prog 9 zdh M ys.length D) (id : V.Bs) (hl : id.length ≤ maxLen) (g1 : id ∈ V.kg ys c) : (Instr.lookup 106 (.map (some M)) (.string ⟨id.toArray⟩) false).run Tryz.prog W = .ok (.agg #[.int .i64 i, .string ⟨id.toArray⟩, .int .i64 (V.sevN (V.selN ys c id)), (U id).v]) W := by
 obtain ⟨v, ps, g0, hv⟩ := hm.lookup zb1 Tryz.underlying106 (Tryz.zeroValue63 W) (zd := .held zf4) (zp := []) rfl (key := .string ⟨id.toArray⟩) (kl := .string id) (keyOf_string_mk Tryz.underlying9 (by simpa [ByteArray.size] using hl))
 rw [h.val id] at hv
 unfold zdh at hv
 simp only [Option.some.injEq, Prod.mk.injEq, DataW.held.injEq] at hv
 rw [g0, hv.1]
 unfold zdl
 rw [if_pos g1]
structure HPInv (B : Nat) (W1 : World) (N2 : Nat) (i : Int) (c : V.Comp) (ys : List V.Note) (U : V.Bs -> Sd) (Dm : DataW Value) (L : List V.Bs) (sv ov : Value) (j r : Nat) (us : List (V.Hit × Sd)) (W : World) : Prop where
 out : HRow N2 W ov us
 said : us.map (·.1) = (L.take j).map (V.hitN ys i c)
 below : Below (B + 1) W1 W
 keys : GRow 9 1 sE W N2 sv L
 map : W.ownsMap Tryz.prog 9 zdh (B + 1) ys.length Dm
 rows : ∀ id ∈ L.drop r, GRow 26 32 dE W (B + 2) (U id).v ((V.selN ys c id).map (·.doc))
 done : ∀ p ∈ us, ∀ b, p.2.v.ownBlock = some b -> ∃ id ∈ L.take j, (U id).v.ownBlock = some b
 big : N2 ≤ W.heap.size
 base : B + 2 ≤ N2
 ub : ∀ id b, (U id).v.ownBlock = some b -> b < N2
 b1 : B + 1 ≤ W1.heap.size
namespace HPInv
variable {B : Nat} {W1 : World} {N2 : Nat} {i : Int} {c : V.Comp} {ys : List V.Note} {U : V.Bs -> Sd} {Dm : DataW Value} {L : List V.Bs} {sv ov : Value} {j r : Nat} {us : List (V.Hit × Sd)} {W W' : World}
theorem call (h : HPInv B W1 N2 i c ys U Dm L sv ov j r us W) (hb : Below W.heap.size W W') : HPInv B W1 N2 i c ys U Dm L sv ov j r us W' :=
 ⟨h.out.below hb, h.said, h.below.trans (hb.mono (Nat.le_trans (Nat.le_trans (by omega) h.base) h.big)), GRow.below h.keys hb, h.map.kept (zm hb none) (by simp), fun id g0 => GRow.below (h.rows id g0) hb, h.done, Nat.le_trans h.big hb.size, h.base, h.ub, h.b1⟩
theorem box (h : HPInv B W1 N2 i c ys U Dm L sv ov j r us W) {Y : Nat} (hg : W.grownBy W' (some Y)) (hY : N2 ≤ Y) (ht : ∃ cs fr, W.heap[Y]? = some (.cells cs 63 fr)) (ho : ov.ownBlock ≠ some Y := by assumption) : HPInv B W1 N2 i c ys U Dm L sv ov j r us W' := by
 obtain ⟨cs, fr, ht⟩ := ht
 refine ⟨⟨jz h.out.row hg (fun b hb e => by cases e; exact ho hb), fun p hp => (h.out.each p hp).grow hg (fun b e => by cases e; exact ⟨_, _, _, ht, by decide⟩)⟩, h.said, h.below.grown hg (Nat.le_trans (Nat.le_trans (by omega) h.base) h.big) (fun b e => by cases e; have := h.base; omega), jz h.keys hg (fun b hb e => ?_), h.map.kept hg (fun e => ?_), fun id g0 => jz (h.rows id g0) hg (fun b hb e => ?_), h.done, Nat.le_trans h.big hg.size, h.base, h.ub, h.b1⟩
 ·cases e
  obtain ⟨cs', h0⟩ := yd h.keys hb
  rw [ht] at h0
  cases h0
 ·cases e
  have := h.base
  omega
 ·cases e
  have := h.ub id _ hb
  omega
theorem sort (h : HPInv B W1 N2 i c ys U Dm L sv ov j j us W) (hn : L.Nodup) {g : Nat} (hj : j < L.length) (hg : W.grownBy W' (some g)) (hU : (U L[j]).v.ownBlock = some g) (hB : B + 2 ≤ g) (ha : ∀ a b, a ≠ b -> ∀ g, (U a).v.ownBlock = some g -> (U b).v.ownBlock ≠ some g) :
  HPInv B W1 N2 i c ys U Dm L sv ov j (j + 1) us W' := by
 have hp := List.pairwise_iff_getElem.1 hn
 have g1 := h.ub _ _ hU
 refine ⟨⟨GRow.kept h.out.row hg (fun b e => by cases e; exact g1), fun p g2 => (h.out.each p g2).apart hg (fun b hb e => ?_)⟩, h.said, h.below.grown hg (Nat.le_trans (Nat.le_trans (by omega) h.base) h.big) (fun b e => by cases e; omega), GRow.kept h.keys hg (fun b e => by cases e; exact g1), h.map.kept hg (fun e => by cases e; omega), fun id g0 => jz (h.rows id ?_) hg (fun b hb e => ?_), h.done, Nat.le_trans h.big hg.size, h.base, h.ub, h.b1⟩
 ·cases e
  obtain ⟨id, g0, hb2⟩ := h.done p g2 _ hb
  obtain ⟨m, hm, rfl⟩ := List.mem_iff_getElem.1 g0
  rw [List.getElem_take] at hb2
  have g3 : m < j := by rw [List.length_take] at hm; omega
  exact ha L[m] L[j] (hp m j (by omega) hj g3) g hb2 hU
 ·rw [show L.drop j = L[j] :: L.drop (j + 1) from List.drop_eq_getElem_cons hj]
  exact List.mem_cons_of_mem _ g0
 ·cases e
  obtain ⟨m, hm, rfl⟩ := List.mem_iff_getElem.1 g0
  rw [List.getElem_drop] at hb
  rw [List.length_drop] at hm
  exact ha L[j] L[j + 1 + m] (hp j (j + 1 + m) hj (by omega) (by omega)) g hU hb
theorem add (h : HPInv B W1 N2 i c ys U Dm L sv ov j (j + 1) us W) {ov' : Value} {x : V.Hit} {u : Sd} (hr : GRow 63 4 hE W' N2 ov' (us ++ [(x, u)])) (hg : W.grownBy W' ov.ownBlock) (hd : Digs W u.v x.docs) (hs : (L.take (j + 1)).map (V.hitN ys i c) = (L.take j).map (V.hitN ys i c) ++ [x]) (id : V.Bs) (g0 : ∀ a, a ∈ L.take (j + 1) ↔ a ∈ L.take j ∨ a = id) (hU : (U id).v.ownBlock = u.v.ownBlock) : HPInv B W1 N2 i c ys U Dm L sv ov' (j + 1) (j + 1) (us ++ [(x, u)]) W' := by
 have ht : ∀ b, ov.ownBlock = some b -> N2 ≤ b /\ ∃ cs, W.heap[b]? = some (.cells cs 63 (0, 0)) := fun b hb => ⟨h.out.row.block b hb, yd h.out.row hb⟩
 have g1 : ∀ {v : Value} {l : List (List Int)}, Digs W v l -> Digs W' v l := fun hd => hd.grow hg (fun b e => by
   obtain ⟨_, cs, hcs⟩ := ht b e
   exact ⟨cs, _, _, hcs, by decide⟩)
 refine ⟨⟨hr, fun p hp => ?_⟩, ?_, h.below.grown hg (Nat.le_trans (Nat.le_trans (by omega) h.base) h.big) (fun b e => by have := (ht b e).1; have := h.base; omega), jz h.keys hg (fun b hb e => ?_), h.map.kept hg (fun e => ?_), fun id g0 => jz (h.rows id g0) hg (fun b hb e => ?_), fun p hp b hb => ?_, Nat.le_trans h.big hg.size, h.base, h.ub, h.b1⟩
 ·rcases List.mem_append.1 hp with hp | hp
  ·exact g1 (h.out.each p hp)
  ·rw [List.mem_singleton] at hp; subst hp; exact g1 hd
 ·rw [List.map_append, h.said, hs]; rfl
 ·obtain ⟨_, cs, hcs⟩ := ht b e
  obtain ⟨cs', h0⟩ := yd h.keys hb
  rw [hcs] at h0
  cases h0
 ·have := (ht _ e.symm).1
  have := h.base
  omega
 ·have := (ht b e).1
  have := h.ub id b hb
  omega
 ·rcases List.mem_append.1 hp with hp | hp
  ·obtain ⟨a, ha, hb2⟩ := h.done p hp b hb
   exact ⟨a, (g0 a).2 (.inl ha), hb2⟩
  ·rw [List.mem_singleton] at hp
   subst hp
   exact ⟨id, (g0 id).2 (.inr rfl), by rw [hU]; exact hb⟩
end HPInv
theorem hits_any (i : Int) (c : V.Comp) (v : Value) (xs : List NV) (w : World) (hm : zj w) (hc : CompWf c) (hv : Notes w v xs) (hl : xs.length ≤ 1000) (y1 : c.ver.length ≤ maxLen) :
  Calls Tryz.prog 39 #[.int .i64 i, .agg (ccells c), v] w fun e w' => ∃ v' us, e = .returned v' /\ HRow w.heap.size w' v' us /\ us.map (·.1) = V.ul (xs.map (·.n)) i c /\ Below w.heap.size w w' := by
 obtain ⟨pa, pc, rfl⟩ := hv.slice
 have HM := zu8 hm
 have HV := zu8 hv
 have HC := zu8 hc
 have U8 := zu8 y1
 obtain ⟨W1, j4⟩ : ∃ W1, W1 = (w.alloc (.cells (ccells c) 60)).alloc (.map #[] 0) := ⟨_, rfl⟩
 have HB1 : Hid (Below w.heap.size w W1) := zu8 (by rw [j4]; exact ((zvb _ w).alloc (zva _) _).alloc (by simp) _)
 have h7 : Hid (W1.heap.size = w.heap.size + 2) := zu8 (by rw [j4]; simp)
 have V6 : Hid (W1.heap[w.heap.size]? = some (.cells (ccells c) 60 (0, 0))) := zu8 (by rw [j4, heap_alloc, if_neg (by simp), heap_alloc, if_pos rfl])
 have V7 : Hid (FInv (w.heap.size + 2) (w.heap.size + 1) i c [] (fun _ => ⟨none, 0, 0⟩) (.map []) W1) := zu8 (by
   have y4 : W1.ownsMap Tryz.prog 9 zdh (w.heap.size + 1) 0 (.map []) := by
     have := World.ownsMap_made (w.alloc (.cells (ccells c) 60)) Tryz.prog 9 zdh
     rw [j4]
     simpa using this
   exact ⟨y4, fun id => by simp [Maps.has, V.kg, V.idsN, V.zbj], fun id => by simp [DataW.atKey, zdl, V.kg, V.idsN, V.zbj], fun id => GRow.nil _ _, fun _ _ => rfl, fun _ _ _ g hg => (by cases hg), by omega⟩)
 have HW := zu8 j4
 have V8 : (w.alloc (.cells (ccells c) 60)).heap.size = w.heap.size + 1 := by simp
 clear hm hv hc j4 y1
 have y4 := @run_makeMap Tryz.prog
 go_enter Tryz.func39, Tryz.ntmps39
 go_wp2_with fail
 rw [← HW.out]
 clear HW V8 y4
 go_loopw [18] (fun iv wx => ∃ (k : Nat) (U : V.Bs -> Sd) (D : DataW Value), k ≤ xs.length /\ iv = .int .i64 k /\ FInv (w.heap.size + 2) (w.heap.size + 1) i c ((xs.take k).map (·.n)) U D wx /\ Below (w.heap.size + 1) W1 wx) (fun iv _ => xs.length - (intOf iv).toNat)
 case atStart => exact ⟨0, _, _, Nat.zero_le _, rfl, V7.out, zvb _ _⟩
 case round =>
  obtain ⟨k, U, Dm, hk, rfl, G8, hb⟩ := hrel
  have g3 := zu8 G8
  have HBX := zu8 hb
  have G9 : Hid (Below w.heap.size w wr) := zu8 (HB1.out.trans (hb.mono (by have := h7.out; omega)))
  clear G8 hb
  by_cases hlt : k < xs.length
  ·obtain ⟨hok, g, off, hpa, hg, hr⟩ := (HV.out.below G9.out).at k hlt
   subst hpa
   have HOK := zu8 hok
   have HR := zu8 hr
   have i1 : (0 : Int) ≤ (k : Int) := by omega
   have i2 : (k : Int) < (xs.length : Int) := by omega
   have HST : Hid ((xs.take (k + 1)).map (·.n) = (xs.take k).map (·.n) ++ [xs[k].n]) := zu8 (by rw [List.take_succ_eq_append_getElem hlt, List.map_append]; rfl)
   have h8 : Hid (((xs.take k).map (·.n)).length ≤ 1000) := zu8 (by simp; omega)
   clear hok hr
   generalize xs[k] = x at *
   generalize (xs.take k).map (·.n) = ys at *
   have V9 : (wr.alloc (.cells (ncells x) 57)).heap.size = wr.heap.size + 1 := by simp
   have hb2 : Below wr.heap.size wr (wr.alloc (.cells (ncells x) 57)) := (zvb _ wr).alloc (zva _) _
   have y5 : Hid ((wr.alloc (.cells (ncells x) 57)).heap[wr.heap.size]? = some (.cells (ncells x) 57 (0, 0))) := zu8 (heap_alloc_new wr _)
   have U9 : w.heap.size + 2 ≤ wr.heap.size := by have := HBX.out.size; have := h7.out; omega
   have HF2 := zu8 (g3.out.call hb2)
   have HB2 := zu8 (HBX.out.trans (hb2.mono (by omega)))
   have V0 := zu9 G9 hb2
   have k5 := zu8 (HOK.out.below hb2)
   have y6 : Hid (w.heap.size + 1 < wr.heap.size) := zu8 (by omega)
   obtain ⟨x0, x1, x2, x3, xr, x36⟩ := um HOK.out.doc (yp y5.out)
   simp only [Nat.zero_add] at x0 x1 x2 x3
   have q6 : (wr.alloc (.cells (ncells x) 57)).heap[w.heap.size]? = some (.cells (ccells c) 60 (0, 0)) := (HB2.out.block w.heap.size (by have := h7.out; omega)).trans V6.out
   have k1 : (wr.alloc (.cells (ncells x) 57)).cell? ⟨w.heap.size, 1, none⟩ = some (.int .i64 c.sch) := by rw [cell_of_row _ _ _ _ _ _ q6]; exact zjq c
   have k2 : (wr.alloc (.cells (ncells x) 57)).cell? ⟨w.heap.size, 2, none⟩ = some (.string ⟨c.name.toArray⟩) := by rw [cell_of_row _ _ _ _ _ _ q6]; exact zj7 c
   have k3 : (wr.alloc (.cells (ncells x) 57)).cell? ⟨w.heap.size, 3, none⟩ = some (.string ⟨c.ver.toArray⟩) := by rw [cell_of_row _ _ _ _ _ _ q6]; exact zjl c
   clear q6
   clear hb2 U9
   go_wp2_with (first | (refine zpd rfl _ rfl g (off + k * 37) rfl x HOK.out.doc HR.out ?_) | (refine zrz rfl _ _ rfl _ _ rfl x HOK.out.doc (nl_one HOK.out) rfl rfl ?_; generalize wr.alloc (.cells (ncells x) 57) = w2 at *; clear hg; generalize wr.heap.size = X at *) | fail)
   refine (zd9 x.n.adv x.u c.sch c.name c.ver w2 (HM.out.below V0.out) k5.out.affs k5.out.id k5.out.len U8.out).mono ?_
   rintro e w3 ⟨rfl, hb3⟩
   have HF3 := zu8 (HF2.out.call hb3)
   have HB3 := zu8 (HB2.out.trans (hb3.mono (by have := y6.out; omega)))
   have y7 := zu8 ((hb3.block X (by omega)).trans y5.out)
   have HCV : Hid (V.cov x.n c = V.covP x.n.adv c.sch c.name c.ver) := zu8 rfl
   have J0 : X < w3.heap.size := by have := hb3.size; omega
   clear hb3 k1 k2 k3 x0 x1 x2 x3 xr x36 V9 y5 HF2 HB2
   rcases hcv : V.covP x.n.adv c.sch c.name c.ver with _ | _
   ·have HS : Hid (FInv (w.heap.size + 2) (w.heap.size + 1) i c (ys ++ [x.n]) U Dm w3) := zu8 (HF3.out.skip x.n (by rw [HCV.out, hcv]))
    rw [← HST.out] at HS
    clear hcv HCV
    go_wp2
    go_roundw
    case rel => exact ⟨k + 1, U, Dm, by omega, by go_num, HS.out, HB3.out⟩
    case measure => simp [intOf]; omega
   ·have Y0 : Hid (V.cov x.n c = true) := zu8 (by rw [HCV.out, hcv])
    clear hcv HCV
    obtain ⟨x0, x1, x2, x3, xr, x36⟩ := um HOK.out.doc (yp y7.out)
    simp only [Nat.zero_add] at x0 x1 x2 x3
    obtain ⟨k0, s0, q7⟩ := HF3.out.look x.n.adv.id HOK.out.id
    have g4 := zu8 q7
    obtain ⟨⟨ua, un, uc⟩, hU⟩ : ∃ u, u = U x.n.adv.id := ⟨_, rfl⟩
    obtain ⟨sv, h9⟩ : ∃ s, s = V.sevN (V.selN ys c x.n.adv.id) := ⟨_, rfl⟩
    have HU := zu8 hU
    have J1 := zu8 h9
    rw [← hU, ← h9] at g4
    unfold Sd.v at g4
    have g7 : Hid (X ≠ w3.heap.size) := zu8 (by omega)
    have J2 : (w3.alloc (.cells #[.int .i64 k0, .string ⟨s0.toArray⟩, .int .i64 sv, .slice ua un uc] 63)).heap.size = w3.heap.size + 1 := by simp
    have g5 : Below w3.heap.size w3 (w3.alloc (.cells #[.int .i64 k0, .string ⟨s0.toArray⟩, .int .i64 sv, .slice ua un uc] 63)) := (zvb _ w3).alloc (zva _) _
    have j0 : Hid ((w3.alloc (.cells #[.int .i64 k0, .string ⟨s0.toArray⟩, .int .i64 sv, .slice ua un uc] 63)).heap[w3.heap.size]? = some (.cells #[.int .i64 k0, .string ⟨s0.toArray⟩, .int .i64 sv, .slice ua un uc] 63 (0, 0))) := zu8 (heap_alloc_new w3 _)
    have J3 := zu8 (HF3.out.call g5)
    have q8 := zu8 ((g5.block X J0).trans y7.out)
    have HB4 := zu8 (HB3.out.trans (g5.mono (by have := y6.out; omega)))
    have j5 : Hid (w.heap.size + 1 < w3.heap.size) := zu8 (by have := y6.out; omega)
    clear q7 hU h9 x1 x2 x3 xr x36 g5 HF3 HB3 y7
    go_wp2_with (first | (refine zla rfl (.tmp 32) (.tmp 35) 106 rfl (w.heap.size + 1) rfl (.string ⟨x.n.adv.id.toArray⟩) _ rfl g4.out ?_; clear g4) | fail)
    have J4 := zu8 J2
    clear J2 x0 J0
    generalize w3.alloc (.cells #[.int .i64 k0, .string ⟨s0.toArray⟩, .int .i64 sv, .slice ua un uc] 63) = w4 at *
    generalize w3.heap.size = Y at *
    have y8 : w4.cell? ⟨X, 0, none⟩ = some (.string ⟨x.n.adv.id.toArray⟩) := (um HOK.out.doc (yp q8.out)).1
    refine wp_region_held_drew (S := (fun W' => W'.cell? ⟨X, 0, none⟩ = some (.string ⟨x.n.adv.id.toArray⟩) /\ (∃ cs, W'.heap[X]? = some (.cells cs 57 (0, 0))))) (by kernel_rfl) (⟨y8, _, q8.out⟩) (fun hHeld => ?_)
    refine tk 0 ?_
    refine tk 1 ?_
    refine tk 2 ?_
    refine tk 3 ?_
    refine tk 4 ?_
    refine rd 5 fun K hK => ?_
    refine zls rfl 3 _ _ rfl Y 0 _ _ j0.out (by show 0 < 4; omega) rfl (.int .i64 i) rfl int_sz rfl (fun w5 g0 => ?_)
    refine hK.out _ _ ?_ (fun hHeld => nx ?_)
    ·(try dsimp only); exact ⟨g0.cell hHeld.1 g7.out, by obtain ⟨cs, hcs⟩ := hHeld.2; exact ⟨cs, g0.other hcs g7.out⟩⟩
    clear hK K
    refine tk 6 ?_
    refine rd 7 fun K hK => ?_
    refine zls rfl 9 _ _ rfl Y 1 _ _ g0.here (by show 1 < 4; omega) rfl (.string ⟨x.n.adv.id.toArray⟩) rfl str_sz rfl (fun w6 hp6 => ?_)
    refine hK.out _ _ ?_ (fun hHeld => nx ?_)
    ·(try dsimp only); exact ⟨hp6.cell (g0.cell y8 g7.out) g7.out, by obtain ⟨cs, hcs⟩ := hHeld.2; exact ⟨cs, hp6.other hcs g7.out⟩⟩
    clear hK K
    refine wpAnyH_done (by kernel_rfl) ?_ _
    simp only [zu6, List.set_cons_succ, List.set_cons_zero] at g0 hp6
    have j8 := zu8 hp6.here
    have J5 := zu8 (hp6.other (g0.other q8.out g7.out) g7.out)
    have y9 : Hid (FInv (w.heap.size + 2) (w.heap.size + 1) i c ys U Dm w6) := zu8 (((J3.out.call ((zvb _ w4).drew)).other g0.grown (fun b e => by cases e; exact ⟨_, _, _, j0.out, by decide⟩)).other hp6.grown (fun b e => by cases e; exact ⟨_, _, _, g0.here, by decide⟩))
    have HB6 : Hid (Below (w.heap.size + 1) W1 w6) := zu8 (hp6.below (g0.below HB4.out.drew (by have := j5.out; omega)) (by have := j5.out; omega))
    have Y1 : Hid (w6.heap.size = Y + 1) := zu8 (hp6.size.trans (g0.size.trans J4.out))
    clear g0 hp6 hHeld y8 q8 j0 J3 HB4 J4
    obtain ⟨x0, x1, x2, x3, xr, x36⟩ := um HOK.out.doc (yp J5.out)
    simp only [Nat.zero_add] at x0 x1 x2 x3 xr
    have XR := zu8 xr
    have y2 : w6.cell? ⟨Y, 2, none⟩ = some (.int .i64 sv) := by rw [cell_of_row _ _ _ _ _ _ j8.out]; rfl
    clear x0 x1 x3 xr x36
    have j6 : Hid (GRow 26 32 dE w6 (w.heap.size + 2) (.slice ua un uc) ((V.selN ys c x.n.adv.id).map (·.doc))) := zu8 (by have := y9.out.row x.n.adv.id; rw [← HU.out] at this; exact this)
    have Y2 : Hid ((U x.n.adv.id).v.ownBlock = (Value.slice ua un uc).ownBlock) := zu8 (by rw [← HU.out]; rfl)
    have Y3 : Hid (w.heap.size + 2 ≤ Y) := zu8 (by have := j5.out; omega)
    have Y4 : Hid (((V.selN ys c x.n.adv.id).map (·.doc)).length ≤ 1000) := zu8 (by
      rw [List.length_map]
      exact Nat.le_trans (List.length_filter_le _ _) h8.out)
    generalize q9 : (V.selN ys c x.n.adv.id).map (·.doc) = docs at *
    have G7 := zu8 q9
    clear q9
    go_wp2_with (first
      | (refine zhp rfl 3 _ _ rfl Y 2 _ _ j8.out (by show 2 < 4; omega) rfl (.int .i64 (max sv x.n.adv.sev)) rfl int_sz rfl ?_
         intro w7 g8
         simp only [zu6, List.set_cons_succ, List.set_cons_zero] at g8
         have z0 := zu8 g8.here
         have J6 := zu8 (g8.other J5.out g7.out)
         have J7 := zu8 (y9.out.other g8.grown (fun b e => by cases e; exact ⟨_, _, _, j8.out, by decide⟩))
         have HB7 := zu8 (g8.below HB6.out (by have := j5.out; omega))
         have z1 : Hid (w7.heap.size = Y + 1) := zu8 (g8.size.trans Y1.out)
         have v0 := zu8 (jz j6.out g8.grown (fun b hb e => by cases e; obtain ⟨cs, h0⟩ := yd j6.out hb; rw [j8.out] at h0; cases h0))
         have y3 : w7.cell? ⟨Y, 3, none⟩ = some (.slice ua un uc) := by rw [cell_of_row _ _ _ _ _ _ z0.out]; rfl
         have XR7 := zu8 ((um HOK.out.doc (yp J6.out)).2.2.2.2.1)
         rw [Nat.zero_add] at XR7
         have j9 : Below w7.heap.size w7 (w7.alloc (.cells (dcells x.n.doc) 26)) := (zvb _ w7).alloc (zva _) _
         have J8 := zu8 (J7.out.call j9)
         have h5 := zu8 (GRow.below v0.out j9)
         have z2 := zu8 (GSl.one (enc := dE) (k := 32) (c := x.n.doc) (b := w7.heap.size) (w := w7.alloc (.cells (dcells x.n.doc) 26)) (by simp) (zfv w7 x.n.doc HOK.out.doc))
         have v1 := zu8 ((j9.block Y (by have := z1.out; omega)).trans z0.out)
         have z3 := zu8 (HB7.out.trans (j9.mono (by have := z1.out; have := j5.out; omega)))
         have Y5 : Hid (w.heap.size + 2 ≤ (w7.alloc (.cells (dcells x.n.doc) 26)).heap.size) := zu8 (by have := z1.out; have := Y3.out; simp; omega)
         clear j9 g8 y2 J7 v0 z0 HB7 J6 y9 j6 j8 HB6)
      | (refine ze5 rfl _ rfl X 4 rfl x.n.doc HOK.out.doc XR7.out ?_)
      | (refine zot rfl _ rfl x.n.doc HOK.out.doc rfl ?_)
      | (refine yo kw (by decide) zbd zdf (by decide) rfl _ _ 55 rfl Tryz.underlying55 (w.heap.size + 2) (.slice ua un uc) docs rfl h5.out (.slice (some ⟨w7.heap.size, 0, none⟩) 1 1) [x.n.doc] rfl z2.out (by have := Y4.out; simp; omega) Y5.out ?_
         intro v9 w9 v2 h4 z4
         have J9 : ∀ b, (Value.slice ua un uc).ownBlock = some b -> Y ≠ b := fun b hb e => by (cases e; obtain ⟨cs, h0⟩ := yd h5.out hb; rw [v1.out] at h0; cases h0)
         have z5 := zu8 ((h4.block Y (Array.getElem?_eq_some_iff.1 v1.out).1 (fun e => J9 Y e.symm rfl)).trans v1.out)
         have HB9 : Hid (Below (w.heap.size + 1) W1 w9) := zu8 (z3.out.grown h4 (by have := z3.out.size; have := h7.out; omega) (fun b hb => by have := h5.out.block b hb; omega))
         rw [← G7.out] at v2
         rw [← Y2.out] at h4 z4
         obtain ⟨va, vc, v3⟩ := v2.slice
         obtain ⟨vn, Q0⟩ : ∃ n, n = ((V.selN ys c x.n.adv.id).map (·.doc) ++ [x.n.doc]).length := ⟨_, rfl⟩
         rw [← Q0] at v3
         have Q1 := zu8 (J8.out.grow (u := ⟨va, vn, vc⟩) h4 (by rw [show (Sd.v ⟨va, vn, vc⟩) = v9 from v3.symm]; exact v2) (by rw [show (Sd.v ⟨va, vn, vc⟩) = v9 from v3.symm]; exact z4))
         subst v3
         clear Q0 v2 h4 z4 J9 y3 J8 h5 v1 z3 z2)
      | (refine zhp rfl 55 _ _ rfl Y 3 _ _ z5.out (by show 3 < 4; omega) rfl (.slice va vn vc) rfl zsz rfl ?_
         intro w10 g1
         simp only [zu6, List.set_cons_succ, List.set_cons_zero] at g1
         have z6 := zu8 (Q1.out.other g1.grown (fun b e => by cases e; exact ⟨_, _, _, z5.out, by decide⟩))
         have HB10 := zu8 (g1.below HB9.out (by have := j5.out; omega))
         have q0 : w10.cell? ⟨Y, 0, none⟩ = some (.int .i64 i) := by rw [cell_of_row _ _ _ _ _ _ g1.here]; rfl
         have q1 : w10.cell? ⟨Y, 1, none⟩ = some (.string ⟨x.n.adv.id.toArray⟩) := by rw [cell_of_row _ _ _ _ _ _ g1.here]; rfl
         have q2 : w10.cell? ⟨Y, 2, none⟩ = some (.int .i64 (max sv x.n.adv.sev)) := by rw [cell_of_row _ _ _ _ _ _ g1.here]; rfl
         have q3 : w10.cell? ⟨Y, 3, none⟩ = some (.slice va vn vc) := by rw [cell_of_row _ _ _ _ _ _ g1.here]; rfl
         clear g1 z5 Q1 HB9)
      | (refine wpList_mapUpdate_own _ rfl (.tmp 57) (.tmp 59) (.tmp 60) 106 rfl 9 63 zb1 Tryz.underlying106 zdh (w.heap.size + 1) ys.length Dm rfl z6.out.map (by have := h8.out; unfold maxLen; omega) (.string ⟨x.n.adv.id.toArray⟩) (.agg #[.int .i64 i, .string ⟨x.n.adv.id.toArray⟩, .int .i64 (max sv x.n.adv.sev), .slice va vn vc]) (.string x.n.adv.id) rfl rfl (keyOf_string_mk Tryz.underlying9 (by simpa [ByteArray.size] using HOK.out.id)) (.held (.agg #[.int .i64 i, .string ⟨x.n.adv.id.toArray⟩, .int .i64 (max sv x.n.adv.sev), .slice va vn vc])) [] rfl ?_
         intro w11 k6 k7
         rw [J1.out] at k6
         clear q0 q1 q2 q3)
      | fail)
    obtain ⟨U', D', k8⟩ := z6.out.put rfl Y0.out HOK.out.id (by have := h8.out; unfold maxLen; omega) k6 k7
    rw [← HST.out] at k8
    have V1 := zu8 k8
    have V2 : Hid (Below (w.heap.size + 1) W1 w11) := zu8 (HB10.out.grown k7 (by have := HB10.out.size; have := h7.out; omega) (fun b e => by cases e; exact zva _))
    clear k8 k6 k7
    go_wp2
    go_roundw
    case rel => exact ⟨k + 1, U', D', by omega, by go_num, V1.out, V2.out⟩
    case measure => simp [intOf]; omega
  ·obtain rfl : k = xs.length := by omega
   rw [List.take_length] at g3
   have Y6 : Hid (∀ x ∈ xs.map (·.n), qh x.doc) := zu8 (fun x hx => by
     obtain ⟨y, hy, rfl⟩ := List.mem_map.1 hx
     obtain ⟨j, hj, rfl⟩ := List.mem_iff_getElem.1 hy
     exact (HV.out.at j hj).1.doc)
   have V3 : Hid (∀ x ∈ xs.map (·.n), x.adv.id.length ≤ maxLen) := zu8 (fun x hx => by
     obtain ⟨y, hy, rfl⟩ := List.mem_map.1 hx
     obtain ⟨j, hj, rfl⟩ := List.mem_iff_getElem.1 hy
     exact (HV.out.at j hj).1.id)
   have h8 : Hid ((xs.map (·.n)).length ≤ 1000) := zu8 (by simpa using hl)
   have z7 : Hid (w.heap.size + 2 ≤ wr.heap.size) := zu8 (by have := HBX.out.size; have := h7.out; omega)
   clear HV
   generalize Q2 : xs.map (·.n) = ys at *
   have Y7 := zu8 Q2
   clear Q2
   go_wp2_with fail
   refine (zpu _ _).mono ?_
   rintro e w1 ⟨rfl, rfl⟩
   go_wp2_with fail
   refine (zq8 (w.heap.size + 1) ys.length Dm wr g3.out.map (Nat.le_trans g3.out.map.size_le (by have := h8.out; omega))).mono ?_
   rintro e w2 ⟨sl, ss, rfl, g2, g6, V4, hb2⟩
   have h6 := g3.out.keys g2
   rw [h6] at g6
   obtain ⟨L, hL⟩ : ∃ L, L = V.kg ys c := ⟨_, rfl⟩
   rw [← hL] at g6 h6
   have z8 : ss.length = L.length := by rw [← h6, List.length_mergeSort]
   rw [z8, ← str_flat] at g6
   have g5 : Below wr.heap.size wr (wr.alloc (.cells #[.map (some (w.heap.size + 1))] 106)) := (zvb _ wr).alloc (zva _) _
   have j1 : Below wr.heap.size wr w2 := g5.trans (hb2.mono g5.size)
   have Y8 : Hid (∀ id b, (U id).v.ownBlock = some b -> b < wr.heap.size) := zu8 (fun id b hb => (g3.out.row id).lt b hb)
   have Q3 := g3
   have Q4 := zu8 hL
   have Y9 : Hid (L.Nodup) := zu8 (by
     rw [hL]
     exact List.Pairwise.imp (S := fun a b => a ≠ b) (fun {a b} Q5 e => V.zd5.irr b (by rw [e] at Q5; exact Q5)) (V.zfe _))
   have Q6 : Hid (HPInv w.heap.size W1 wr.heap.size i c ys U Dm L sl (.slice none 0 0) 0 0 [] w2) := zu8
    ⟨HRow.nil _ _, rfl, HBX.out.trans (j1.mono (by have := z7.out; omega)), World.ownsRow.mono g6 g5.size, g3.out.map.kept (zm j1 none) (by simp), fun id _ => (g3.out.row id).below j1, fun p hp => by simp at hp, j1.size, z7.out, Y8.out, by have := h7.out; omega⟩
   obtain ⟨sa, sc, Z0⟩ := GRow.slice g6
   subst Z0
   have Q7 : Hid (L.length ≤ 1000) := zu8 (by
     rw [hL]
     have := V.zd7 (c := Lib.compareBytes) (l := []) (xs := (ys.filter fun x => V.cov x c).map (·.adv.id))
     have h2 := List.length_filter_le (fun x => V.cov x c) ys
     have h3 := h8.out
     unfold V.kg V.idsN
     simp at this ⊢
     omega)
   clear g2 g6 V4 hb2 h6 z8 g5 j1 hL g3 HBX
   generalize wr.heap.size = N2 at *
   go_wp2_with fail
   go_loopw [11, 66] (fun ov iv wx => ∃ (j : Nat) (us : List (V.Hit × Sd)), j ≤ L.length /\ us.length = j /\ iv = .int .i64 j /\ HPInv w.heap.size W1 N2 i c ys U Dm L (.slice sa L.length sc) ov j j us wx) (fun _ iv _ => L.length - (intOf iv).toNat)
   case atStart => exact ⟨0, [], Nat.zero_le _, rfl, rfl, Q6.out⟩
   case round =>
    clear Q6
    obtain ⟨j, us, hj, Q8, rfl, hp⟩ := hrel
    have HP := zu8 hp
    have HUL : Hid (us.length ≤ 1000) := zu8 (by have := Q7.out; omega)
    obtain ⟨oa, oc, Z1⟩ := hp.out.row.slice
    subst Z1
    have Z2 := zu8 Q8
    clear hp Q8
    by_cases hjl : j < L.length
    ·obtain ⟨g, cap, e, hN, hgs, hc⟩ := GRow.at zrj HP.out.keys j hjl
     obtain ⟨e1, _, e3⟩ := Value.slice.inj e
     subst e1 e3
     have Q9 := hc 0 _ rfl
     rw [Nat.mul_one, Nat.add_zero] at Q9
     have ab : j < 1000 := by have := Q7.out; omega
     have i1 : (0 : Int) ≤ (j : Int) := by omega
     have i2 : (j : Int) < (L.length : Int) := by omega
     obtain ⟨id, j2⟩ : ∃ id, id = L[j] := ⟨_, rfl⟩
     have Z3 := zu8 j2
     rw [← j2] at Q9
     have j3 : id ∈ V.kg ys c := by rw [← Q4.out, j2]; exact List.getElem_mem hjl
     have aa := zu8 j3
     have Z4 : Hid (id.length ≤ maxLen) := zu8 (by
       obtain ⟨x, hx, rfl, _⟩ := V.vg.1 j3
       exact V3.out x hx)
     have g4 := zu8 (Q3.out.look_of HP.out.map id Z4.out j3)
     have v4 : Hid (GRow 26 32 dE wr (w.heap.size + 2) (U id).v ((V.selN ys c id).map (·.doc))) := zu8 (HP.out.rows id (by rw [List.drop_eq_getElem_cons hjl, ← j2]; simp))
     have HNE : Hid ((V.selN ys c id).map (·.doc) ≠ []) := zu8 (fun e => by
       obtain ⟨x, hx, h1, h2⟩ := V.vg.1 j3
       have : x ∈ V.selN ys c id := by unfold V.selN; rw [List.mem_filter]; exact ⟨hx, by rw [decide_eq_true h1, h2]; rfl⟩
       rw [List.map_eq_nil_iff] at e
       rw [e] at this; simp at this)
     have z9 : Hid (∀ d ∈ (V.selN ys c id).map (·.doc), qh d) := zu8 (fun d hd => by
       obtain ⟨x, hx, rfl⟩ := List.mem_map.1 hd
       unfold V.selN at hx
       exact Y6.out x (List.mem_filter.1 hx).1)
     have HLD : Hid (((V.selN ys c id).map (·.doc)).length ≤ 1000) := zu8 (by
       rw [List.length_map]
       exact Nat.le_trans (List.length_filter_le _ _) h8.out)
     have HST : Hid ((L.take (j + 1)).map (V.hitN ys i c) = (L.take j).map (V.hitN ys i c) ++ [⟨i, id, V.sevN (V.selN ys c id), V.zcw (V.selN ys c id)⟩]) := zu8 (by
       rw [List.take_succ_eq_append_getElem hjl, List.map_append, ← j2]; rfl)
     have HTK : Hid (∀ a, a ∈ L.take (j + 1) ↔ a ∈ L.take j ∨ a = id) := zu8 (fun a => by
       rw [List.take_succ_eq_append_getElem hjl, ← j2, List.mem_append, List.mem_singleton])
     obtain ⟨⟨ua, un, uc⟩, hU⟩ : ∃ u, u = U id := ⟨_, rfl⟩
     have HU := zu8 hU
     rw [← hU] at g4 v4
     unfold Sd.v at g4 v4
     obtain ⟨sv, h9⟩ : ∃ s, s = V.sevN (V.selN ys c id) := ⟨_, rfl⟩
     have J1 := zu8 h9
     rw [← h9] at g4 HST
     have hb3 : Below wr.heap.size wr (wr.alloc (.cells #[.int .i64 i, .string ⟨id.toArray⟩, .int .i64 sv, .slice ua un uc] 63)) := (zvb _ wr).alloc (zva _) _
     have U0 := zu8 (HP.out.call hb3)
     have G0 := zu8 (GRow.below v4.out hb3)
     have G1 : Hid ((wr.alloc (.cells #[.int .i64 i, .string ⟨id.toArray⟩, .int .i64 sv, .slice ua un uc] 63)).heap[wr.heap.size]? = some (.cells #[.int .i64 i, .string ⟨id.toArray⟩, .int .i64 sv, .slice ua un uc] 63 (0, 0))) := zu8 (heap_alloc_new wr _)
     have HNY : Hid (N2 ≤ wr.heap.size) := zu8 HP.out.big
     have ac : Hid ((Value.slice oa us.length oc).ownBlock ≠ some wr.heap.size) := zu8 (fun e => by
       have := GRow.lt HP.out.out.row _ e
       omega)
     have y3 : (wr.alloc (.cells #[.int .i64 i, .string ⟨id.toArray⟩, .int .i64 sv, .slice ua un uc] 63)).cell? ⟨wr.heap.size, 3, none⟩ = some (.slice ua un uc) := by rw [cell_of_row _ _ _ _ _ _ G1.out]; rfl
     clear hb3 hc j3 j2 hU h9 HP v4 hgs hN
     go_wp2_with (first
     | (refine zla rfl (.tmp 70) (.tmp 71) 106 rfl (w.heap.size + 1) rfl (.string ⟨id.toArray⟩) _ rfl g4.out ?_
        clear g4)
       | fail)
     generalize wr.alloc (.cells #[.int .i64 i, .string ⟨id.toArray⟩, .int .i64 sv, .slice ua un uc] 63) = w3 at *
     generalize wr.heap.size = Y at *
     refine (zti _ _ _ w3 G0.out z9.out HNE.out HLD.out).mono ?_
     rintro e w4 ⟨rfl, g9, c9, l', U1, h4, g2, U2, v5, k9⟩
     obtain ⟨e1, e2, e3⟩ := Value.slice.inj U1
     subst e1 e3
     have U3 : Hid (l'.length = un) := zu8 (by rw [e2]; exact g2.length_eq)
     have G2 : Hid ((U id).v.ownBlock = some g9) := zu8 (by rw [← HU.out]; rfl)
     have G3 : g9 ≠ Y := by
      have := U0.out.ub id g9 G2.out
      have := HNY.out
      omega
     have j0 := zu8 ((k9.block Y (Array.getElem?_eq_some_iff.1 G1.out).1 (fun e => G3 (Option.some.inj e).symm)).trans G1.out)
     have V5 := zu8 v5
     have Z5 := zu8 k9
     have k4 := zu8 (And.intro g2 U2)
     have HB9 := zu8 h4
     have Z6 := zu8 G3
     have y3 : w4.cell? ⟨Y, 3, none⟩ = some (.slice (some ⟨g9, 0, none⟩) un uc) := by rw [cell_of_row _ _ _ _ _ _ j0.out]; rfl
     clear U1 h4 g2 U2 v5 k9 e2 G3
     go_wp2_with fail
     have G4 := U3.out
     have q4 := ztp g9 uc l' w4 V5.out (fun d hd => z9.out d (k4.out.1.mem_iff.1 hd)) (by have := k4.out.1.length_eq; have := HLD.out; omega) (by
       have := GRow.cap9 G0.out
       rw [G4]; exact this)
     rw [G4] at q4
     refine q4.mono ?_
     rintro e w5 ⟨rfl, j7, q5⟩
     obtain ⟨cd, v6⟩ : ∃ cd, cd = V.jp l' un := ⟨_, rfl⟩
     rw [← v6] at j7 ⊢
     have Z7 : Hid (cd = V.zcw (V.selN ys c id)) := zu8 (by
       rw [v6, ← U3.out]
       exact V.zp9 k4.out.1 (k4.out.2.imp (fun h => Int.not_lt.2 h)))
     have v7 := Z5.out.trans q5
     have U4 := zu8 (U0.out.sort Y9.out hjl v7 (by rw [← Z3.out]; exact G2.out) HB9.out Q3.out.apart)
     have y0 := zu8 ((q5.block Y (Array.getElem?_eq_some_iff.1 j0.out).1 (fun e => Z6.out (Option.some.inj e).symm)).trans j0.out)
     have G5 := j7.digs (cap := uc) (fun d hd => z9.out d (by
       rw [v6] at hd
       obtain ⟨m, _, hm⟩ := V.zco.1 hd
       exact k4.out.1.mem_iff.1 (List.mem_of_getElem? hm)))
     have U5 : Hid (Digs w5 (.slice (some ⟨g9, 0, none⟩) cd.length uc) (V.zcw (V.selN ys c id))) := zu8 (by rw [← Z7.out]; exact G5)
     clear j7 q5 v7 G5 v6 q4 G4 y3
     generalize cd.length = m9 at *
     go_wp2_with (first
     | (refine zhp rfl 55 _ _ rfl Y 3 _ _ y0.out (by show 3 < 4; omega) rfl (.slice (some ⟨g9, 0, none⟩) m9 uc) rfl zsz rfl ?_
        intro w6 hp6
        simp only [zu6, List.set_cons_succ, List.set_cons_zero] at hp6
        have q0 : w6.cell? ⟨Y, 0, none⟩ = some (.int .i64 i) := by rw [cell_of_row _ _ _ _ _ _ hp6.here]; rfl
        have q1 : w6.cell? ⟨Y, 1, none⟩ = some (.string ⟨id.toArray⟩) := by rw [cell_of_row _ _ _ _ _ _ hp6.here]; rfl
        have q2 : w6.cell? ⟨Y, 2, none⟩ = some (.int .i64 sv) := by rw [cell_of_row _ _ _ _ _ _ hp6.here]; rfl
        have q3 : w6.cell? ⟨Y, 3, none⟩ = some (.slice (some ⟨g9, 0, none⟩) m9 uc) := by rw [cell_of_row _ _ _ _ _ _ hp6.here]; rfl
        have U6 := zu8 (U4.out.box hp6.grown HNY.out ⟨_, _, y0.out⟩)
        have U7 : Hid (Digs w6 (.slice (some ⟨g9, 0, none⟩) m9 uc) (V.zcw (V.selN ys c id))) := zu8 (U5.out.grow hp6.grown (fun b e => by cases e; exact ⟨_, _, _, y0.out, by decide⟩))
        have hb7 : Below w6.heap.size w6 (w6.alloc (.cells #[.int .i64 i, .string ⟨id.toArray⟩, .int .i64 sv, .slice (some ⟨g9, 0, none⟩) m9 uc] 63)) := (zvb _ w6).alloc (zva _) _
        have G6 := zu8 (U6.out.call hb7)
        have Z8 := zu8 (U7.out.below hb7)
        have HNW := zu8 (hit_new w6 ⟨i, id, sv, V.zcw (V.selN ys c id)⟩ ⟨some ⟨g9, 0, none⟩, m9, uc⟩)
        clear hb7 hp6 U4 U5 y0 U6 U7)
     | (refine yo yx (by decide) zig ziz (by decide) rfl _ _ 35 rfl Tryz.underlying35 N2 (.slice oa us.length oc) us rfl G6.out.out.row (.slice (some ⟨w6.heap.size, 0, none⟩) 1 1) [(⟨i, id, sv, V.zcw (V.selN ys c id)⟩, ⟨some ⟨g9, 0, none⟩, m9, uc⟩)] rfl (GSl.one (by simp) HNW.out) (by have := HUL.out; simp; omega) G6.out.big ?_
        intro v8 w8 hr8 hg8 _
        clear q0 q1 q2 q3)
       | fail)
     have HP8 := zu8 (G6.out.add hr8 hg8 Z8.out HST.out id HTK.out (by rw [G2.out]; rfl))
     clear hr8 hg8
     go_wp2
     go_roundw
     case rel => exact ⟨j + 1, _, by omega, by rw [List.length_append, Z2.out]; rfl, by go_num, HP8.out⟩
     case measure => simp [intOf]; omega
    ·obtain rfl : j = L.length := by omega
     have Z9 : Hid (us.map (·.1) = V.ul ys i c) := zu8 (by
       rw [HP.out.said, List.take_length, Q4.out]; rfl)
     have HRE := zu8 (HP.out.out.weaken (M := w.heap.size) (by have := z7.out; omega))
     have HBE : Hid (Below w.heap.size w wr) := zu8 (HB1.out.trans (HP.out.below.mono (Nat.le_succ _)))
     go_wp2
     go_ret
     exact ⟨_, us, rfl, HRE.out, by rw [Y7.out]; exact Z9.out, HBE.out⟩
end Go.Proofs.YtbikeahmldobkaaGreatDoor
