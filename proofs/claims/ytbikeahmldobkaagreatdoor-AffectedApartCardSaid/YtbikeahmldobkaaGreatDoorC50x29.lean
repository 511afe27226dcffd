/-
  Lemmas for the law.
-/
import Derived.Test.YtbikeahmldobkaaGreatDoorC50x28
import Derived.Test.YtbikeahmldobkaaGreatDoorC50x08
import Derived.Carry
set_option linter.all false
set_option maxRecDepth 100000
set_option maxHeartbeats 12800000
namespace Go.Proofs.YtbikeahmldobkaaGreatDoor
open Go.RowKit Go.Maps
open Go.WideMaps (keyOf_string_mk)
theorem int_sz : (Tryz.prog.info? 3).map (·.size) = some 1 := by kernel_rfl
theorem str_sz : (Tryz.prog.info? 9).map (·.size) = some 1 := by kernel_rfl
theorem zt1 : (Tryz.prog.info? 55).map (·.size) = some 1 := by kernel_rfl
theorem zqq (mb : Option Nat) (W : World) : Calls Tryz.prog 68 #[.map mb] W fun e w' => e = .returned (.func (.func 105) #[] #[.pointer (some ⟨W.heap.size, 0, none⟩)]) /\ w' = W.alloc (.cells #[.map mb] 106) :=
 callsIn_wide.1 (AnyZ.keys_in Tryz.keysIt Fence.wide 5 trivial rfl mb W)
theorem sorts_it (m : Nat) : AnyZ.SortsIn Tryz.prog Tryz.sortedIt_ren Fence.wide m :=
 ⟨fun blk off cap ss W hH g0 g1 => callsIn_wide.2 (AnyM.slices_Sort_string Tryz.sortIt blk off cap ss W hH g0 g1),
  fun p cap W => callsIn_wide.2 (AnyM.slices_Sort_string_none Tryz.sortIt p cap W)⟩
theorem zr9 (b nn : Nat) (D0 : DataW Value) (w : World) (g0 : w.ownsMap Tryz.prog 9 zd8 b nn D0) (g2 : Maps.size D0 ≤ 1000000) :
  Calls Tryz.prog 67 #[.func (.func 105) #[] #[.pointer (some ⟨w.heap.size, 0, none⟩)]] (w.alloc (.cells #[.map (some b)] 106)) fun e w' => ∃ (v : Value) (ss : List (List UInt8)), e = .returned v /\ ss.Perm (strKeys D0) /\
   w'.ownsRow (w.alloc (.cells #[.map (some b)] 106)).heap.size 9 1 v ss.length ((ss.mergeSort (fun x y => decide (x ≤ y))).map encStr) /\ (v = .slice none 0 0 ↔ ss = []) /\ Below (w.alloc (.cells #[.map (some b)] 106)).heap.size (w.alloc (.cells #[.map (some b)] 106)) w' := by
 have g1 := g0.lt
 have hseq : SeqGives Fence.wide 2 Tryz.prog 105 #[.pointer (some ⟨w.heap.size, 0, none⟩)] encStr (fun ss => ss.Perm (strKeys D0)) (Maps.size D0) (w.alloc (.cells #[.map (some b)] 106)) :=
  AnyZ.keys_gives (ρ := Tryz.keysIt_ren) { Tryz.keysIt with } Fence.wide _ trivial rfl (by omega) w.heap.size b nn D0 _ (by simp) (by simp) (by
    obtain ⟨es, clock, hb, Ft, hs, hD⟩ := g0
    exact ⟨es, clock, (Below.heap_alloc _ _ b g1).trans hb, Ft, hs, hD⟩)
 exact callsIn_wide.1 (AnyZ.sorted_in Tryz.sortedIt Fence.wide 5 trivial trivial trivial trivial rfl (by omega) (sorts_it _) (enters_of Tryz.func104 (by kernel_rfl) rfl) 105 #[.pointer (some ⟨w.heap.size, 0, none⟩)] trivial (enters_of Tryz.func105 (by kernel_rfl) rfl) _ _ (by unfold maxLen; omega) (by omega) _ hseq)
theorem zl0 {ops : Array Oper} {rest : List Oper} {o : Oper} {a : Act} {w : World} {Q : Exit -> Act -> World -> Prop} (g0 : o.guard = none) (m x : Operand) (T : TypeId) (ho : o.op = .lookup T m x false) (b : Nat) (hm : a.eval m = .map (some b)) (key v : Value) (hx : a.eval x = key)
  (hr : (Instr.lookup T (.map (some b)) key false).run Tryz.prog w = .ok v w) (h : wpList Tryz.prog ops Q rest (a.put o.dst v) w) : wpList Tryz.prog ops Q (o :: rest) a w := by
 refine wpList_plain g0 fun K hK => ?_
 unfold Oper.wp execOp
 simp only [ho, hm, hx, Sem.run_bind, hr, Result.andThen_ok, Sem.run_pure]
 exact hK _ _ h
theorem hit_new (w : World) (h : V.Hit) (u : Sd) : ∀ j x, (hE (h, u))[j]? = some x -> (w.alloc (.cells #[.int .i64 h.comp, .string ⟨h.id.toArray⟩, .int .i64 h.sev, .slice u.a u.n u.c] 63)).cell? ⟨w.heap.size, j, none⟩ = some x := fun j x hx => by
 rw [World.cell?_alloc_new]
 simpa [hE, Sd.v] using hx
theorem str_flat (L : List V.Bs) : L.flatMap sE = L.map encStr := by
 induction L with
 | nil => rfl
 | cons x L ih => rw [List.flatMap_cons, List.map_cons, ih]; rfl
theorem FInv.look_of {N M : Nat} {i : Int} {c : V.Comp} {ys : List V.Note} {U : V.Bs -> Sd} {D : DataW Value} {W0 W : World} (h : FInv N M i c ys U D W0) (hm : W.ownsMap Tryz.prog 9 zd8 M ys.length D) (id : V.Bs) (hl : id.length ≤ maxLen) (g1 : id ∈ V.km ys c) : (Instr.lookup 106 (.map (some M)) (.string ⟨id.toArray⟩) false).run Tryz.prog W = .ok (.agg #[.int .i64 i, .string ⟨id.toArray⟩, .int .i64 (V.sevN (V.selN ys c id)), (U id).v]) W := by
 obtain ⟨v, ps, g0, hv⟩ := hm.lookup zcr Tryz.underlying106 (Tryz.zeroValue63 W) (zd := .held zg3) (zp := []) rfl (key := .string ⟨id.toArray⟩) (kl := .string id) (keyOf_string_mk Tryz.underlying9 (by simpa [ByteArray.size] using hl))
 rw [h.val id] at hv
 unfold zd8 at hv
 simp only [Option.some.injEq, Prod.mk.injEq, DataW.held.injEq] at hv
 rw [g0, hv.1]
 unfold zeb
 rw [if_pos g1]
structure HPInv (B : Nat) (W1 : World) (N2 : Nat) (i : Int) (c : V.Comp) (ys : List V.Note) (U : V.Bs -> Sd) (Dm : DataW Value) (L : List V.Bs) (sv ov : Value) (j r : Nat) (us : List (V.Hit × Sd)) (W : World) : Prop where
 out : HRow N2 W ov us
 said : us.map (·.1) = (L.take j).map (V.hitN ys i c)
 below : Below (B + 1) W1 W
 keys : GRow 9 1 sE W N2 sv L
 map : W.ownsMap Tryz.prog 9 zd8 (B + 1) ys.length Dm
 rows : ∀ id ∈ L.drop r, GRow 26 32 dE W (B + 2) (U id).v ((V.selN ys c id).map (·.doc))
 done : ∀ p ∈ us, ∀ b, p.2.v.ownBlock = some b -> ∃ id ∈ L.take j, (U id).v.ownBlock = some b
 big : N2 ≤ W.heap.size
 base : B + 2 ≤ N2
 ub : ∀ id b, (U id).v.ownBlock = some b -> b < N2
 b1 : B + 1 ≤ W1.heap.size
namespace HPInv
variable {B : Nat} {W1 : World} {N2 : Nat} {i : Int} {c : V.Comp} {ys : List V.Note} {U : V.Bs -> Sd} {Dm : DataW Value} {L : List V.Bs} {sv ov : Value} {j r : Nat} {us : List (V.Hit × Sd)} {W W' : World}
theorem call (h : HPInv B W1 N2 i c ys U Dm L sv ov j r us W) (hb : Below W.heap.size W W') : HPInv B W1 N2 i c ys U Dm L sv ov j r us W' :=
 ⟨h.out.below hb, h.said, h.below.trans (hb.mono (Nat.le_trans (Nat.le_trans (by omega) h.base) h.big)), GRow.below h.keys hb, h.map.kept (zn hb none) (by simp), fun id g0 => GRow.below (h.rows id g0) hb, h.done, Nat.le_trans h.big hb.size, h.base, h.ub, h.b1⟩
theorem box (h : HPInv B W1 N2 i c ys U Dm L sv ov j r us W) {Y : Nat} (hg : W.grownBy W' (some Y)) (hY : N2 ≤ Y) (ht : ∃ cs fr, W.heap[Y]? = some (.cells cs 63 fr)) (ho : ov.ownBlock ≠ some Y := by assumption) : HPInv B W1 N2 i c ys U Dm L sv ov j r us W' := by
 obtain ⟨cs, fr, ht⟩ := ht
 refine ⟨⟨jz h.out.row hg (fun b hb e => by cases e; exact ho hb), fun p hp => (h.out.each p hp).grow hg (fun b e => by cases e; exact ⟨_, _, _, ht, by decide⟩)⟩, h.said, h.below.grown hg (Nat.le_trans (Nat.le_trans (by omega) h.base) h.big) (fun b e => by cases e; have := h.base; omega), jz h.keys hg (fun b hb e => ?_), h.map.kept hg (fun e => ?_), fun id g0 => jz (h.rows id g0) hg (fun b hb e => ?_), h.done, Nat.le_trans h.big hg.size, h.base, h.ub, h.b1⟩
 ·cases e
  obtain ⟨cs', h0⟩ := yp h.keys hb
  rw [ht] at h0
  cases h0
 ·cases e
  have := h.base
  omega
 ·cases e
  have := h.ub id _ hb
  omega
theorem sort (h : HPInv B W1 N2 i c ys U Dm L sv ov j j us W) (hn : L.Nodup) {g : Nat} (hj : j < L.length) (hg : W.grownBy W' (some g)) (hU : (U L[j]).v.ownBlock = some g) (hB : B + 2 ≤ g) (ha : ∀ a b, a ≠ b -> ∀ g, (U a).v.ownBlock = some g -> (U b).v.ownBlock ≠ some g) :
  HPInv B W1 N2 i c ys U Dm L sv ov j (j + 1) us W' := by
 have hp := List.pairwise_iff_getElem.1 hn
 have g1 := h.ub _ _ hU
 refine ⟨⟨GRow.kept h.out.row hg (fun b e => by cases e; exact g1), fun p g2 => (h.out.each p g2).apart hg (fun b hb e => ?_)⟩, h.said, h.below.grown hg (Nat.le_trans (Nat.le_trans (by omega) h.base) h.big) (fun b e => by cases e; omega), GRow.kept h.keys hg (fun b e => by cases e; exact g1), h.map.kept hg (fun e => by cases e; omega), fun id g0 => jz (h.rows id ?_) hg (fun b hb e => ?_), h.done, Nat.le_trans h.big hg.size, h.base, h.ub, h.b1⟩
 ·cases e
  obtain ⟨id, g0, hb2⟩ := h.done p g2 _ hb
  obtain ⟨m, hm, rfl⟩ := List.mem_iff_getElem.1 g0
  rw [List.getElem_take] at hb2
  have g3 : m < j := by rw [List.length_take] at hm; omega
  exact ha L[m] L[j] (hp m j (by omega) hj g3) g hb2 hU
 ·rw [show L.drop j = L[j] :: L.drop (j + 1) from List.drop_eq_getElem_cons hj]
  exact List.mem_cons_of_mem _ g0
 ·cases e
  obtain ⟨m, hm, rfl⟩ := List.mem_iff_getElem.1 g0
  rw [List.getElem_drop] at hb
  rw [List.length_drop] at hm
  exact ha L[j] L[j + 1 + m] (hp j (j + 1 + m) hj (by omega) (by omega)) g hU hb
theorem add (h : HPInv B W1 N2 i c ys U Dm L sv ov j (j + 1) us W) {ov' : Value} {x : V.Hit} {u : Sd} (hr : GRow 63 4 hE W' N2 ov' (us ++ [(x, u)])) (hg : W.grownBy W' ov.ownBlock) (hd : Digs W u.v x.docs) (hs : (L.take (j + 1)).map (V.hitN ys i c) = (L.take j).map (V.hitN ys i c) ++ [x]) (id : V.Bs) (g0 : ∀ a, a ∈ L.take (j + 1) ↔ a ∈ L.take j ∨ a = id) (hU : (U id).v.ownBlock = u.v.ownBlock) : HPInv B W1 N2 i c ys U Dm L sv ov' (j + 1) (j + 1) (us ++ [(x, u)]) W' := by
 have ht : ∀ b, ov.ownBlock = some b -> N2 ≤ b /\ ∃ cs, W.heap[b]? = some (.cells cs 63 (0, 0)) := fun b hb => ⟨h.out.row.block b hb, yp h.out.row hb⟩
 have g1 : ∀ {v : Value} {l : List (List Int)}, Digs W v l -> Digs W' v l := fun hd => hd.grow hg (fun b e => by
   obtain ⟨_, cs, hcs⟩ := ht b e
   exact ⟨cs, _, _, hcs, by decide⟩)
 refine ⟨⟨hr, fun p hp => ?_⟩, ?_, h.below.grown hg (Nat.le_trans (Nat.le_trans (by omega) h.base) h.big) (fun b e => by have := (ht b e).1; have := h.base; omega), jz h.keys hg (fun b hb e => ?_), h.map.kept hg (fun e => ?_), fun id g0 => jz (h.rows id g0) hg (fun b hb e => ?_), fun p hp b hb => ?_, Nat.le_trans h.big hg.size, h.base, h.ub, h.b1⟩
 ·rcases List.mem_append.1 hp with hp | hp
  ·exact g1 (h.out.each p hp)
  ·rw [List.mem_singleton] at hp; subst hp; exact g1 hd
 ·rw [List.map_append, h.said, hs]; rfl
 ·obtain ⟨_, cs, hcs⟩ := ht b e
  obtain ⟨cs', h0⟩ := yp h.keys hb
  rw [hcs] at h0
  cases h0
 ·have := (ht _ e.symm).1
  have := h.base
  omega
 ·have := (ht b e).1
  have := h.ub id b hb
  omega
 ·rcases List.mem_append.1 hp with hp | hp
  ·obtain ⟨a, ha, hb2⟩ := h.done p hp b hb
   exact ⟨a, (g0 a).2 (.inl ha), hb2⟩
  ·rw [List.mem_singleton] at hp
   subst hp
   exact ⟨id, (g0 id).2 (.inr rfl), by rw [hU]; exact hb⟩
end HPInv
theorem hits_any (i : Int) (c : V.Comp) (v : Value) (xs : List NV) (w : World) (hm : zj w) (hc : CompWf c) (hv : Notes w v xs) (hl : xs.length ≤ 1000) (v6 : c.ver.length ≤ maxLen) :
  Calls Tryz.prog 39 #[.int .i64 i, .agg (ccells c), v] w fun e w' => ∃ v' us, e = .returned v' /\ HRow w.heap.size w' v' us /\ us.map (·.1) = V.zae (xs.map (·.n)) i c /\ Below w.heap.size w w' := by
 obtain ⟨pa, pc, rfl⟩ := hv.slice
 have HM := zwg hm
 have HV := zwg hv
 have HC := zwg hc
 have U2 := zwg v6
 obtain ⟨W1, j4⟩ : ∃ W1, W1 = (w.alloc (.cells (ccells c) 60)).alloc (.map #[] 0) := ⟨_, rfl⟩
 have HB1 : Hid (Below w.heap.size w W1) := zwg (by rw [j4]; exact ((zwj _ w).alloc (zwi _) _).alloc (by simp) _)
 have h7 : Hid (W1.heap.size = w.heap.size + 2) := zwg (by rw [j4]; simp)
 have U9 : Hid (W1.heap[w.heap.size]? = some (.cells (ccells c) 60 (0, 0))) := zwg (by rw [j4, heap_alloc, if_neg (by simp), heap_alloc, if_pos rfl])
 have V0 : Hid (FInv (w.heap.size + 2) (w.heap.size + 1) i c [] (fun _ => ⟨none, 0, 0⟩) (.map []) W1) := zwg (by
   have v7 : W1.ownsMap Tryz.prog 9 zd8 (w.heap.size + 1) 0 (.map []) := by
     have := World.ownsMap_made (w.alloc (.cells (ccells c) 60)) Tryz.prog 9 zd8
     rw [j4]
     simpa using this
   exact ⟨v7, fun id => by simp [Maps.has, V.km, V.idsN, V.zai], fun id => by simp [DataW.atKey, zeb, V.km, V.idsN, V.zai], fun id => GRow.nil _ _, fun _ _ => rfl, fun _ _ _ g hg => (by cases hg), by omega⟩)
 have HW := zwg j4
 have V1 : (w.alloc (.cells (ccells c) 60)).heap.size = w.heap.size + 1 := by simp
 clear hm hv hc j4 v6
 have v7 := @run_makeMap Tryz.prog
 go_enter Tryz.func39, Tryz.ntmps39
 go_wp2_with fail
 rw [← HW.out]
 clear HW V1 v7
 go_loopw [18] (fun iv wx => ∃ (k : Nat) (U : V.Bs -> Sd) (D : DataW Value), k ≤ xs.length /\ iv = .int .i64 k /\ FInv (w.heap.size + 2) (w.heap.size + 1) i c ((xs.take k).map (·.n)) U D wx /\ Below (w.heap.size + 1) W1 wx) (fun iv _ => xs.length - (intOf iv).toNat)
 case atStart => exact ⟨0, _, _, Nat.zero_le _, rfl, V0.out, zwj _ _⟩
 case round =>
  obtain ⟨k, U, Dm, hk, rfl, G3, hb⟩ := hrel
  have g3 := zwg G3
  have HBX := zwg hb
  have HBW : Hid (Below w.heap.size w wr) := zwg (HB1.out.trans (hb.mono (by have := h7.out; omega)))
  clear G3 hb
  by_cases hlt : k < xs.length
  ·obtain ⟨hok, g, off, hpa, hg, hr⟩ := (HV.out.below HBW.out).at k hlt
   subst hpa
   have HOK := zwg hok
   have HR := zwg hr
   have i1 : (0 : Int) ≤ (k : Int) := by omega
   have i2 : (k : Int) < (xs.length : Int) := by omega
   have HST : Hid ((xs.take (k + 1)).map (·.n) = (xs.take k).map (·.n) ++ [xs[k].n]) := zwg (by rw [List.take_succ_eq_append_getElem hlt, List.map_append]; rfl)
   have h8 : Hid (((xs.take k).map (·.n)).length ≤ 1000) := zwg (by simp; omega)
   clear hok hr
   generalize xs[k] = x at *
   generalize (xs.take k).map (·.n) = ys at *
   have V2 : (wr.alloc (.cells (ncells x) 57)).heap.size = wr.heap.size + 1 := by simp
   have hb2 : Below wr.heap.size wr (wr.alloc (.cells (ncells x) 57)) := (zwj _ wr).alloc (zwi _) _
   have y0 : Hid ((wr.alloc (.cells (ncells x) 57)).heap[wr.heap.size]? = some (.cells (ncells x) 57 (0, 0))) := zwg (heap_alloc_new wr _)
   have U3 : w.heap.size + 2 ≤ wr.heap.size := by have := HBX.out.size; have := h7.out; omega
   have HF2 := zwg (g3.out.call hb2)
   have HB2 := zwg (HBX.out.trans (hb2.mono (by omega)))
   have U4 := zwh HBW hb2
   have k4 := zwg (HOK.out.below hb2)
   have y1 : Hid (w.heap.size + 1 < wr.heap.size) := zwg (by omega)
   obtain ⟨x0, x1, x2, x3, xr, x36⟩ := xh HOK.out.doc (uf y0.out)
   simp only [Nat.zero_add] at x0 x1 x2 x3
   have q5 : (wr.alloc (.cells (ncells x) 57)).heap[w.heap.size]? = some (.cells (ccells c) 60 (0, 0)) := (HB2.out.block w.heap.size (by have := h7.out; omega)).trans U9.out
   have k1 : (wr.alloc (.cells (ncells x) 57)).cell? ⟨w.heap.size, 1, none⟩ = some (.int .i64 c.sch) := by rw [cell_of_row _ _ _ _ _ _ q5]; exact zqn c
   have k2 : (wr.alloc (.cells (ncells x) 57)).cell? ⟨w.heap.size, 2, none⟩ = some (.string ⟨c.name.toArray⟩) := by rw [cell_of_row _ _ _ _ _ _ q5]; exact zq0 c
   have k3 : (wr.alloc (.cells (ncells x) 57)).cell? ⟨w.heap.size, 3, none⟩ = some (.string ⟨c.ver.toArray⟩) := by rw [cell_of_row _ _ _ _ _ _ q5]; exact zqh c
   clear q5
   clear hb2 U3
   go_wp2_with (first | (refine zp5 rfl _ rfl g (off + k * 37) rfl x HOK.out.doc HR.out ?_) | (refine zsy rfl _ _ rfl _ _ rfl x HOK.out.doc (nl_one HOK.out) rfl rfl ?_; generalize wr.alloc (.cells (ncells x) 57) = w2 at *; clear hg; generalize wr.heap.size = X at *) | fail)
   refine (zez x.n.adv x.u c.sch c.name c.ver w2 (HM.out.below U4.out) k4.out.affs k4.out.id k4.out.len U2.out).mono ?_
   rintro e w3 ⟨rfl, hb3⟩
   have HF3 := zwg (HF2.out.call hb3)
   have HB3 := zwg (HB2.out.trans (hb3.mono (by have := y1.out; omega)))
   have y4 := zwg ((hb3.block X (by omega)).trans y0.out)
   have HCV : Hid (V.cov x.n c = V.covP x.n.adv c.sch c.name c.ver) := zwg rfl
   have G4 : X < w3.heap.size := by have := hb3.size; omega
   clear hb3 k1 k2 k3 x0 x1 x2 x3 xr x36 V2 y0 HF2 HB2
   rcases hcv : V.covP x.n.adv c.sch c.name c.ver with _ | _
   ·have HS : Hid (FInv (w.heap.size + 2) (w.heap.size + 1) i c (ys ++ [x.n]) U Dm w3) := zwg (HF3.out.skip x.n (by rw [HCV.out, hcv]))
    rw [← HST.out] at HS
    clear hcv HCV
    go_wp2
    go_roundw
    case rel => exact ⟨k + 1, U, Dm, by omega, by go_num, HS.out, HB3.out⟩
    case measure => simp [intOf]; omega
   ·have V3 : Hid (V.cov x.n c = true) := zwg (by rw [HCV.out, hcv])
    clear hcv HCV
    obtain ⟨x0, x1, x2, x3, xr, x36⟩ := xh HOK.out.doc (uf y4.out)
    simp only [Nat.zero_add] at x0 x1 x2 x3
    obtain ⟨k0, s0, q6⟩ := HF3.out.look x.n.adv.id HOK.out.id
    have g4 := zwg q6
    obtain ⟨⟨ua, un, uc⟩, hU⟩ : ∃ u, u = U x.n.adv.id := ⟨_, rfl⟩
    obtain ⟨sv, h9⟩ : ∃ s, s = V.sevN (V.selN ys c x.n.adv.id) := ⟨_, rfl⟩
    have HU := zwg hU
    have G5 := zwg h9
    rw [← hU, ← h9] at g4
    unfold Sd.v at g4
    have g7 : Hid (X ≠ w3.heap.size) := zwg (by omega)
    have G6 : (w3.alloc (.cells #[.int .i64 k0, .string ⟨s0.toArray⟩, .int .i64 sv, .slice ua un uc] 63)).heap.size = w3.heap.size + 1 := by simp
    have g5 : Below w3.heap.size w3 (w3.alloc (.cells #[.int .i64 k0, .string ⟨s0.toArray⟩, .int .i64 sv, .slice ua un uc] 63)) := (zwj _ w3).alloc (zwi _) _
    have j0 : Hid ((w3.alloc (.cells #[.int .i64 k0, .string ⟨s0.toArray⟩, .int .i64 sv, .slice ua un uc] 63)).heap[w3.heap.size]? = some (.cells #[.int .i64 k0, .string ⟨s0.toArray⟩, .int .i64 sv, .slice ua un uc] 63 (0, 0))) := zwg (heap_alloc_new w3 _)
    have G7 := zwg (HF3.out.call g5)
    have q7 := zwg ((g5.block X G4).trans y4.out)
    have HB4 := zwg (HB3.out.trans (g5.mono (by have := y1.out; omega)))
    have j5 : Hid (w.heap.size + 1 < w3.heap.size) := zwg (by have := y1.out; omega)
    clear q6 hU h9 x1 x2 x3 xr x36 g5 HF3 HB3 y4
    go_wp2_with (first | (refine zl0 rfl (.tmp 32) (.tmp 35) 106 rfl (w.heap.size + 1) rfl (.string ⟨x.n.adv.id.toArray⟩) _ rfl g4.out ?_; clear g4) | fail)
    have G8 := zwg G6
    clear G6 x0 G4
    generalize w3.alloc (.cells #[.int .i64 k0, .string ⟨s0.toArray⟩, .int .i64 sv, .slice ua un uc] 63) = w4 at *
    generalize w3.heap.size = Y at *
    have y5 : w4.cell? ⟨X, 0, none⟩ = some (.string ⟨x.n.adv.id.toArray⟩) := (xh HOK.out.doc (uf q7.out)).1
    refine wp_region_held_drew (S := (fun W' => W'.cell? ⟨X, 0, none⟩ = some (.string ⟨x.n.adv.id.toArray⟩) /\ (∃ cs, W'.heap[X]? = some (.cells cs 57 (0, 0))))) (by kernel_rfl) (⟨y5, _, q7.out⟩) (fun hHeld => ?_)
    refine tk 0 ?_
    refine tk 1 ?_
    refine tk 2 ?_
    refine tk 3 ?_
    refine tk 4 ?_
    refine rd 5 fun K hK => ?_
    refine zmh rfl 3 _ _ rfl Y 0 _ _ j0.out (by show 0 < 4; omega) rfl (.int .i64 i) rfl int_sz rfl (fun w5 g0 => ?_)
    refine hK.out _ _ ?_ (fun hHeld => nx ?_)
    ·(try dsimp only); exact ⟨g0.cell hHeld.1 g7.out, by obtain ⟨cs, hcs⟩ := hHeld.2; exact ⟨cs, g0.other hcs g7.out⟩⟩
    clear hK K
    refine tk 6 ?_
    refine rd 7 fun K hK => ?_
    refine zmh rfl 9 _ _ rfl Y 1 _ _ g0.here (by show 1 < 4; omega) rfl (.string ⟨x.n.adv.id.toArray⟩) rfl str_sz rfl (fun w6 hp6 => ?_)
    refine hK.out _ _ ?_ (fun hHeld => nx ?_)
    ·(try dsimp only); exact ⟨hp6.cell (g0.cell y5 g7.out) g7.out, by obtain ⟨cs, hcs⟩ := hHeld.2; exact ⟨cs, hp6.other hcs g7.out⟩⟩
    clear hK K
    refine wpAnyH_done (by kernel_rfl) ?_ _
    simp only [zwe, List.set_cons_succ, List.set_cons_zero] at g0 hp6
    have j8 := zwg hp6.here
    have G9 := zwg (hp6.other (g0.other q7.out g7.out) g7.out)
    have y6 : Hid (FInv (w.heap.size + 2) (w.heap.size + 1) i c ys U Dm w6) := zwg (((G7.out.call ((zwj _ w4).drew)).other g0.grown (fun b e => by cases e; exact ⟨_, _, _, j0.out, by decide⟩)).other hp6.grown (fun b e => by cases e; exact ⟨_, _, _, g0.here, by decide⟩))
    have HB6 : Hid (Below (w.heap.size + 1) W1 w6) := zwg (hp6.below (g0.below HB4.out.drew (by have := j5.out; omega)) (by have := j5.out; omega))
    have V4 : Hid (w6.heap.size = Y + 1) := zwg (hp6.size.trans (g0.size.trans G8.out))
    clear g0 hp6 hHeld y5 q7 j0 G7 HB4 G8
    obtain ⟨x0, x1, x2, x3, xr, x36⟩ := xh HOK.out.doc (uf G9.out)
    simp only [Nat.zero_add] at x0 x1 x2 x3 xr
    have XR := zwg xr
    have y2 : w6.cell? ⟨Y, 2, none⟩ = some (.int .i64 sv) := by rw [cell_of_row _ _ _ _ _ _ j8.out]; rfl
    clear x0 x1 x3 xr x36
    have j6 : Hid (GRow 26 32 dE w6 (w.heap.size + 2) (.slice ua un uc) ((V.selN ys c x.n.adv.id).map (·.doc))) := zwg (by have := y6.out.row x.n.adv.id; rw [← HU.out] at this; exact this)
    have V5 : Hid ((U x.n.adv.id).v.ownBlock = (Value.slice ua un uc).ownBlock) := zwg (by rw [← HU.out]; rfl)
    have V6 : Hid (w.heap.size + 2 ≤ Y) := zwg (by have := j5.out; omega)
    have V7 : Hid (((V.selN ys c x.n.adv.id).map (·.doc)).length ≤ 1000) := zwg (by
      rw [List.length_map]
      exact Nat.le_trans (List.length_filter_le _ _) h8.out)
    generalize q8 : (V.selN ys c x.n.adv.id).map (·.doc) = docs at *
    have G2 := zwg q8
    clear q8
    go_wp2_with (first
      | (refine zij rfl 3 _ _ rfl Y 2 _ _ j8.out (by show 2 < 4; omega) rfl (.int .i64 (max sv x.n.adv.sev)) rfl int_sz rfl ?_
         intro w7 g8
         simp only [zwe, List.set_cons_succ, List.set_cons_zero] at g8
         have y7 := zwg g8.here
         have J0 := zwg (g8.other G9.out g7.out)
         have J1 := zwg (y6.out.other g8.grown (fun b e => by cases e; exact ⟨_, _, _, j8.out, by decide⟩))
         have HB7 := zwg (g8.below HB6.out (by have := j5.out; omega))
         have y8 : Hid (w7.heap.size = Y + 1) := zwg (g8.size.trans V4.out)
         have q9 := zwg (jz j6.out g8.grown (fun b hb e => by cases e; obtain ⟨cs, h0⟩ := yp j6.out hb; rw [j8.out] at h0; cases h0))
         have y3 : w7.cell? ⟨Y, 3, none⟩ = some (.slice ua un uc) := by rw [cell_of_row _ _ _ _ _ _ y7.out]; rfl
         have XR7 := zwg ((xh HOK.out.doc (uf J0.out)).2.2.2.2.1)
         rw [Nat.zero_add] at XR7
         have hb8 : Below w7.heap.size w7 (w7.alloc (.cells (dcells x.n.doc) 26)) := (zwj _ w7).alloc (zwi _) _
         have J2 := zwg (J1.out.call hb8)
         have h5 := zwg (GRow.below q9.out hb8)
         have y9 := zwg (GSl.one (enc := dE) (k := 32) (c := x.n.doc) (b := w7.heap.size) (w := w7.alloc (.cells (dcells x.n.doc) 26)) (by simp) (zgo w7 x.n.doc HOK.out.doc))
         have v0 := zwg ((hb8.block Y (by have := y8.out; omega)).trans y7.out)
         have HB8 := zwg (HB7.out.trans (hb8.mono (by have := y8.out; have := j5.out; omega)))
         have V8 : Hid (w.heap.size + 2 ≤ (w7.alloc (.cells (dcells x.n.doc) 26)).heap.size) := zwg (by have := y8.out; have := V6.out; simp; omega)
         clear hb8 g8 y2 J1 q9 y7 HB7 J0 y6 j6 j8 HB6)
      | (refine zfu rfl _ rfl X 4 rfl x.n.doc HOK.out.doc XR7.out ?_)
      | (refine zpk rfl _ rfl x.n.doc HOK.out.doc rfl ?_)
      | (refine xj xi (by decide) zb3 zd5 (by decide) rfl _ _ 55 rfl Tryz.underlying55 (w.heap.size + 2) (.slice ua un uc) docs rfl h5.out (.slice (some ⟨w7.heap.size, 0, none⟩) 1 1) [x.n.doc] rfl y9.out (by have := V7.out; simp; omega) V8.out ?_
         intro v9 w9 hr9 h4 z0
         have J3 : ∀ b, (Value.slice ua un uc).ownBlock = some b -> Y ≠ b := fun b hb e => by (cases e; obtain ⟨cs, h0⟩ := yp h5.out hb; rw [v0.out] at h0; cases h0)
         have z1 := zwg ((h4.block Y (Array.getElem?_eq_some_iff.1 v0.out).1 (fun e => J3 Y e.symm rfl)).trans v0.out)
         have HB9 : Hid (Below (w.heap.size + 1) W1 w9) := zwg (HB8.out.grown h4 (by have := HB8.out.size; have := h7.out; omega) (fun b hb => by have := h5.out.block b hb; omega))
         rw [← G2.out] at hr9
         rw [← V5.out] at h4 z0
         obtain ⟨va, vc, hv9⟩ := hr9.slice
         obtain ⟨vn, J4⟩ : ∃ n, n = ((V.selN ys c x.n.adv.id).map (·.doc) ++ [x.n.doc]).length := ⟨_, rfl⟩
         rw [← J4] at hv9
         have J5 := zwg (J2.out.grow (u := ⟨va, vn, vc⟩) h4 (by rw [show (Sd.v ⟨va, vn, vc⟩) = v9 from hv9.symm]; exact hr9) (by rw [show (Sd.v ⟨va, vn, vc⟩) = v9 from hv9.symm]; exact z0))
         subst hv9
         clear J4 hr9 h4 z0 J3 y3 J2 h5 v0 HB8 y9)
      | (refine zij rfl 55 _ _ rfl Y 3 _ _ z1.out (by show 3 < 4; omega) rfl (.slice va vn vc) rfl zt1 rfl ?_
         intro w10 g1
         simp only [zwe, List.set_cons_succ, List.set_cons_zero] at g1
         have z2 := zwg (J5.out.other g1.grown (fun b e => by cases e; exact ⟨_, _, _, z1.out, by decide⟩))
         have HB10 := zwg (g1.below HB9.out (by have := j5.out; omega))
         have q0 : w10.cell? ⟨Y, 0, none⟩ = some (.int .i64 i) := by rw [cell_of_row _ _ _ _ _ _ g1.here]; rfl
         have q1 : w10.cell? ⟨Y, 1, none⟩ = some (.string ⟨x.n.adv.id.toArray⟩) := by rw [cell_of_row _ _ _ _ _ _ g1.here]; rfl
         have q2 : w10.cell? ⟨Y, 2, none⟩ = some (.int .i64 (max sv x.n.adv.sev)) := by rw [cell_of_row _ _ _ _ _ _ g1.here]; rfl
         have q3 : w10.cell? ⟨Y, 3, none⟩ = some (.slice va vn vc) := by rw [cell_of_row _ _ _ _ _ _ g1.here]; rfl
         clear g1 z1 J5 HB9)
      | (refine wpList_mapUpdate_own _ rfl (.tmp 57) (.tmp 59) (.tmp 60) 106 rfl 9 63 zcr Tryz.underlying106 zd8 (w.heap.size + 1) ys.length Dm rfl z2.out.map (by have := h8.out; unfold maxLen; omega) (.string ⟨x.n.adv.id.toArray⟩) (.agg #[.int .i64 i, .string ⟨x.n.adv.id.toArray⟩, .int .i64 (max sv x.n.adv.sev), .slice va vn vc]) (.string x.n.adv.id) rfl rfl (keyOf_string_mk Tryz.underlying9 (by simpa [ByteArray.size] using HOK.out.id)) (.held (.agg #[.int .i64 i, .string ⟨x.n.adv.id.toArray⟩, .int .i64 (max sv x.n.adv.sev), .slice va vn vc])) [] rfl ?_
         intro w11 k5 k6
         rw [G5.out] at k5
         clear q0 q1 q2 q3)
      | fail)
    obtain ⟨U', D', k7⟩ := z2.out.put rfl V3.out HOK.out.id (by have := h8.out; unfold maxLen; omega) k5 k6
    rw [← HST.out] at k7
    have U5 := zwg k7
    have HB11 : Hid (Below (w.heap.size + 1) W1 w11) := zwg (HB10.out.grown k6 (by have := HB10.out.size; have := h7.out; omega) (fun b e => by cases e; exact zwi _))
    clear k7 k5 k6
    go_wp2
    go_roundw
    case rel => exact ⟨k + 1, U', D', by omega, by go_num, U5.out, HB11.out⟩
    case measure => simp [intOf]; omega
  ·obtain rfl : k = xs.length := by omega
   rw [List.take_length] at g3
   have V9 : Hid (∀ x ∈ xs.map (·.n), qj x.doc) := zwg (fun x hx => by
     obtain ⟨y, hy, rfl⟩ := List.mem_map.1 hx
     obtain ⟨j, hj, rfl⟩ := List.mem_iff_getElem.1 hy
     exact (HV.out.at j hj).1.doc)
   have U6 : Hid (∀ x ∈ xs.map (·.n), x.adv.id.length ≤ maxLen) := zwg (fun x hx => by
     obtain ⟨y, hy, rfl⟩ := List.mem_map.1 hx
     obtain ⟨j, hj, rfl⟩ := List.mem_iff_getElem.1 hy
     exact (HV.out.at j hj).1.id)
   have h8 : Hid ((xs.map (·.n)).length ≤ 1000) := zwg (by simpa using hl)
   have HGE : Hid (w.heap.size + 2 ≤ wr.heap.size) := zwg (by have := HBX.out.size; have := h7.out; omega)
   clear HV
   generalize J6 : xs.map (·.n) = ys at *
   have Y0 := zwg J6
   clear J6
   go_wp2_with fail
   refine (zqq _ _).mono ?_
   rintro e w1 ⟨rfl, rfl⟩
   go_wp2_with fail
   refine (zr9 (w.heap.size + 1) ys.length Dm wr g3.out.map (Nat.le_trans g3.out.map.size_le (by have := h8.out; omega))).mono ?_
   rintro e w2 ⟨sl, ss, rfl, g2, g6, U7, hb2⟩
   have h6 := g3.out.keys g2
   rw [h6] at g6
   obtain ⟨L, hL⟩ : ∃ L, L = V.km ys c := ⟨_, rfl⟩
   rw [← hL] at g6 h6
   have z3 : ss.length = L.length := by rw [← h6, List.length_mergeSort]
   rw [z3, ← str_flat] at g6
   have g5 : Below wr.heap.size wr (wr.alloc (.cells #[.map (some (w.heap.size + 1))] 106)) := (zwj _ wr).alloc (zwi _) _
   have j1 : Below wr.heap.size wr w2 := g5.trans (hb2.mono g5.size)
   have Y1 : Hid (∀ id b, (U id).v.ownBlock = some b -> b < wr.heap.size) := zwg (fun id b hb => (g3.out.row id).lt b hb)
   have J7 := g3
   have J8 := zwg hL
   have Y2 : Hid (L.Nodup) := zwg (by
     rw [hL]
     exact List.Pairwise.imp (S := fun a b => a ≠ b) (fun {a b} J9 e => V.za1.irr b (by rw [e] at J9; exact J9)) (V.zbe _))
   have Q0 : Hid (HPInv w.heap.size W1 wr.heap.size i c ys U Dm L sl (.slice none 0 0) 0 0 [] w2) := zwg
    ⟨HRow.nil _ _, rfl, HBX.out.trans (j1.mono (by have := HGE.out; omega)), World.ownsRow.mono g6 g5.size, g3.out.map.kept (zn j1 none) (by simp), fun id _ => (g3.out.row id).below j1, fun p hp => by simp at hp, j1.size, HGE.out, Y1.out, by have := h7.out; omega⟩
   obtain ⟨sa, sc, hsl⟩ := GRow.slice g6
   subst hsl
   have Q1 : Hid (L.length ≤ 1000) := zwg (by
     rw [hL]
     have := V.za3 (c := Lib.compareBytes) (l := []) (xs := (ys.filter fun x => V.cov x c).map (·.adv.id))
     have h2 := List.length_filter_le (fun x => V.cov x c) ys
     have h3 := h8.out
     unfold V.km V.idsN
     simp at this ⊢
     omega)
   clear g2 g6 U7 hb2 h6 z3 g5 j1 hL g3 HBX
   generalize wr.heap.size = N2 at *
   go_wp2_with fail
   go_loopw [11, 66] (fun ov iv wx => ∃ (j : Nat) (us : List (V.Hit × Sd)), j ≤ L.length /\ us.length = j /\ iv = .int .i64 j /\ HPInv w.heap.size W1 N2 i c ys U Dm L (.slice sa L.length sc) ov j j us wx) (fun _ iv _ => L.length - (intOf iv).toNat)
   case atStart => exact ⟨0, [], Nat.zero_le _, rfl, rfl, Q0.out⟩
   case round =>
    clear Q0
    obtain ⟨j, us, hj, Q2, rfl, hp⟩ := hrel
    have HP := zwg hp
    have HUL : Hid (us.length ≤ 1000) := zwg (by have := Q1.out; omega)
    obtain ⟨oa, oc, Y3⟩ := hp.out.row.slice
    subst Y3
    have Y4 := zwg Q2
    clear hp Q2
    by_cases hjl : j < L.length
    ·obtain ⟨g, cap, e, hN, hgs, hc⟩ := GRow.at uh HP.out.keys j hjl
     obtain ⟨e1, _, e3⟩ := Value.slice.inj e
     subst e1 e3
     have Q3 := hc 0 _ rfl
     rw [Nat.mul_one, Nat.add_zero] at Q3
     have Z2 : j < 1000 := by have := Q1.out; omega
     have i1 : (0 : Int) ≤ (j : Int) := by omega
     have i2 : (j : Int) < (L.length : Int) := by omega
     obtain ⟨id, j2⟩ : ∃ id, id = L[j] := ⟨_, rfl⟩
     have Y5 := zwg j2
     rw [← j2] at Q3
     have j3 : id ∈ V.km ys c := by rw [← J8.out, j2]; exact List.getElem_mem hjl
     have Z1 := zwg j3
     have Y6 : Hid (id.length ≤ maxLen) := zwg (by
       obtain ⟨x, hx, rfl, _⟩ := V.xv.1 j3
       exact U6.out x hx)
     have g4 := zwg (J7.out.look_of HP.out.map id Y6.out j3)
     have v1 : Hid (GRow 26 32 dE wr (w.heap.size + 2) (U id).v ((V.selN ys c id).map (·.doc))) := zwg (HP.out.rows id (by rw [List.drop_eq_getElem_cons hjl, ← j2]; simp))
     have HNE : Hid ((V.selN ys c id).map (·.doc) ≠ []) := zwg (fun e => by
       obtain ⟨x, hx, h1, h2⟩ := V.xv.1 j3
       have : x ∈ V.selN ys c id := by unfold V.selN; rw [List.mem_filter]; exact ⟨hx, by rw [decide_eq_true h1, h2]; rfl⟩
       rw [List.map_eq_nil_iff] at e
       rw [e] at this; simp at this)
     have z4 : Hid (∀ d ∈ (V.selN ys c id).map (·.doc), qj d) := zwg (fun d hd => by
       obtain ⟨x, hx, rfl⟩ := List.mem_map.1 hd
       unfold V.selN at hx
       exact V9.out x (List.mem_filter.1 hx).1)
     have HLD : Hid (((V.selN ys c id).map (·.doc)).length ≤ 1000) := zwg (by
       rw [List.length_map]
       exact Nat.le_trans (List.length_filter_le _ _) h8.out)
     have HST : Hid ((L.take (j + 1)).map (V.hitN ys i c) = (L.take j).map (V.hitN ys i c) ++ [⟨i, id, V.sevN (V.selN ys c id), V.zdn (V.selN ys c id)⟩]) := zwg (by
       rw [List.take_succ_eq_append_getElem hjl, List.map_append, ← j2]; rfl)
     have HTK : Hid (∀ a, a ∈ L.take (j + 1) ↔ a ∈ L.take j ∨ a = id) := zwg (fun a => by
       rw [List.take_succ_eq_append_getElem hjl, ← j2, List.mem_append, List.mem_singleton])
     obtain ⟨⟨ua, un, uc⟩, hU⟩ : ∃ u, u = U id := ⟨_, rfl⟩
     have HU := zwg hU
     rw [← hU] at g4 v1
     unfold Sd.v at g4 v1
     obtain ⟨sv, h9⟩ : ∃ s, s = V.sevN (V.selN ys c id) := ⟨_, rfl⟩
     have G5 := zwg h9
     rw [← h9] at g4 HST
     have hb3 : Below wr.heap.size wr (wr.alloc (.cells #[.int .i64 i, .string ⟨id.toArray⟩, .int .i64 sv, .slice ua un uc] 63)) := (zwj _ wr).alloc (zwi _) _
     have Q4 := zwg (HP.out.call hb3)
     have z5 := zwg (GRow.below v1.out hb3)
     have z6 : Hid ((wr.alloc (.cells #[.int .i64 i, .string ⟨id.toArray⟩, .int .i64 sv, .slice ua un uc] 63)).heap[wr.heap.size]? = some (.cells #[.int .i64 i, .string ⟨id.toArray⟩, .int .i64 sv, .slice ua un uc] 63 (0, 0))) := zwg (heap_alloc_new wr _)
     have HNY : Hid (N2 ≤ wr.heap.size) := zwg HP.out.big
     have Z3 : Hid ((Value.slice oa us.length oc).ownBlock ≠ some wr.heap.size) := zwg (fun e => by
       have := GRow.lt HP.out.out.row _ e
       omega)
     have y3 : (wr.alloc (.cells #[.int .i64 i, .string ⟨id.toArray⟩, .int .i64 sv, .slice ua un uc] 63)).cell? ⟨wr.heap.size, 3, none⟩ = some (.slice ua un uc) := by rw [cell_of_row _ _ _ _ _ _ z6.out]; rfl
     clear hb3 hc j3 j2 hU h9 HP v1 hgs hN
     go_wp2_with (first
     | (refine zl0 rfl (.tmp 70) (.tmp 71) 106 rfl (w.heap.size + 1) rfl (.string ⟨id.toArray⟩) _ rfl g4.out ?_
        clear g4)
       | fail)
     generalize wr.alloc (.cells #[.int .i64 i, .string ⟨id.toArray⟩, .int .i64 sv, .slice ua un uc] 63) = w3 at *
     generalize wr.heap.size = Y at *
     refine (zul _ _ _ w3 z5.out z4.out HNE.out HLD.out).mono ?_
     rintro e w4 ⟨rfl, g9, c9, l', Q5, h4, g2, Q6, v2, k8⟩
     obtain ⟨e1, e2, e3⟩ := Value.slice.inj Q5
     subst e1 e3
     have Q7 : Hid (l'.length = un) := zwg (by rw [e2]; exact g2.length_eq)
     have z7 : Hid ((U id).v.ownBlock = some g9) := zwg (by rw [← HU.out]; rfl)
     have z8 : g9 ≠ Y := by
      have := Q4.out.ub id g9 z7.out
      have := HNY.out
      omega
     have j0 := zwg ((k8.block Y (Array.getElem?_eq_some_iff.1 z6.out).1 (fun e => z8 (Option.some.inj e).symm)).trans z6.out)
     have U8 := zwg v2
     have HG4 := zwg k8
     have j9 := zwg (And.intro g2 Q6)
     have HB9 := zwg h4
     have Y7 := zwg z8
     have y3 : w4.cell? ⟨Y, 3, none⟩ = some (.slice (some ⟨g9, 0, none⟩) un uc) := by rw [cell_of_row _ _ _ _ _ _ j0.out]; rfl
     clear Q5 h4 g2 Q6 v2 k8 e2 z8
     go_wp2_with fail
     have z9 := Q7.out
     have k9 := zus g9 uc l' w4 U8.out (fun d hd => z4.out d (j9.out.1.mem_iff.1 hd)) (by have := j9.out.1.length_eq; have := HLD.out; omega) (by
       have := GRow.cap9 z5.out
       rw [z9]; exact this)
     rw [z9] at k9
     refine k9.mono ?_
     rintro e w5 ⟨rfl, j7, q4⟩
     obtain ⟨cd, v3⟩ : ∃ cd, cd = V.jy l' un := ⟨_, rfl⟩
     rw [← v3] at j7 ⊢
     have Y8 : Hid (cd = V.zdn (V.selN ys c id)) := zwg (by
       rw [v3, ← Q7.out]
       exact V.zq6 j9.out.1 (j9.out.2.imp (fun h => Int.not_lt.2 h)))
     have v4 := HG4.out.trans q4
     have Q8 := zwg (Q4.out.sort Y2.out hjl v4 (by rw [← Y5.out]; exact z7.out) HB9.out J7.out.apart)
     have v5 := zwg ((q4.block Y (Array.getElem?_eq_some_iff.1 j0.out).1 (fun e => Y7.out (Option.some.inj e).symm)).trans j0.out)
     have G0 := j7.digs (cap := uc) (fun d hd => z4.out d (by
       rw [v3] at hd
       obtain ⟨m, _, hm⟩ := V.zde.1 hd
       exact j9.out.1.mem_iff.1 (List.mem_of_getElem? hm)))
     have Q9 : Hid (Digs w5 (.slice (some ⟨g9, 0, none⟩) cd.length uc) (V.zdn (V.selN ys c id))) := zwg (by rw [← Y8.out]; exact G0)
     clear j7 q4 v4 G0 v3 k9 z9 y3
     generalize cd.length = m9 at *
     go_wp2_with (first
     | (refine zij rfl 55 _ _ rfl Y 3 _ _ v5.out (by show 3 < 4; omega) rfl (.slice (some ⟨g9, 0, none⟩) m9 uc) rfl zt1 rfl ?_
        intro w6 hp6
        simp only [zwe, List.set_cons_succ, List.set_cons_zero] at hp6
        have q0 : w6.cell? ⟨Y, 0, none⟩ = some (.int .i64 i) := by rw [cell_of_row _ _ _ _ _ _ hp6.here]; rfl
        have q1 : w6.cell? ⟨Y, 1, none⟩ = some (.string ⟨id.toArray⟩) := by rw [cell_of_row _ _ _ _ _ _ hp6.here]; rfl
        have q2 : w6.cell? ⟨Y, 2, none⟩ = some (.int .i64 sv) := by rw [cell_of_row _ _ _ _ _ _ hp6.here]; rfl
        have q3 : w6.cell? ⟨Y, 3, none⟩ = some (.slice (some ⟨g9, 0, none⟩) m9 uc) := by rw [cell_of_row _ _ _ _ _ _ hp6.here]; rfl
        have U0 := zwg (Q8.out.box hp6.grown HNY.out ⟨_, _, v5.out⟩)
        have U1 : Hid (Digs w6 (.slice (some ⟨g9, 0, none⟩) m9 uc) (V.zdn (V.selN ys c id))) := zwg (Q9.out.grow hp6.grown (fun b e => by cases e; exact ⟨_, _, _, v5.out, by decide⟩))
        have hb7 : Below w6.heap.size w6 (w6.alloc (.cells #[.int .i64 i, .string ⟨id.toArray⟩, .int .i64 sv, .slice (some ⟨g9, 0, none⟩) m9 uc] 63)) := (zwj _ w6).alloc (zwi _) _
        have G1 := zwg (U0.out.call hb7)
        have Y9 := zwg (U1.out.below hb7)
        have HNW := zwg (hit_new w6 ⟨i, id, sv, V.zdn (V.selN ys c id)⟩ ⟨some ⟨g9, 0, none⟩, m9, uc⟩)
        clear hb7 hp6 Q8 Q9 v5 U0 U1)
     | (refine xj uo (by decide) zje zjw (by decide) rfl _ _ 35 rfl Tryz.underlying35 N2 (.slice oa us.length oc) us rfl G1.out.out.row (.slice (some ⟨w6.heap.size, 0, none⟩) 1 1) [(⟨i, id, sv, V.zdn (V.selN ys c id)⟩, ⟨some ⟨g9, 0, none⟩, m9, uc⟩)] rfl (GSl.one (by simp) HNW.out) (by have := HUL.out; simp; omega) G1.out.big ?_
        intro v8 w8 hr8 hg8 _
        clear q0 q1 q2 q3)
       | fail)
     have HP8 := zwg (G1.out.add hr8 hg8 Y9.out HST.out id HTK.out (by rw [z7.out]; rfl))
     clear hr8 hg8
     go_wp2
     go_roundw
     case rel => exact ⟨j + 1, _, by omega, by rw [List.length_append, Y4.out]; rfl, by go_num, HP8.out⟩
     case measure => simp [intOf]; omega
    ·obtain rfl : j = L.length := by omega
     have Z0 : Hid (us.map (·.1) = V.zae ys i c) := zwg (by
       rw [HP.out.said, List.take_length, J8.out]; rfl)
     have HRE := zwg (HP.out.out.weaken (M := w.heap.size) (by have := HGE.out; omega))
     have HBE : Hid (Below w.heap.size w wr) := zwg (HB1.out.trans (HP.out.below.mono (Nat.le_succ _)))
     go_wp2
     go_ret
     exact ⟨_, us, rfl, HRE.out, by rw [Y0.out]; exact Z0.out, HBE.out⟩
end Go.Proofs.YtbikeahmldobkaaGreatDoor
