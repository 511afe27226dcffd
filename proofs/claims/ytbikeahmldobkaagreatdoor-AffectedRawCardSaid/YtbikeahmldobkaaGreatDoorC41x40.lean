/-
  Lemmas for the law.
-/
import Derived.Test.YtbikeahmldobkaaGreatDoorC41x39
import Derived.Test.YtbikeahmldobkaaGreatDoorC41x11
import Derived.Carry
set_option linter.all false
set_option maxRecDepth 100000
set_option maxHeartbeats 12800000
namespace Go.Proofs.YtbikeahmldobkaaGreatDoor
open Go.RowKit Go.Maps
open Go.WideMaps (keyOf_string_mk)
theorem zl4 : (Tryz.prog.info? 3).map (·.size) = some 1 := by kernel_rfl
theorem str_sz : (Tryz.prog.info? 9).map (·.size) = some 1 := by kernel_rfl
theorem zi4 : (Tryz.prog.info? 55).map (·.size) = some 1 := by kernel_rfl
theorem zla (mb : Option Nat) (W : World) : Calls Tryz.prog 68 #[.map mb] W fun e w' => e = .returned (.func (.func 105) #[] #[.pointer (some ⟨W.heap.size, 0, none⟩)]) /\ w' = W.alloc (.cells #[.map mb] 106) :=
 callsIn_wide.1 (AnyZ.keys_in Tryz.keysIt Fence.wide 5 trivial rfl mb W)
theorem sorts_it (m : Nat) : AnyZ.SortsIn Tryz.prog Tryz.sortedIt_ren Fence.wide m :=
 ⟨fun blk off cap ss W hH hblk hsz => callsIn_wide.2 (AnyM.slices_Sort_string Tryz.sortIt blk off cap ss W hH hblk hsz),
  fun p cap W => callsIn_wide.2 (AnyM.slices_Sort_string_none Tryz.sortIt p cap W)⟩
theorem zma (b nn : Nat) (D0 : DataW Value) (w : World) (hown : w.ownsMap Tryz.prog 9 zar b nn D0) (hmax : Maps.size D0 ≤ 1000000) :
  Calls Tryz.prog 67 #[.func (.func 105) #[] #[.pointer (some ⟨w.heap.size, 0, none⟩)]] (w.alloc (.cells #[.map (some b)] 106)) fun e w' => ∃ (v : Value) (ss : List (List UInt8)), e = .returned v /\ ss.Perm (strKeys D0) /\
   w'.ownsRow (w.alloc (.cells #[.map (some b)] 106)).heap.size 9 1 v ss.length ((ss.mergeSort (fun x y => decide (x ≤ y))).map encStr) /\ (v = .slice none 0 0 ↔ ss = []) /\ Below (w.alloc (.cells #[.map (some b)] 106)).heap.size (w.alloc (.cells #[.map (some b)] 106)) w' := by
 have hbl := hown.lt
 have hseq : SeqGives Fence.wide 2 Tryz.prog 105 #[.pointer (some ⟨w.heap.size, 0, none⟩)] encStr (fun ss => ss.Perm (strKeys D0)) (Maps.size D0) (w.alloc (.cells #[.map (some b)] 106)) :=
  AnyZ.keys_gives (ρ := Tryz.keysIt_ren) { Tryz.keysIt with } Fence.wide _ trivial rfl (by omega) w.heap.size b nn D0 _ (by simp) (by simp) (by
    obtain ⟨es, clock, hb, Ft, hs, hD⟩ := hown
    exact ⟨es, clock, (Below.heap_alloc _ _ b hbl).trans hb, Ft, hs, hD⟩)
 exact callsIn_wide.1 (AnyZ.sorted_in Tryz.sortedIt Fence.wide 5 trivial trivial trivial trivial rfl (by omega) (sorts_it _) (enters_of Tryz.func104 (by kernel_rfl) rfl) 105 #[.pointer (some ⟨w.heap.size, 0, none⟩)] trivial (enters_of Tryz.func105 (by kernel_rfl) rfl) _ _ (by unfold maxLen; omega) (by omega) _ hseq)
theorem zg9 {ops : Array Oper} {rest : List Oper} {o : Oper} {a : Act} {w : World} {Q : Exit -> Act -> World -> Prop} (hgd : o.guard = none) (m x : Operand) (T : TypeId) (ho : o.op = .lookup T m x false) (b : Nat) (hm : a.eval m = .map (some b)) (key v : Value) (hx : a.eval x = key)
  (hr : (Instr.lookup T (.map (some b)) key false).run Tryz.prog w = .ok v w) (h : wpList Tryz.prog ops Q rest (a.put o.dst v) w) : wpList Tryz.prog ops Q (o :: rest) a w := by
 refine wpList_plain hgd fun K hK => ?_
 unfold Oper.wp execOp
 simp only [ho, hm, hx, Sem.run_bind, hr, Result.andThen_ok, Sem.run_pure]
 exact hK _ _ h
theorem zi7 (w : World) (h : V.Hit) (u : Sd) : ∀ j x, (hE (h, u))[j]? = some x -> (w.alloc (.cells #[.int .i64 h.comp, .string ⟨h.id.toArray⟩, .int .i64 h.sev, .slice u.a u.n u.c] 63)).cell? ⟨w.heap.size, j, none⟩ = some x := fun j x hx => by
 rw [World.cell?_alloc_new]
 simpa [hE, Sd.v] using hx
theorem str_flat (L : List V.Bs) : L.flatMap sE = L.map encStr := by
 induction L with
 | nil => rfl
 | cons x L ih => rw [List.flatMap_cons, List.map_cons, ih]; rfl
theorem FInv.look_of {N M : Nat} {i : Int} {c : V.Comp} {ys : List V.Note} {U : V.Bs -> Sd} {D : DataW Value} {W0 W : World} (h : FInv N M i c ys U D W0) (hm : W.ownsMap Tryz.prog 9 zar M ys.length D) (id : V.Bs) (hl : id.length ≤ maxLen) (hid : id ∈ V.jk ys c) : (Instr.lookup 106 (.map (some M)) (.string ⟨id.toArray⟩) false).run Tryz.prog W = .ok (.agg #[.int .i64 i, .string ⟨id.toArray⟩, .int .i64 (V.sevN (V.selN ys c id)), (U id).v]) W := by
 obtain ⟨v, ps, hrun, hv⟩ := hm.lookup vf Tryz.underlying106 (Tryz.zeroValue63 W) (zd := .held zc0) (zp := []) rfl (key := .string ⟨id.toArray⟩) (kl := .string id) (keyOf_string_mk Tryz.underlying9 (by simpa [ByteArray.size] using hl))
 rw [h.val id] at hv
 unfold zar at hv
 simp only [Option.some.injEq, Prod.mk.injEq, DataW.held.injEq] at hv
 rw [hrun, hv.1]
 unfold zau
 rw [if_pos hid]
structure HPInv (B : Nat) (W1 : World) (N2 : Nat) (i : Int) (c : V.Comp) (ys : List V.Note) (U : V.Bs -> Sd) (Dm : DataW Value) (L : List V.Bs) (sv ov : Value) (j r : Nat) (us : List (V.Hit × Sd)) (W : World) : Prop where
 out : HRow N2 W ov us
 said : us.map (·.1) = (L.take j).map (V.hitN ys i c)
 below : Below (B + 1) W1 W
 keys : GRow 9 1 sE W N2 sv L
 map : W.ownsMap Tryz.prog 9 zar (B + 1) ys.length Dm
 rows : ∀ id ∈ L.drop r, GRow 26 32 dE W (B + 2) (U id).v ((V.selN ys c id).map (·.doc))
 done : ∀ p ∈ us, ∀ b, p.2.v.ownBlock = some b -> ∃ id ∈ L.take j, (U id).v.ownBlock = some b
 big : N2 ≤ W.heap.size
 base : B + 2 ≤ N2
 ub : ∀ id b, (U id).v.ownBlock = some b -> b < N2
 b1 : B + 1 ≤ W1.heap.size
namespace HPInv
variable {B : Nat} {W1 : World} {N2 : Nat} {i : Int} {c : V.Comp} {ys : List V.Note} {U : V.Bs -> Sd} {Dm : DataW Value} {L : List V.Bs} {sv ov : Value} {j r : Nat} {us : List (V.Hit × Sd)} {W W' : World}
theorem call (h : HPInv B W1 N2 i c ys U Dm L sv ov j r us W) (hb : Below W.heap.size W W') : HPInv B W1 N2 i c ys U Dm L sv ov j r us W' :=
 ⟨h.out.below hb, h.said, h.below.trans (hb.mono (Nat.le_trans (Nat.le_trans (by omega) h.base) h.big)), GRow.below h.keys hb, h.map.kept (jp hb none) (by simp), fun id hid => GRow.below (h.rows id hid) hb, h.done, Nat.le_trans h.big hb.size, h.base, h.ub, h.b1⟩
theorem box (h : HPInv B W1 N2 i c ys U Dm L sv ov j r us W) {Y : Nat} (hg : W.grownBy W' (some Y)) (hY : N2 ≤ Y) (ht : ∃ cs fr, W.heap[Y]? = some (.cells cs 63 fr)) (ho : ov.ownBlock ≠ some Y := by assumption) : HPInv B W1 N2 i c ys U Dm L sv ov j r us W' := by
 obtain ⟨cs, fr, ht⟩ := ht
 refine ⟨⟨jn h.out.row hg (fun b hb e => by cases e; exact ho hb), fun p hp => (h.out.each p hp).grow hg (fun b e => by cases e; exact ⟨_, _, _, ht, by decide⟩)⟩, h.said, h.below.grown hg (Nat.le_trans (Nat.le_trans (by omega) h.base) h.big) (fun b e => by cases e; have := h.base; omega), jn h.keys hg (fun b hb e => ?_), h.map.kept hg (fun e => ?_), fun id hid => jn (h.rows id hid) hg (fun b hb e => ?_), h.done, Nat.le_trans h.big hg.size, h.base, h.ub, h.b1⟩
 ·cases e
  obtain ⟨cs', h0⟩ := jt h.keys hb
  rw [ht] at h0
  cases h0
 ·cases e
  have := h.base
  omega
 ·cases e
  have := h.ub id _ hb
  omega
theorem sort (h : HPInv B W1 N2 i c ys U Dm L sv ov j j us W) (hn : L.Nodup) {g : Nat} (hj : j < L.length) (hg : W.grownBy W' (some g)) (hU : (U L[j]).v.ownBlock = some g) (hB : B + 2 ≤ g) (ha : ∀ a b, a ≠ b -> ∀ g, (U a).v.ownBlock = some g -> (U b).v.ownBlock ≠ some g) :
  HPInv B W1 N2 i c ys U Dm L sv ov j (j + 1) us W' := by
 have hp := List.pairwise_iff_getElem.1 hn
 have hgN := h.ub _ _ hU
 refine ⟨⟨GRow.kept h.out.row hg (fun b e => by cases e; exact hgN), fun p hp1 => (h.out.each p hp1).apart hg (fun b hb e => ?_)⟩, h.said, h.below.grown hg (Nat.le_trans (Nat.le_trans (by omega) h.base) h.big) (fun b e => by cases e; omega), GRow.kept h.keys hg (fun b e => by cases e; exact hgN), h.map.kept hg (fun e => by cases e; omega), fun id hid => jn (h.rows id ?_) hg (fun b hb e => ?_), h.done, Nat.le_trans h.big hg.size, h.base, h.ub, h.b1⟩
 ·cases e
  obtain ⟨id, hid, hb2⟩ := h.done p hp1 _ hb
  obtain ⟨m, hm, rfl⟩ := List.mem_iff_getElem.1 hid
  rw [List.getElem_take] at hb2
  have hmj : m < j := by rw [List.length_take] at hm; omega
  exact ha L[m] L[j] (hp m j (by omega) hj hmj) g hb2 hU
 ·rw [show L.drop j = L[j] :: L.drop (j + 1) from List.drop_eq_getElem_cons hj]
  exact List.mem_cons_of_mem _ hid
 ·cases e
  obtain ⟨m, hm, rfl⟩ := List.mem_iff_getElem.1 hid
  rw [List.getElem_drop] at hb
  rw [List.length_drop] at hm
  exact ha L[j] L[j + 1 + m] (hp j (j + 1 + m) hj (by omega) (by omega)) g hU hb
theorem add (h : HPInv B W1 N2 i c ys U Dm L sv ov j (j + 1) us W) {ov' : Value} {x : V.Hit} {u : Sd} (hr : GRow 63 4 hE W' N2 ov' (us ++ [(x, u)])) (hg : W.grownBy W' ov.ownBlock) (hd : Digs W u.v x.docs) (hs : (L.take (j + 1)).map (V.hitN ys i c) = (L.take j).map (V.hitN ys i c) ++ [x]) (id : V.Bs) (hid : ∀ a, a ∈ L.take (j + 1) ↔ a ∈ L.take j ∨ a = id) (hU : (U id).v.ownBlock = u.v.ownBlock) : HPInv B W1 N2 i c ys U Dm L sv ov' (j + 1) (j + 1) (us ++ [(x, u)]) W' := by
 have ht : ∀ b, ov.ownBlock = some b -> N2 ≤ b /\ ∃ cs, W.heap[b]? = some (.cells cs 63 (0, 0)) := fun b hb => ⟨h.out.row.block b hb, jt h.out.row hb⟩
 have hdig : ∀ {v : Value} {l : List (List Int)}, Digs W v l -> Digs W' v l := fun hd => hd.grow hg (fun b e => by
   obtain ⟨_, cs, hcs⟩ := ht b e
   exact ⟨cs, _, _, hcs, by decide⟩)
 refine ⟨⟨hr, fun p hp => ?_⟩, ?_, h.below.grown hg (Nat.le_trans (Nat.le_trans (by omega) h.base) h.big) (fun b e => by have := (ht b e).1; have := h.base; omega), jn h.keys hg (fun b hb e => ?_), h.map.kept hg (fun e => ?_), fun id hid => jn (h.rows id hid) hg (fun b hb e => ?_), fun p hp b hb => ?_, Nat.le_trans h.big hg.size, h.base, h.ub, h.b1⟩
 ·rcases List.mem_append.1 hp with hp | hp
  ·exact hdig (h.out.each p hp)
  ·rw [List.mem_singleton] at hp; subst hp; exact hdig hd
 ·rw [List.map_append, h.said, hs]; rfl
 ·obtain ⟨_, cs, hcs⟩ := ht b e
  obtain ⟨cs', h0⟩ := jt h.keys hb
  rw [hcs] at h0
  cases h0
 ·have := (ht _ e.symm).1
  have := h.base
  omega
 ·have := (ht b e).1
  have := h.ub id b hb
  omega
 ·rcases List.mem_append.1 hp with hp | hp
  ·obtain ⟨a, ha, hb2⟩ := h.done p hp b hb
   exact ⟨a, (hid a).2 (.inl ha), hb2⟩
  ·rw [List.mem_singleton] at hp
   subst hp
   exact ⟨id, (hid id).2 (.inr rfl), by rw [hU]; exact hb⟩
end HPInv
theorem hits_any (i : Int) (c : V.Comp) (v : Value) (xs : List NV) (w : World) (hm : zm w) (hc : CompWf c) (hv : Notes w v xs) (hl : xs.length ≤ 1000) (hver : c.ver.length ≤ maxLen) :
  Calls Tryz.prog 39 #[.int .i64 i, .agg (ccells c), v] w fun e w' => ∃ v' us, e = .returned v' /\ HRow w.heap.size w' v' us /\ us.map (·.1) = V.um (xs.map (·.n)) i c /\ Below w.heap.size w w' := by
 obtain ⟨pa, pc, rfl⟩ := hv.slice
 have HM := zpa hm
 have HV := zpa hv
 have HC := zpa hc
 have HVER := zpa hver
 obtain ⟨W1, hW1⟩ : ∃ W1, W1 = (w.alloc (.cells (ccells c) 60)).alloc (.map #[] 0) := ⟨_, rfl⟩
 have HB1 : Hid (Below w.heap.size w W1) := zpa (by rw [hW1]; exact ((zpd _ w).alloc (zpc _) _).alloc (by simp) _)
 have HZ1 : Hid (W1.heap.size = w.heap.size + 2) := zpa (by rw [hW1]; simp)
 have HCB : Hid (W1.heap[w.heap.size]? = some (.cells (ccells c) 60 (0, 0))) := zpa (by rw [hW1, heap_alloc, if_neg (by simp), heap_alloc, if_pos rfl])
 have HF1 : Hid (FInv (w.heap.size + 2) (w.heap.size + 1) i c [] (fun _ => ⟨none, 0, 0⟩) (.map []) W1) := zpa (by
   have hmm : W1.ownsMap Tryz.prog 9 zar (w.heap.size + 1) 0 (.map []) := by
     have := World.ownsMap_made (w.alloc (.cells (ccells c) 60)) Tryz.prog 9 zar
     rw [hW1]
     simpa using this
   exact ⟨hmm, fun id => by simp [Maps.has, V.jk, V.idsN, V.ye], fun id => by simp [DataW.atKey, zau, V.jk, V.idsN, V.ye], fun id => GRow.nil _ _, fun _ _ => rfl, fun _ _ _ g hg => (by cases hg), by omega⟩)
 have HW := zpa hW1
 have hsz : (w.alloc (.cells (ccells c) 60)).heap.size = w.heap.size + 1 := by simp
 clear hm hv hc hW1 hver
 have hmm := @run_makeMap Tryz.prog
 go_enter Tryz.func39, Tryz.ntmps39
 go_wp2_with fail
 rw [← HW.out]
 clear HW hsz hmm
 go_loopw [18] (fun iv wx => ∃ (k : Nat) (U : V.Bs -> Sd) (D : DataW Value), k ≤ xs.length /\ iv = .int .i64 k /\ FInv (w.heap.size + 2) (w.heap.size + 1) i c ((xs.take k).map (·.n)) U D wx /\ Below (w.heap.size + 1) W1 wx) (fun iv _ => xs.length - (intOf iv).toNat)
 case atStart => exact ⟨0, _, _, Nat.zero_le _, rfl, HF1.out, zpd _ _⟩
 case round =>
  obtain ⟨k, U, Dm, hk, rfl, hfi, hb⟩ := hrel
  have HFI := zpa hfi
  have HBX := zpa hb
  have HBW : Hid (Below w.heap.size w wr) := zpa (HB1.out.trans (hb.mono (by have := HZ1.out; omega)))
  clear hfi hb
  by_cases hlt : k < xs.length
  ·obtain ⟨hok, g, off, hpa, hg, hr⟩ := (HV.out.below HBW.out).at k hlt
   subst hpa
   have HOK := zpa hok
   have HR := zpa hr
   have i1 : (0 : Int) ≤ (k : Int) := by omega
   have i2 : (k : Int) < (xs.length : Int) := by omega
   have HST : Hid ((xs.take (k + 1)).map (·.n) = (xs.take k).map (·.n) ++ [xs[k].n]) := zpa (by rw [List.take_succ_eq_append_getElem hlt, List.map_append]; rfl)
   have HLY : Hid (((xs.take k).map (·.n)).length ≤ 1000) := zpa (by simp; omega)
   clear hok hr
   generalize xs[k] = x at *
   generalize (xs.take k).map (·.n) = ys at *
   have hz2 : (wr.alloc (.cells (ncells x) 57)).heap.size = wr.heap.size + 1 := by simp
   have hb2 : Below wr.heap.size wr (wr.alloc (.cells (ncells x) 57)) := (zpd _ wr).alloc (zpc _) _
   have HG2 : Hid ((wr.alloc (.cells (ncells x) 57)).heap[wr.heap.size]? = some (.cells (ncells x) 57 (0, 0))) := zpa (heap_alloc_new wr _)
   have hsz2 : w.heap.size + 2 ≤ wr.heap.size := by have := HBX.out.size; have := HZ1.out; omega
   have HF2 := zpa (HFI.out.call hb2)
   have HB2 := zpa (HBX.out.trans (hb2.mono (by omega)))
   have HBW2 := zpb HBW hb2
   have HOK2 := zpa (HOK.out.below hb2)
   have HMX : Hid (w.heap.size + 1 < wr.heap.size) := zpa (by omega)
   obtain ⟨x0, x1, x2, x3, xr, x36⟩ := je HOK.out.doc (kt HG2.out)
   simp only [Nat.zero_add] at x0 x1 x2 x3
   have hcb : (wr.alloc (.cells (ncells x) 57)).heap[w.heap.size]? = some (.cells (ccells c) 60 (0, 0)) := (HB2.out.block w.heap.size (by have := HZ1.out; omega)).trans HCB.out
   have k1 : (wr.alloc (.cells (ncells x) 57)).cell? ⟨w.heap.size, 1, none⟩ = some (.int .i64 c.sch) := by rw [cell_of_row _ _ _ _ _ _ hcb]; exact zfv c
   have k2 : (wr.alloc (.cells (ncells x) 57)).cell? ⟨w.heap.size, 2, none⟩ = some (.string ⟨c.name.toArray⟩) := by rw [cell_of_row _ _ _ _ _ _ hcb]; exact zf7 c
   have k3 : (wr.alloc (.cells (ncells x) 57)).cell? ⟨w.heap.size, 3, none⟩ = some (.string ⟨c.ver.toArray⟩) := by rw [cell_of_row _ _ _ _ _ _ hcb]; exact zfr c
   clear hcb
   clear hb2 hsz2
   go_wp2_with (first | (refine zkr rfl _ rfl g (off + k * 37) rfl x HOK.out.doc HR.out ?_) | (refine zmw rfl _ _ rfl _ _ rfl x HOK.out.doc (nl_one HOK.out) rfl rfl ?_; generalize wr.alloc (.cells (ncells x) 57) = w2 at *; clear hg; generalize wr.heap.size = X at *) | fail)
   refine (zbg x.n.adv x.u c.sch c.name c.ver w2 (HM.out.below HBW2.out) HOK2.out.affs HOK2.out.id HOK2.out.len HVER.out).mono ?_
   rintro e w3 ⟨rfl, hb3⟩
   have HF3 := zpa (HF2.out.call hb3)
   have HB3 := zpa (HB2.out.trans (hb3.mono (by have := HMX.out; omega)))
   have HG3 := zpa ((hb3.block X (by omega)).trans HG2.out)
   have HCV : Hid (V.cov x.n c = V.covP x.n.adv c.sch c.name c.ver) := zpa rfl
   have hz3 : X < w3.heap.size := by have := hb3.size; omega
   clear hb3 k1 k2 k3 x0 x1 x2 x3 xr x36 hz2 HG2 HF2 HB2
   rcases hcv : V.covP x.n.adv c.sch c.name c.ver with _ | _
   ·have HS : Hid (FInv (w.heap.size + 2) (w.heap.size + 1) i c (ys ++ [x.n]) U Dm w3) := zpa (HF3.out.skip x.n (by rw [HCV.out, hcv]))
    rw [← HST.out] at HS
    clear hcv HCV
    go_wp2
    go_roundw
    case rel => exact ⟨k + 1, U, Dm, by omega, by go_num, HS.out, HB3.out⟩
    case measure => simp [intOf]; omega
   ·have HCT : Hid (V.cov x.n c = true) := zpa (by rw [HCV.out, hcv])
    clear hcv HCV
    obtain ⟨x0, x1, x2, x3, xr, x36⟩ := je HOK.out.doc (kt HG3.out)
    simp only [Nat.zero_add] at x0 x1 x2 x3
    obtain ⟨k0, s0, hlook⟩ := HF3.out.look x.n.adv.id HOK.out.id
    have HLK := zpa hlook
    obtain ⟨⟨ua, un, uc⟩, hU⟩ : ∃ u, u = U x.n.adv.id := ⟨_, rfl⟩
    obtain ⟨sv, hsv⟩ : ∃ s, s = V.sevN (V.selN ys c x.n.adv.id) := ⟨_, rfl⟩
    have HU := zpa hU
    have HSV := zpa hsv
    rw [← hU, ← hsv] at HLK
    unfold Sd.v at HLK
    have HXY : Hid (X ≠ w3.heap.size) := zpa (by omega)
    have hza : (w3.alloc (.cells #[.int .i64 k0, .string ⟨s0.toArray⟩, .int .i64 sv, .slice ua un uc] 63)).heap.size = w3.heap.size + 1 := by simp
    have hba : Below w3.heap.size w3 (w3.alloc (.cells #[.int .i64 k0, .string ⟨s0.toArray⟩, .int .i64 sv, .slice ua un uc] 63)) := (zpd _ w3).alloc (zpc _) _
    have HY4 : Hid ((w3.alloc (.cells #[.int .i64 k0, .string ⟨s0.toArray⟩, .int .i64 sv, .slice ua un uc] 63)).heap[w3.heap.size]? = some (.cells #[.int .i64 k0, .string ⟨s0.toArray⟩, .int .i64 sv, .slice ua un uc] 63 (0, 0))) := zpa (heap_alloc_new w3 _)
    have HF4 := zpa (HF3.out.call hba)
    have HX4 := zpa ((hba.block X hz3).trans HG3.out)
    have HB4 := zpa (HB3.out.trans (hba.mono (by have := HMX.out; omega)))
    have HMY : Hid (w.heap.size + 1 < w3.heap.size) := zpa (by have := HMX.out; omega)
    clear hlook hU hsv x1 x2 x3 xr x36 hba HF3 HB3 HG3
    go_wp2_with (first | (refine zg9 rfl (.tmp 32) (.tmp 35) 106 rfl (w.heap.size + 1) rfl (.string ⟨x.n.adv.id.toArray⟩) _ rfl HLK.out ?_; clear HLK) | fail)
    have HZ4 := zpa hza
    clear hza x0 hz3
    generalize w3.alloc (.cells #[.int .i64 k0, .string ⟨s0.toArray⟩, .int .i64 sv, .slice ua un uc] 63) = w4 at *
    generalize w3.heap.size = Y at *
    have hx0 : w4.cell? ⟨X, 0, none⟩ = some (.string ⟨x.n.adv.id.toArray⟩) := (je HOK.out.doc (kt HX4.out)).1
    refine wp_region_held_drew (S := (fun W' => W'.cell? ⟨X, 0, none⟩ = some (.string ⟨x.n.adv.id.toArray⟩) /\ (∃ cs, W'.heap[X]? = some (.cells cs 57 (0, 0))))) (by kernel_rfl) (⟨hx0, _, HX4.out⟩) (fun hHeld => ?_)
    refine tk 0 ?_
    refine tk 1 ?_
    refine tk 2 ?_
    refine tk 3 ?_
    refine tk 4 ?_
    refine rd 5 fun K hK => ?_
    refine zbc rfl 3 _ _ rfl Y 0 _ _ HY4.out (by show 0 < 4; omega) rfl (.int .i64 i) rfl zl4 rfl (fun w5 hp5 => ?_)
    refine hK.out _ _ ?_ (fun hHeld => nx ?_)
    ·(try dsimp only); exact ⟨hp5.cell hHeld.1 HXY.out, by obtain ⟨cs, hcs⟩ := hHeld.2; exact ⟨cs, hp5.other hcs HXY.out⟩⟩
    clear hK K
    refine tk 6 ?_
    refine rd 7 fun K hK => ?_
    refine zbc rfl 9 _ _ rfl Y 1 _ _ hp5.here (by show 1 < 4; omega) rfl (.string ⟨x.n.adv.id.toArray⟩) rfl str_sz rfl (fun w6 hp6 => ?_)
    refine hK.out _ _ ?_ (fun hHeld => nx ?_)
    ·(try dsimp only); exact ⟨hp6.cell (hp5.cell hx0 HXY.out) HXY.out, by obtain ⟨cs, hcs⟩ := hHeld.2; exact ⟨cs, hp6.other hcs HXY.out⟩⟩
    clear hK K
    refine wpAnyH_done (by kernel_rfl) ?_ _
    simp only [zo8, List.set_cons_succ, List.set_cons_zero] at hp5 hp6
    have HY6 := zpa hp6.here
    have HX6 := zpa (hp6.other (hp5.other HX4.out HXY.out) HXY.out)
    have HF6 : Hid (FInv (w.heap.size + 2) (w.heap.size + 1) i c ys U Dm w6) := zpa (((HF4.out.call ((zpd _ w4).drew)).other hp5.grown (fun b e => by cases e; exact ⟨_, _, _, HY4.out, by decide⟩)).other hp6.grown (fun b e => by cases e; exact ⟨_, _, _, hp5.here, by decide⟩))
    have HB6 : Hid (Below (w.heap.size + 1) W1 w6) := zpa (hp6.below (hp5.below HB4.out.drew (by have := HMY.out; omega)) (by have := HMY.out; omega))
    have HZ6 : Hid (w6.heap.size = Y + 1) := zpa (hp6.size.trans (hp5.size.trans HZ4.out))
    clear hp5 hp6 hHeld hx0 HX4 HY4 HF4 HB4 HZ4
    obtain ⟨x0, x1, x2, x3, xr, x36⟩ := je HOK.out.doc (kt HX6.out)
    simp only [Nat.zero_add] at x0 x1 x2 x3 xr
    have XR := zpa xr
    have y2 : w6.cell? ⟨Y, 2, none⟩ = some (.int .i64 sv) := by rw [cell_of_row _ _ _ _ _ _ HY6.out]; rfl
    clear x0 x1 x3 xr x36
    have HROW6 : Hid (GRow 26 32 dE w6 (w.heap.size + 2) (.slice ua un uc) ((V.selN ys c x.n.adv.id).map (·.doc))) := zpa (by have := HF6.out.row x.n.adv.id; rw [← HU.out] at this; exact this)
    have HOB : Hid ((U x.n.adv.id).v.ownBlock = (Value.slice ua un uc).ownBlock) := zpa (by rw [← HU.out]; rfl)
    have HNS : Hid (w.heap.size + 2 ≤ Y) := zpa (by have := HMY.out; omega)
    have HLS : Hid (((V.selN ys c x.n.adv.id).map (·.doc)).length ≤ 1000) := zpa (by
      rw [List.length_map]
      exact Nat.le_trans (List.length_filter_le _ _) HLY.out)
    generalize hdocs : (V.selN ys c x.n.adv.id).map (·.doc) = docs at *
    have HDOCS := zpa hdocs
    clear hdocs
    go_wp2_with (first
      | (refine zif rfl 3 _ _ rfl Y 2 _ _ HY6.out (by show 2 < 4; omega) rfl (.int .i64 (max sv x.n.adv.sev)) rfl zl4 rfl ?_
         intro w7 hp7
         simp only [zo8, List.set_cons_succ, List.set_cons_zero] at hp7
         have HY7 := zpa hp7.here
         have HX7 := zpa (hp7.other HX6.out HXY.out)
         have HF7 := zpa (HF6.out.other hp7.grown (fun b e => by cases e; exact ⟨_, _, _, HY6.out, by decide⟩))
         have HB7 := zpa (hp7.below HB6.out (by have := HMY.out; omega))
         have HZ7 : Hid (w7.heap.size = Y + 1) := zpa (hp7.size.trans HZ6.out)
         have HROW7 := zpa (jn HROW6.out hp7.grown (fun b hb e => by cases e; obtain ⟨cs, h0⟩ := jt HROW6.out hb; rw [HY6.out] at h0; cases h0))
         have y3 : w7.cell? ⟨Y, 3, none⟩ = some (.slice ua un uc) := by rw [cell_of_row _ _ _ _ _ _ HY7.out]; rfl
         have XR7 := zpa ((je HOK.out.doc (kt HX7.out)).2.2.2.2.1)
         rw [Nat.zero_add] at XR7
         have hb8 : Below w7.heap.size w7 (w7.alloc (.cells (dcells x.n.doc) 26)) := (zpd _ w7).alloc (zpc _) _
         have HF8 := zpa (HF7.out.call hb8)
         have HROW8 := zpa (GRow.below HROW7.out hb8)
         have HONE := zpa (GSl.one (enc := dE) (k := 32) (c := x.n.doc) (b := w7.heap.size) (w := w7.alloc (.cells (dcells x.n.doc) 26)) (by simp) (zcq w7 x.n.doc HOK.out.doc))
         have HY8 := zpa ((hb8.block Y (by have := HZ7.out; omega)).trans HY7.out)
         have HB8 := zpa (HB7.out.trans (hb8.mono (by have := HZ7.out; have := HMY.out; omega)))
         have HZ8 : Hid (w.heap.size + 2 ≤ (w7.alloc (.cells (dcells x.n.doc) 26)).heap.size) := zpa (by have := HZ7.out; have := HNS.out; simp; omega)
         clear hb8 hp7 y2 HF7 HROW7 HY7 HB7 HX7 HF6 HROW6 HY6 HB6)
      | (refine zb5 rfl _ rfl X 4 rfl x.n.doc HOK.out.doc XR7.out ?_)
      | (refine zj9 rfl _ rfl x.n.doc HOK.out.doc rfl ?_)
      | (refine ud jw (by decide) vm zao (by decide) rfl _ _ 55 rfl Tryz.underlying55 (w.heap.size + 2) (.slice ua un uc) docs rfl HROW8.out (.slice (some ⟨w7.heap.size, 0, none⟩) 1 1) [x.n.doc] rfl HONE.out (by have := HLS.out; simp; omega) HZ8.out ?_
         intro v9 w9 hr9 hg9 ho9
         have hb9 : ∀ b, (Value.slice ua un uc).ownBlock = some b -> Y ≠ b := fun b hb e => by (cases e; obtain ⟨cs, h0⟩ := jt HROW8.out hb; rw [HY8.out] at h0; cases h0)
         have HY9 := zpa ((hg9.block Y (Array.getElem?_eq_some_iff.1 HY8.out).1 (fun e => hb9 Y e.symm rfl)).trans HY8.out)
         have HB9 : Hid (Below (w.heap.size + 1) W1 w9) := zpa (HB8.out.grown hg9 (by have := HB8.out.size; have := HZ1.out; omega) (fun b hb => by have := HROW8.out.block b hb; omega))
         rw [← HDOCS.out] at hr9
         rw [← HOB.out] at hg9 ho9
         obtain ⟨va, vc, hv9⟩ := hr9.slice
         obtain ⟨vn, hvn⟩ : ∃ n, n = ((V.selN ys c x.n.adv.id).map (·.doc) ++ [x.n.doc]).length := ⟨_, rfl⟩
         rw [← hvn] at hv9
         have HGR := zpa (HF8.out.grow (u := ⟨va, vn, vc⟩) hg9 (by rw [show (Sd.v ⟨va, vn, vc⟩) = v9 from hv9.symm]; exact hr9) (by rw [show (Sd.v ⟨va, vn, vc⟩) = v9 from hv9.symm]; exact ho9))
         subst hv9
         clear hvn hr9 hg9 ho9 hb9 y3 HF8 HROW8 HY8 HB8 HONE)
      | (refine zif rfl 55 _ _ rfl Y 3 _ _ HY9.out (by show 3 < 4; omega) rfl (.slice va vn vc) rfl zi4 rfl ?_
         intro w10 hp10
         simp only [zo8, List.set_cons_succ, List.set_cons_zero] at hp10
         have HG10 := zpa (HGR.out.other hp10.grown (fun b e => by cases e; exact ⟨_, _, _, HY9.out, by decide⟩))
         have HB10 := zpa (hp10.below HB9.out (by have := HMY.out; omega))
         have q0 : w10.cell? ⟨Y, 0, none⟩ = some (.int .i64 i) := by rw [cell_of_row _ _ _ _ _ _ hp10.here]; rfl
         have q1 : w10.cell? ⟨Y, 1, none⟩ = some (.string ⟨x.n.adv.id.toArray⟩) := by rw [cell_of_row _ _ _ _ _ _ hp10.here]; rfl
         have q2 : w10.cell? ⟨Y, 2, none⟩ = some (.int .i64 (max sv x.n.adv.sev)) := by rw [cell_of_row _ _ _ _ _ _ hp10.here]; rfl
         have q3 : w10.cell? ⟨Y, 3, none⟩ = some (.slice va vn vc) := by rw [cell_of_row _ _ _ _ _ _ hp10.here]; rfl
         clear hp10 HY9 HGR HB9)
      | (refine wpList_mapUpdate_own _ rfl (.tmp 57) (.tmp 59) (.tmp 60) 106 rfl 9 63 vf Tryz.underlying106 zar (w.heap.size + 1) ys.length Dm rfl HG10.out.map (by have := HLY.out; unfold maxLen; omega) (.string ⟨x.n.adv.id.toArray⟩) (.agg #[.int .i64 i, .string ⟨x.n.adv.id.toArray⟩, .int .i64 (max sv x.n.adv.sev), .slice va vn vc]) (.string x.n.adv.id) rfl rfl (keyOf_string_mk Tryz.underlying9 (by simpa [ByteArray.size] using HOK.out.id)) (.held (.agg #[.int .i64 i, .string ⟨x.n.adv.id.toArray⟩, .int .i64 (max sv x.n.adv.sev), .slice va vn vc])) [] rfl ?_
         intro w11 hm11 hg11
         rw [HSV.out] at hm11
         clear q0 q1 q2 q3)
      | fail)
    obtain ⟨U', D', hfin⟩ := HG10.out.put rfl HCT.out HOK.out.id (by have := HLY.out; unfold maxLen; omega) hm11 hg11
    rw [← HST.out] at hfin
    have HFIN := zpa hfin
    have HB11 : Hid (Below (w.heap.size + 1) W1 w11) := zpa (HB10.out.grown hg11 (by have := HB10.out.size; have := HZ1.out; omega) (fun b e => by cases e; exact zpc _))
    clear hfin hm11 hg11
    go_wp2
    go_roundw
    case rel => exact ⟨k + 1, U', D', by omega, by go_num, HFIN.out, HB11.out⟩
    case measure => simp [intOf]; omega
  ·obtain rfl : k = xs.length := by omega
   rw [List.take_length] at HFI
   have HDK : Hid (∀ x ∈ xs.map (·.n), qg x.doc) := zpa (fun x hx => by
     obtain ⟨y, hy, rfl⟩ := List.mem_map.1 hx
     obtain ⟨j, hj, rfl⟩ := List.mem_iff_getElem.1 hy
     exact (HV.out.at j hj).1.doc)
   have HIDL : Hid (∀ x ∈ xs.map (·.n), x.adv.id.length ≤ maxLen) := zpa (fun x hx => by
     obtain ⟨y, hy, rfl⟩ := List.mem_map.1 hx
     obtain ⟨j, hj, rfl⟩ := List.mem_iff_getElem.1 hy
     exact (HV.out.at j hj).1.id)
   have HLY : Hid ((xs.map (·.n)).length ≤ 1000) := zpa (by simpa using hl)
   have HGE : Hid (w.heap.size + 2 ≤ wr.heap.size) := zpa (by have := HBX.out.size; have := HZ1.out; omega)
   clear HV
   generalize hys : xs.map (·.n) = ys at *
   have HYS := zpa hys
   clear hys
   go_wp2_with fail
   refine (zla _ _).mono ?_
   rintro e w1 ⟨rfl, rfl⟩
   go_wp2_with fail
   refine (zma (w.heap.size + 1) ys.length Dm wr HFI.out.map (Nat.le_trans HFI.out.map.size_le (by have := HLY.out; omega))).mono ?_
   rintro e w2 ⟨sl, ss, rfl, hperm, hrow, hnil, hb2⟩
   have hkeys := HFI.out.keys hperm
   rw [hkeys] at hrow
   obtain ⟨L, hL⟩ : ∃ L, L = V.jk ys c := ⟨_, rfl⟩
   rw [← hL] at hrow hkeys
   have hlen : ss.length = L.length := by rw [← hkeys, List.length_mergeSort]
   rw [hlen, ← str_flat] at hrow
   have hba : Below wr.heap.size wr (wr.alloc (.cells #[.map (some (w.heap.size + 1))] 106)) := (zpd _ wr).alloc (zpc _) _
   have hb02 : Below wr.heap.size wr w2 := hba.trans (hb2.mono hba.size)
   have HUB : Hid (∀ id b, (U id).v.ownBlock = some b -> b < wr.heap.size) := zpa (fun id b hb => (HFI.out.row id).lt b hb)
   have HF0 := HFI
   have hL2 := zpa hL
   have HND : Hid (L.Nodup) := zpa (by
     rw [hL]
     exact List.Pairwise.imp (S := fun a b => a ≠ b) (fun {a b} hab e => V.zbd.irr b (by rw [e] at hab; exact hab)) (V.zce _))
   have HP0 : Hid (HPInv w.heap.size W1 wr.heap.size i c ys U Dm L sl (.slice none 0 0) 0 0 [] w2) := zpa
    ⟨HRow.nil _ _, rfl, HBX.out.trans (hb02.mono (by have := HGE.out; omega)), World.ownsRow.mono hrow hba.size, HFI.out.map.kept (jp hb02 none) (by simp), fun id _ => (HFI.out.row id).below hb02, fun p hp => by simp at hp, hb02.size, HGE.out, HUB.out, by have := HZ1.out; omega⟩
   obtain ⟨sa, sc, hsl⟩ := GRow.slice hrow
   subst hsl
   have HLL : Hid (L.length ≤ 1000) := zpa (by
     rw [hL]
     have := V.yv (c := Lib.compareBytes) (l := []) (xs := (ys.filter fun x => V.cov x c).map (·.adv.id))
     have h2 := List.length_filter_le (fun x => V.cov x c) ys
     have h3 := HLY.out
     unfold V.jk V.idsN
     simp at this ⊢
     omega)
   clear hperm hrow hnil hb2 hkeys hlen hba hb02 hL HFI HBX
   generalize wr.heap.size = N2 at *
   go_wp2_with fail
   go_loopw [11, 66] (fun ov iv wx => ∃ (j : Nat) (us : List (V.Hit × Sd)), j ≤ L.length /\ us.length = j /\ iv = .int .i64 j /\ HPInv w.heap.size W1 N2 i c ys U Dm L (.slice sa L.length sc) ov j j us wx) (fun _ iv _ => L.length - (intOf iv).toNat)
   case atStart => exact ⟨0, [], Nat.zero_le _, rfl, rfl, HP0.out⟩
   case round =>
    clear HP0
    obtain ⟨j, us, hj, huj, rfl, hp⟩ := hrel
    have HP := zpa hp
    have HUL : Hid (us.length ≤ 1000) := zpa (by have := HLL.out; omega)
    obtain ⟨oa, oc, hov⟩ := hp.out.row.slice
    subst hov
    have HUJ := zpa huj
    clear hp huj
    by_cases hjl : j < L.length
    ·obtain ⟨g, cap, e, hN, hgs, hc⟩ := GRow.at ug HP.out.keys j hjl
     obtain ⟨e1, _, e3⟩ := Value.slice.inj e
     subst e1 e3
     have hcj := hc 0 _ rfl
     rw [Nat.mul_one, Nat.add_zero] at hcj
     have hjb : j < 1000 := by have := HLL.out; omega
     have i1 : (0 : Int) ≤ (j : Int) := by omega
     have i2 : (j : Int) < (L.length : Int) := by omega
     obtain ⟨id, hid⟩ : ∃ id, id = L[j] := ⟨_, rfl⟩
     have HID := zpa hid
     rw [← hid] at hcj
     have hmem : id ∈ V.jk ys c := by rw [← hL2.out, hid]; exact List.getElem_mem hjl
     have HMEM := zpa hmem
     have HIL : Hid (id.length ≤ maxLen) := zpa (by
       obtain ⟨x, hx, rfl, _⟩ := V.ve.1 hmem
       exact HIDL.out x hx)
     have HLK := zpa (HF0.out.look_of HP.out.map id HIL.out hmem)
     have HRW : Hid (GRow 26 32 dE wr (w.heap.size + 2) (U id).v ((V.selN ys c id).map (·.doc))) := zpa (HP.out.rows id (by rw [List.drop_eq_getElem_cons hjl, ← hid]; simp))
     have HNE : Hid ((V.selN ys c id).map (·.doc) ≠ []) := zpa (fun e => by
       obtain ⟨x, hx, h1, h2⟩ := V.ve.1 hmem
       have : x ∈ V.selN ys c id := by unfold V.selN; rw [List.mem_filter]; exact ⟨hx, by rw [decide_eq_true h1, h2]; rfl⟩
       rw [List.map_eq_nil_iff] at e
       rw [e] at this; simp at this)
     have HDO : Hid (∀ d ∈ (V.selN ys c id).map (·.doc), qg d) := zpa (fun d hd => by
       obtain ⟨x, hx, rfl⟩ := List.mem_map.1 hd
       unfold V.selN at hx
       exact HDK.out x (List.mem_filter.1 hx).1)
     have HLD : Hid (((V.selN ys c id).map (·.doc)).length ≤ 1000) := zpa (by
       rw [List.length_map]
       exact Nat.le_trans (List.length_filter_le _ _) HLY.out)
     have HST : Hid ((L.take (j + 1)).map (V.hitN ys i c) = (L.take j).map (V.hitN ys i c) ++ [⟨i, id, V.sevN (V.selN ys c id), V.ku (V.selN ys c id)⟩]) := zpa (by
       rw [List.take_succ_eq_append_getElem hjl, List.map_append, ← hid]; rfl)
     have HTK : Hid (∀ a, a ∈ L.take (j + 1) ↔ a ∈ L.take j ∨ a = id) := zpa (fun a => by
       rw [List.take_succ_eq_append_getElem hjl, ← hid, List.mem_append, List.mem_singleton])
     obtain ⟨⟨ua, un, uc⟩, hU⟩ : ∃ u, u = U id := ⟨_, rfl⟩
     have HU := zpa hU
     rw [← hU] at HLK HRW
     unfold Sd.v at HLK HRW
     obtain ⟨sv, hsv⟩ : ∃ s, s = V.sevN (V.selN ys c id) := ⟨_, rfl⟩
     have HSV := zpa hsv
     rw [← hsv] at HLK HST
     have hb3 : Below wr.heap.size wr (wr.alloc (.cells #[.int .i64 i, .string ⟨id.toArray⟩, .int .i64 sv, .slice ua un uc] 63)) := (zpd _ wr).alloc (zpc _) _
     have HP3 := zpa (HP.out.call hb3)
     have HRW3 := zpa (GRow.below HRW.out hb3)
     have HY3 : Hid ((wr.alloc (.cells #[.int .i64 i, .string ⟨id.toArray⟩, .int .i64 sv, .slice ua un uc] 63)).heap[wr.heap.size]? = some (.cells #[.int .i64 i, .string ⟨id.toArray⟩, .int .i64 sv, .slice ua un uc] 63 (0, 0))) := zpa (heap_alloc_new wr _)
     have HNY : Hid (N2 ≤ wr.heap.size) := zpa HP.out.big
     have HOY : Hid ((Value.slice oa us.length oc).ownBlock ≠ some wr.heap.size) := zpa (fun e => by
       have := GRow.lt HP.out.out.row _ e
       omega)
     have y3 : (wr.alloc (.cells #[.int .i64 i, .string ⟨id.toArray⟩, .int .i64 sv, .slice ua un uc] 63)).cell? ⟨wr.heap.size, 3, none⟩ = some (.slice ua un uc) := by rw [cell_of_row _ _ _ _ _ _ HY3.out]; rfl
     clear hb3 hc hmem hid hU hsv HP HRW hgs hN
     go_wp2_with (first
     | (refine zg9 rfl (.tmp 70) (.tmp 71) 106 rfl (w.heap.size + 1) rfl (.string ⟨id.toArray⟩) _ rfl HLK.out ?_
        clear HLK)
       | fail)
     generalize wr.alloc (.cells #[.int .i64 i, .string ⟨id.toArray⟩, .int .i64 sv, .slice ua un uc] 63) = w3 at *
     generalize wr.heap.size = Y at *
     refine (znx _ _ _ w3 HRW3.out HDO.out HNE.out HLD.out).mono ?_
     rintro e w4 ⟨rfl, g9, c9, l', hve, hg9, hperm, hpw, hrow4, hgr4⟩
     obtain ⟨e1, e2, e3⟩ := Value.slice.inj hve
     subst e1 e3
     have HLE : Hid (l'.length = un) := zpa (by rw [e2]; exact hperm.length_eq)
     have HOW : Hid ((U id).v.ownBlock = some g9) := zpa (by rw [← HU.out]; rfl)
     have hgY : g9 ≠ Y := by
      have := HP3.out.ub id g9 HOW.out
      have := HNY.out
      omega
     have HY4 := zpa ((hgr4.block Y (Array.getElem?_eq_some_iff.1 HY3.out).1 (fun e => hgY (Option.some.inj e).symm)).trans HY3.out)
     have HRW4 := zpa hrow4
     have HG4 := zpa hgr4
     have HPM := zpa (And.intro hperm hpw)
     have HB9 := zpa hg9
     have HGY := zpa hgY
     have y3 : w4.cell? ⟨Y, 3, none⟩ = some (.slice (some ⟨g9, 0, none⟩) un uc) := by rw [cell_of_row _ _ _ _ _ _ HY4.out]; rfl
     clear hve hg9 hperm hpw hrow4 hgr4 e2 hgY
     go_wp2_with fail
     have hle := HLE.out
     have hcon := zn0 g9 uc l' w4 HRW4.out (fun d hd => HDO.out d (HPM.out.1.mem_iff.1 hd)) (by have := HPM.out.1.length_eq; have := HLD.out; omega) (by
       have := GRow.cap9 HRW3.out
       rw [hle]; exact this)
     rw [hle] at hcon
     refine hcon.mono ?_
     rintro e w5 ⟨rfl, hrow5, hgr5⟩
     obtain ⟨cd, hcd⟩ : ∃ cd, cd = V.qz l' un := ⟨_, rfl⟩
     rw [← hcd] at hrow5 ⊢
     have HCD : Hid (cd = V.ku (V.selN ys c id)) := zpa (by
       rw [hcd, ← HLE.out]
       exact V.zlo HPM.out.1 (HPM.out.2.imp (fun h => Int.not_lt.2 h)))
     have hgr35 := HG4.out.trans hgr5
     have HP5 := zpa (HP3.out.sort HND.out hjl hgr35 (by rw [← HID.out]; exact HOW.out) HB9.out HF0.out.apart)
     have HY5 := zpa ((hgr5.block Y (Array.getElem?_eq_some_iff.1 HY4.out).1 (fun e => HGY.out (Option.some.inj e).symm)).trans HY4.out)
     have hdig := hrow5.digs (cap := uc) (fun d hd => HDO.out d (by
       rw [hcd] at hd
       obtain ⟨m, _, hm⟩ := V.wd.1 hd
       exact HPM.out.1.mem_iff.1 (List.mem_of_getElem? hm)))
     have HD5 : Hid (Digs w5 (.slice (some ⟨g9, 0, none⟩) cd.length uc) (V.ku (V.selN ys c id))) := zpa (by rw [← HCD.out]; exact hdig)
     clear hrow5 hgr5 hgr35 hdig hcd hcon hle y3
     generalize cd.length = m9 at *
     go_wp2_with (first
     | (refine zif rfl 55 _ _ rfl Y 3 _ _ HY5.out (by show 3 < 4; omega) rfl (.slice (some ⟨g9, 0, none⟩) m9 uc) rfl zi4 rfl ?_
        intro w6 hp6
        simp only [zo8, List.set_cons_succ, List.set_cons_zero] at hp6
        have q0 : w6.cell? ⟨Y, 0, none⟩ = some (.int .i64 i) := by rw [cell_of_row _ _ _ _ _ _ hp6.here]; rfl
        have q1 : w6.cell? ⟨Y, 1, none⟩ = some (.string ⟨id.toArray⟩) := by rw [cell_of_row _ _ _ _ _ _ hp6.here]; rfl
        have q2 : w6.cell? ⟨Y, 2, none⟩ = some (.int .i64 sv) := by rw [cell_of_row _ _ _ _ _ _ hp6.here]; rfl
        have q3 : w6.cell? ⟨Y, 3, none⟩ = some (.slice (some ⟨g9, 0, none⟩) m9 uc) := by rw [cell_of_row _ _ _ _ _ _ hp6.here]; rfl
        have HP6 := zpa (HP5.out.box hp6.grown HNY.out ⟨_, _, HY5.out⟩)
        have HD6 : Hid (Digs w6 (.slice (some ⟨g9, 0, none⟩) m9 uc) (V.ku (V.selN ys c id))) := zpa (HD5.out.grow hp6.grown (fun b e => by cases e; exact ⟨_, _, _, HY5.out, by decide⟩))
        have hb7 : Below w6.heap.size w6 (w6.alloc (.cells #[.int .i64 i, .string ⟨id.toArray⟩, .int .i64 sv, .slice (some ⟨g9, 0, none⟩) m9 uc] 63)) := (zpd _ w6).alloc (zpc _) _
        have HP7 := zpa (HP6.out.call hb7)
        have HD7 := zpa (HD6.out.below hb7)
        have HNW := zpa (zi7 w6 ⟨i, id, sv, V.ku (V.selN ys c id)⟩ ⟨some ⟨g9, 0, none⟩, m9, uc⟩)
        clear hb7 hp6 HP5 HD5 HY5 HP6 HD6)
     | (refine ud xk (by decide) zc3 zhm (by decide) rfl _ _ 35 rfl Tryz.underlying35 N2 (.slice oa us.length oc) us rfl HP7.out.out.row (.slice (some ⟨w6.heap.size, 0, none⟩) 1 1) [(⟨i, id, sv, V.ku (V.selN ys c id)⟩, ⟨some ⟨g9, 0, none⟩, m9, uc⟩)] rfl (GSl.one (by simp) HNW.out) (by have := HUL.out; simp; omega) HP7.out.big ?_
        intro v8 w8 hr8 hg8 _
        clear q0 q1 q2 q3)
       | fail)
     have HP8 := zpa (HP7.out.add hr8 hg8 HD7.out HST.out id HTK.out (by rw [HOW.out]; rfl))
     clear hr8 hg8
     go_wp2
     go_roundw
     case rel => exact ⟨j + 1, _, by omega, by rw [List.length_append, HUJ.out]; rfl, by go_num, HP8.out⟩
     case measure => simp [intOf]; omega
    ·obtain rfl : j = L.length := by omega
     have HSD : Hid (us.map (·.1) = V.um ys i c) := zpa (by
       rw [HP.out.said, List.take_length, hL2.out]; rfl)
     have HRE := zpa (HP.out.out.weaken (M := w.heap.size) (by have := HGE.out; omega))
     have HBE : Hid (Below w.heap.size w wr) := zpa (HB1.out.trans (HP.out.below.mono (Nat.le_succ _)))
     go_wp2
     go_ret
     exact ⟨_, us, rfl, HRE.out, by rw [HYS.out]; exact HSD.out, HBE.out⟩
end Go.Proofs.YtbikeahmldobkaaGreatDoor
