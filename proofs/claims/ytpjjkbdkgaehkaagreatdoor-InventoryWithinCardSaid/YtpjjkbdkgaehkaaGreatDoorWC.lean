/-
  Walk: the law InventoryWithin. (Printed by gen_WB.py.)
  Arguments read: questions about components. (NOT BUILT YET.)
-/
import Derived.Test.YtpjjkbdkgaehkaaGreatDoorWA
import Derived.Test.YtpjjkbdkgaehkaaGreatDoorIU
import Derived.Test.YtpjjkbdkgaehkaaGreatDoorJN
import Derived.Test.YtpjjkbdkgaehkaaGreatDoorNG
import Derived.Test.YtpjjkbdkgaehkaaGreatDoorMQ
import Derived.Test.YtpjjkbdkgaehkaaGreatDoorMX
namespace Go.Proofs.YtpjjkbdkgaehkaaGreatDoor
open Go.RowKit

theorem info_strW : (Tryz.prog.info? 9).map (fun i => (i.zero, i.size, i.bytes)) = some (some (.string ⟨#[]⟩), 1, 16) := by kernel_rfl
theorem queryInfo : (Tryz.prog.info? 41).map (·.size) = some 4 := by kernel_rfl
theorem setInfoW : (Tryz.prog.info? 39).map (·.size) = some 2 := by kernel_rfl
theorem queryIE : ∃ ie z, Tryz.prog.info? 41 = some ie ∧ ie.zero = some z ∧ ie.size = 4 := by
  have h : (match Tryz.prog.info? 41 with | some i => i.size == 4 && i.zero.isSome | none => false) = true := by kernel_rfl
  cases hq : Tryz.prog.info? 41 with
  | none => rw [hq] at h; cases h
  | some i =>
    rw [hq] at h
    simp only [Bool.and_eq_true, beq_iff_eq] at h
    obtain ⟨z, hz⟩ := Option.isSome_iff_exists.1 h.2
    exact ⟨i, z, rfl, hz, h.1⟩
/-- a question as cells -/
def qcl (n : Int) (nm : V.Bs) (r : Int) (u : Value) : List Value := [.int .i64 n, .string ⟨nm.toArray⟩, .int .i64 r, u]
def queryV (n : Int) (s : ByteArray) (r : Int) (u : Value) : Value := .agg #[.int .i64 n, .string s, .int .i64 r, u]
theorem range_rowQ {w : World} {g : Nat} {l : List Value} {t : TypeId} (hg : w.heap[g]? = some (.cells l.toArray t (0, 0))) : w.rangeAt g 0 l := fun i u hu => by
  rw [Nat.zero_add, cell_of_row w g i _ _ _ hg]
  simpa using hu
theorem load_q {w : World} {g off : Nat} {n : Int} {nm : V.Bs} {r : Int} {u : Value} (hr : w.rangeAt g off (qcl n nm r u)) : (Instr.loadAt 41 (.pointer (some ⟨g, off, none⟩))).run Tryz.prog w = .ok (.agg (qcl n nm r u).toArray) w :=
  run_loadAt_mid w g off _ (qcl n nm r u) _ hr Tryz.underlying41 rfl (by rw [queryInfo]; rfl)
theorem load_s {w : World} {g off : Nat} {r : Int} {u : Value} (hr : w.rangeAt g off [.int .i64 r, u]) : (Instr.loadAt 39 (.pointer (some ⟨g, off, none⟩))).run Tryz.prog w = .ok (setV r u) w :=
  run_loadAt_mid w g off _ [.int .i64 r, u] _ hr Tryz.underlying39 rfl (by rw [setInfoW]; rfl)
theorem range_s {w : World} {g off : Nat} {n : Int} {nm : V.Bs} {r : Int} {u : Value} (hr : w.rangeAt g off (qcl n nm r u)) : w.rangeAt g (off + 2) [.int .i64 r, u] := fun i v hv => by
  have hi : i = 0 ∨ i = 1 := by
    have := (List.getElem?_eq_some_iff.1 hv).1
    simp at this; omega
  rcases hi with rfl | rfl
  · exact hr 2 _ hv
  · exact hr 3 _ hv
/-- at the operation: a question loaded -/
theorem wl_loadQ {ops : Array Oper} {rest : List Oper} {o : Oper} {a : Act} {w : World} {Q : Exit → Act → World → Prop} (hgd : o.guard = none) (y : Operand) (ho : o.op = .load 41 y)
    (g off : Nat) (hy : a.eval y = .pointer (some ⟨g, off, none⟩)) (n : Int) (nm : V.Bs) (r : Int) (u : Value) (hr : w.rangeAt g off (qcl n nm r u))
    (h : wpList Tryz.prog ops Q rest (a.put o.dst (.agg (qcl n nm r u).toArray)) w) : wpList Tryz.prog ops Q (o :: rest) a w :=
  wpList_load_mid hgd _ y ho g off hy (qcl n nm r u) _ hr Tryz.underlying41 rfl (by rw [queryInfo]; rfl) h
/-- .. stored into a new block -/
theorem wl_storeQ {ops : Array Oper} {rest : List Oper} {o : Oper} {a : Act} {w : World} {Q : Exit → Act → World → Prop} (hgd : o.guard = none) (p y : Operand) (ho : o.op = .store 41 p y)
    (old : Array Value) (hp : a.eval p = .pointer (some ⟨w.heap.size, 0, none⟩)) (n : Int) (nm : V.Bs) (r : Int) (u : Value) (hu : u.oneCell' = true) (hy : a.eval y = .agg (qcl n nm r u).toArray) (ho4 : old.size = 4)
    (h : wpList Tryz.prog ops Q rest (a.put o.dst undef) (w.alloc (.cells (qcl n nm r u).toArray 41))) : wpList Tryz.prog ops Q (o :: rest) a (w.alloc (.cells old 41)) := by
  refine wpList_store_row hgd _ p y ho w.heap.size (qcl n nm r u).toArray hp hy 41 old (heap_alloc_new w _) (by rw [queryInfo]; rfl) (by rw [ho4]; rfl) (all_oneCell_toArray fun v hv => by
    simp only [qcl, List.mem_cons, List.not_mem_nil, or_false] at hv
    rcases hv with rfl | rfl | rfl | rfl <;> first | rfl | exact hu) ?_
  rw [set_new]; exact h
theorem step_build3S {ops : Array Oper} {o : Oper} {a : Act} {w : World} {K : Act → World → Prop} {Q : Exit → Act → World → Prop} {E : Prop} (hgd : o.guard = none) (x y z : Operand) (ho : o.op = .buildSlice 49 3 #[(0, x), (1, y), (2, z)])
    (s1 s2 s3 : ByteArray) (h1 : a.eval x = .string s1) (h2 : a.eval y = .string s2) (h3 : a.eval z = .string s3)
    (h : K (a.put o.dst (.slice (some ⟨w.heap.size, 0, none⟩) 3 3)) (w.alloc (.cells #[.string s1, .string s2, .string s3] 9))) : if Region.wanted o (yielded ops a.tmps) = true then Oper.wp Tryz.prog o a w K Q else E := by
  rw [if_pos (by simp [Region.wanted, hgd])]
  obtain ⟨i0, hi, hz0, hz1, hz2⟩ := info_parts info_strW
  refine wp_buildSlice _ 9 3 _ ho #[.string s1, .string s2, .string s3] i0 (.string ⟨#[]⟩) Tryz.underlying49 hi hz0 (by rw [hz1]; decide) (by rw [hz1]; decide) ?_ h
  rw [hz1]
  simp only [h1, h2, h3, List.map_toArray, List.map_cons, List.map_nil]
  have := Great.fill_whole (s := 1) (by decide) [Value.string s1, Value.string s2, Value.string s3] ((Array.range (3 * 1)).map ((Value.string ⟨#[]⟩).cells[· % (Value.string ⟨#[]⟩).cells.size]!)) (fun v hv => by
    simp only [List.mem_cons, List.not_mem_nil, or_false] at hv
    rcases hv with rfl | rfl | rfl <;> rfl) (by simp)
  exact this
theorem step_build2Q {ops : Array Oper} {o : Oper} {a : Act} {w : World} {K : Act → World → Prop} {Q : Exit → Act → World → Prop} {E : Prop} (hgd : o.guard = none) (x y : Operand) (ho : o.op = .buildSlice 52 2 #[(0, x), (1, y)])
    (p q : List Value) (hp : p.length = 4) (hq : q.length = 4) (h1 : a.eval x = .agg p.toArray) (h2 : a.eval y = .agg q.toArray)
    (h : K (a.put o.dst (.slice (some ⟨w.heap.size, 0, none⟩) 2 2)) (w.alloc (.cells (p ++ q).toArray 41))) : if Region.wanted o (yielded ops a.tmps) = true then Oper.wp Tryz.prog o a w K Q else E := by
  rw [if_pos (by simp [Region.wanted, hgd])]
  obtain ⟨ie, z, hie, hz, hsz⟩ := queryIE
  refine wp_buildSlice _ 41 2 _ ho (p ++ q).toArray ie z Tryz.underlying52 hie hz (by rw [hsz]; decide) (by rw [hsz]; decide) ?_ h
  have := Great.fill_whole (s := 4) (by decide) [Value.agg p.toArray, Value.agg q.toArray] ((Array.range (2 * ie.size)).map (z.cells[· % z.cells.size]!)) (fun v hv => by
    simp only [List.mem_cons, List.not_mem_nil, or_false] at hv
    rcases hv with rfl | rfl <;> simp [Value.cells, hp, hq]) (by rw [hsz]; simp)
  rw [hsz] at this ⊢
  simp only [h1, h2, List.map_toArray, List.map_cons, List.map_nil]
  exact this.trans (by simp [Value.cells])
theorem keepW {w w' : World} {g b : Nat} {cs : Array Value} {t : TypeId} (hb : w.grownBy w' (some b)) (h : w.heap[g]? = some (.cells cs t (0, 0))) (hne : g ≠ b) : w'.heap[g]? = some (.cells cs t (0, 0)) :=
  (hb.block g (Array.getElem?_eq_some_iff.1 h).1 (fun e => hne (Option.some.inj e))).trans h
theorem newW (w : World) (o : Obj) : Below w.heap.size w (w.alloc o) := (Below.refl _ _).alloc (Nat.le_refl _) _
theorem parP_lensW (n : Int) (s : V.Bs) : Lens (V.parP n s).2.1 ∧ (V.parP n s).2.1.length ≤ maxLen := by
  have h : ∀ l, (V.rgParse n s).1 = some l → Lens l ∧ l.length ≤ maxLen := fun l hl => by
    have := (V.rgParse_ok hl).1
    exact ⟨lens_ok this, by have := this.len; unfold maxLen; omega⟩
  unfold V.parP
  rcases hp : V.rgParse n s with ⟨_ | l, c⟩
  · exact ⟨fun x hx => (by cases hx), Nat.zero_le _⟩
  · exact h l (by rw [hp])
theorem allP_lensW (n : Int) : Lens (allP n).2.1 ∧ (allP n).2.1.length ≤ maxLen := by
  unfold allP
  split
  · refine ⟨fun x hx => ?_, by simp [maxLen]⟩
    rcases List.mem_singleton.1 hx with rfl
    simp [V.noI, maxLen]
  · exact ⟨fun x hx => (by cases hx), Nat.zero_le _⟩
def pickA : List V.Bs := [[42], [110, 111, 110, 101], [60], [62, 61]]
def pickB : List V.Bs := [[122, 108, 105, 98], [115, 115, 108], [97]]
theorem pickA_len : ∀ x ∈ pickA, x.length ≤ 4 := by decide
theorem built_q (n : Int) (nm : V.Bs) (r : Int) (p : Option Addr) (m c : Nat) : Tryz.prog.built 41 [(0, .int .i64 n), (1, .string ⟨nm.toArray⟩), (2, setV r (.slice p m c))] = some (qcl n nm r (.slice p m c)).toArray := by kernel_rfl
theorem two_q {w : World} {g : Nat} {p q : List Value} {t : TypeId} (hp : p.length = 4) (hg : w.heap[g]? = some (.cells (p ++ q).toArray t (0, 0))) : w.rangeAt g (0 * 4) p ∧ w.rangeAt g (1 * 4) q := by
  have h := range_rowQ hg
  refine ⟨fun i u hu => ?_, fun i u hu => ?_⟩
  · have := h i u (by rw [List.getElem?_append_left (List.getElem?_eq_some_iff.1 hu).1]; exact hu)
    exact this
  · have := h (4 + i) u (by rw [List.getElem?_append_right (by omega), hp, Nat.add_sub_cancel_left]; exact hu)
    rw [Nat.zero_add] at this
    exact this
theorem nums_later {w w' : World} {a : Option Addr} {m : Nat} (h : Nums w a m) (hb : Below w.heap.size w w') : Nums w' a m := by
  refine ⟨h.1, fun j hj => ?_⟩
  obtain ⟨b', off, x, rfl, h1, h2, h3⟩ := h.2 j hj
  exact ⟨b', off, x, rfl, Nat.lt_of_lt_of_le h1 hb.size, below_keep hb h2, h3⟩

set_option maxRecDepth 100000 in
set_option maxHeartbeats 12800000 in
theorem inventoryWithin_any (x0 : IV) (n0 : Int) (s : ByteArray) (r0 : Int) (u0 : Value) (l0 : List V.Itv) (a : Option Addr) (m cap : Nat) (w : World) (hmx : MaxOk w) (hd : x0.d.length = 32) (hw : ∀ n ∈ x0.d, (Lit.int .u8 n).wf = true) (hc : Comps w x0.v x0.l) (hu : Itvs w u0 l0) (hiw : ∀ c ∈ l0, ItvWf c) (hl : l0.length ≤ maxLen) (hs : s.size ≤ maxLen) (ht : Nums w a m) :
    Calls Tryz.prog 4 #[.agg (icells x0.d x0.t x0.v), queryV n0 s r0 u0, .slice a m cap] w fun e w' => e = .returned (.bool true) ∧ Below w.heap.size w w' := by
  obtain ⟨p0, q0, rfl⟩ := hu.slice
  have HM := Lib.hid hmx
  have H1 := Lib.hid (And.intro hd (And.intro hw hc))
  have HL0 : Hid (Lens l0) := Lib.hid (fun x hx => ⟨(hiw x hx).1, (hiw x hx).2.1⟩)
  have HN0 := Lib.hid hl
  have hb2 : Below w.heap.size w ((w.alloc (.cells (icells x0.d x0.t x0.v) 26)).alloc (.cells #[.int .i64 n0, .string s, .int .i64 r0, .slice p0 l0.length q0] 41)) := ((Below.refl _ w).alloc (Nat.le_refl _) _).alloc (by simp) _
  have hb3 : Below ((w.alloc (.cells (icells x0.d x0.t x0.v) 26)).alloc (.cells #[.int .i64 n0, .string s, .int .i64 r0, .slice p0 l0.length q0] 41)).heap.size ((w.alloc (.cells (icells x0.d x0.t x0.v) 26)).alloc (.cells #[.int .i64 n0, .string s, .int .i64 r0, .slice p0 l0.length q0] 41)) (((w.alloc (.cells (icells x0.d x0.t x0.v) 26)).alloc (.cells #[.int .i64 n0, .string s, .int .i64 r0, .slice p0 l0.length q0] 41)).alloc (.cells #[.slice a m cap, .int .i64 0] 44)) := newW _ _
  have hz2 : ((w.alloc (.cells (icells x0.d x0.t x0.v) 26)).alloc (.cells #[.int .i64 n0, .string s, .int .i64 r0, .slice p0 l0.length q0] 41)).heap.size = w.heap.size + 2 := by simp
  have KX1 : ((w.alloc (.cells (icells x0.d x0.t x0.v) 26)).alloc (.cells #[.int .i64 n0, .string s, .int .i64 r0, .slice p0 l0.length q0] 41)).heap[w.heap.size]? = some (.cells (icells x0.d x0.t x0.v) 26 (0, 0)) := by rw [Below.heap_alloc _ _ _ (by simp)]; exact heap_alloc_new w _
  have KQ1 : ((w.alloc (.cells (icells x0.d x0.t x0.v) 26)).alloc (.cells #[.int .i64 n0, .string s, .int .i64 r0, .slice p0 l0.length q0] 41)).heap[w.heap.size + 1]? = some (.cells #[.int .i64 n0, .string s, .int .i64 r0, .slice p0 l0.length q0] 41 (0, 0)) := by rw [heap_alloc, if_pos (by simp)]
  have c1 : ((w.alloc (.cells (icells x0.d x0.t x0.v) 26)).alloc (.cells #[.int .i64 n0, .string s, .int .i64 r0, .slice p0 l0.length q0] 41)).cell? ⟨w.heap.size + 1, 1, none⟩ = some (.string s) := (cell_of_row _ _ 1 _ _ _ KQ1).trans rfl
  have c3 : ((w.alloc (.cells (icells x0.d x0.t x0.v) 26)).alloc (.cells #[.int .i64 n0, .string s, .int .i64 r0, .slice p0 l0.length q0] 41)).cell? ⟨w.heap.size + 1, 3, none⟩ = some (.slice p0 l0.length q0) := (cell_of_row _ _ 3 _ _ _ KQ1).trans rfl
  have HB1 := Lib.hid hb2
  have KX := Lib.hid ((hb3.block _ (by rw [hz2]; omega)).trans KX1)
  have KQ := Lib.hid ((hb3.block _ (by rw [hz2]; omega)).trans KQ1)
  have HB := Lib.hid (hb2.trans (hb3.mono hb2.size))
  have HTP : Hid (Tape (((w.alloc (.cells (icells x0.d x0.t x0.v) 26)).alloc (.cells #[.int .i64 n0, .string s, .int .i64 r0, .slice p0 l0.length q0] 41)).alloc (.cells #[.slice a m cap, .int .i64 0] 44)) (w.heap.size + 2) 0) := Lib.hid (by
    rw [← hz2]
    exact Tape.made (nums_later ht hb2) hb3 (Nat.le_refl _) (by rw [World.cell?_alloc_new]; rfl) (by rw [World.cell?_alloc_new]; rfl) (by rw [frozen_alloc, if_pos rfl]))
  have HT := Lib.hid ht
  have HU := Lib.hid hu
  unfold maxLen at hl hs
  clear hmx ht hd hw hc hu hiw hb2 hb3 hz2 KX1 KQ1
  unfold queryV
  go_enter Tryz.func4, Tryz.ntmps4
  by_cases h40 : 40 < l0.length
  · go_wp2
    go_ret
    exact ⟨ret_bool rfl, HB1.out⟩
  by_cases h300 : 300 < s.size
  · go_wp2
    go_ret
    exact ⟨ret_bool rfl, HB1.out⟩
  go_wp2_with fail
  clear c1 c3 HB1
  generalize (((w.alloc (.cells (icells x0.d x0.t x0.v) 26)).alloc (.cells #[.int .i64 n0, .string s, .int .i64 r0, .slice p0 l0.length q0] 41)).alloc (.cells #[.slice a m cap, .int .i64 0] 44)) = W3 at *
  obtain ⟨T, hT⟩ : ∃ T, T = w.heap.size + 2 := ⟨_, rfl⟩
  rw [← hT] at HTP ⊢
  have hTq : w.heap.size + 1 ≠ T := by omega
  have hTx : w.heap.size ≠ T := by omega
  have hTl : w.heap.size ≤ T := by omega
  clear hT
  refine (next_any T 0 3 W3 HTP.out (by omega) (by omega) (by omega)).mono ?_
  rintro e w1 ⟨r, hr, rfl, ht1, hg1⟩
  have hr3 : r < 3 := by omega
  have HN : Hid (V.scheme (1 + (r : Int)) = true) := Lib.hid (by
    have h3 : r = 0 ∨ r = 1 ∨ r = 2 := by omega
    rcases h3 with rfl | rfl | rfl <;> rfl)
  have hbw_ := grown_below hg1 hTl HB.out.size
  replace HTP := Lib.hid ht1
  replace KX := Lib.hid (keepW hg1 KX.out hTx)
  replace KQ := Lib.hid (keepW hg1 KQ.out hTq)
  replace HB := Lib.hid (HB.out.trans hbw_)
  clear hbw_ hg1 ht1
  clear hr
  go_wp2_with fail
  obtain ⟨n, hn⟩ : ∃ n : Int, n = 1 + (r : Int) := ⟨_, rfl⟩
  rw [← hn] at HN
  simp only [← hn]
  clear hn hr3
  refine (pick_any T 1 _ ⟨w1.heap.size, 0, none⟩ 4 pickA (HTP.out.below (newW w1 _)) (by omega) (by decide) (by decide) (by have := HTP.out.lt; simp; omega) rfl (fun j hj => by
      rw [World.cell?_alloc_new, Nat.zero_add]
      have : ∀ j : Fin 4, (#[Value.string ⟨#[42]⟩, Value.string ⟨#[110, 111, 110, 101]⟩, Value.string ⟨#[60]⟩, Value.string ⟨#[62, 61]⟩])[j.val]? = some (Value.string ⟨(pickA.getD j.val []).toArray⟩) := by
        intro j; rcases j with ⟨j, hj⟩
        have h5 : j = 0 ∨ j = 1 ∨ j = 2 ∨ j = 3 := by omega
        rcases h5 with rfl | rfl | rfl | rfl <;> rfl
      exact this ⟨j, hj⟩)).mono ?_
  rintro e w2 ⟨o, ho, rfl, ht2, hg2'⟩
  have hol := pickA_len o ho
  have hg2 := World.grownBy.trans (World.grownBy_alloc w1 (.cells #[Value.string ⟨#[42]⟩, Value.string ⟨#[110, 111, 110, 101]⟩, Value.string ⟨#[60]⟩, Value.string ⟨#[62, 61]⟩] 9) (some T)) hg2'
  have hbw_ := grown_below hg2 hTl HB.out.size
  replace HTP := Lib.hid ht2
  replace KX := Lib.hid (keepW hg2 KX.out hTx)
  replace KQ := Lib.hid (keepW hg2 KQ.out hTq)
  replace HB := Lib.hid (HB.out.trans hbw_)
  clear hbw_ hg2 ht2
  clear ho hg2'
  go_wp2_with fail
  refine (version_any T 2 n w2 HTP.out (by omega) HN.out).mono ?_
  rintro e w3 ⟨v, hv, rfl, ht3, hg3⟩
  have hbw_ := grown_below hg3 hTl HB.out.size
  replace HTP := Lib.hid ht3
  replace KX := Lib.hid (keepW hg3 KX.out hTx)
  replace KQ := Lib.hid (keepW hg3 KQ.out hTq)
  replace HB := Lib.hid (HB.out.trans hbw_)
  clear hbw_ hg3 ht3
  have hvl : v.length ≤ 64 := (V.valid_len hv).2
  have z1 : (ByteArray.mk o.toArray).size = o.length := by simp [ByteArray.size]
  have z2 : (ByteArray.mk v.toArray).size = v.length := by simp [ByteArray.size]
  have s1 : ¬ (9223372036854775807 < (ByteArray.mk o.toArray).size + (ByteArray.mk v.toArray).size) := by omega
  have s2 : ¬ (9223372036854775807 < o.length + v.length) := by omega
  have HCL : Hid ((ByteArray.mk o.toArray ++ ByteArray.mk v.toArray).data.toList.length ≤ maxLen) := Lib.hid (by unfold maxLen; simp; omega)
  clear hv z1 z2 hol hvl
  go_wp2_with fail
  clear s1 s2
  generalize ByteArray.mk o.toArray ++ ByteArray.mk v.toArray = C at *
  obtain ⟨cd, rfl⟩ : ∃ cd : V.Bs, C = ⟨cd.toArray⟩ := ⟨C.data.toList, rfl⟩
  rw [bs_mk] at HCL
  have HPL := Lib.hid (parP_lensW n cd)
  refine (rrParse_any n cd w3 (HM.out.below HB.out) HCL.out).mono ?_
  rintro e w4 ⟨u, rfl, hu, hub, hb4⟩
  obtain ⟨pr, hpr⟩ : ∃ pr, pr = V.parP n cd := ⟨_, rfl⟩
  rw [← hpr] at hu HPL ⊢
  clear hpr
  obtain ⟨kz, lz, ez⟩ := pr
  simp only at hu HPL ⊢
  obtain ⟨py, qy, rfl⟩ := hu.slice
  have hb5 := newW w4 (.cells #[.int .i64 kz, .slice py lz.length qy] 39)
  have KB : Hid ((w4.alloc (.cells #[.int .i64 kz, .slice py lz.length qy] 39)).heap[w4.heap.size]? = some (.cells #[.int .i64 kz, .slice py lz.length qy] 39 (0, 0))) := Lib.hid (heap_alloc_new w4 _)
  have ZI := Lib.hid (hu.below hb5)
  have hb6 := hb4.trans (hb5.mono hb4.size)
  have ZB : Hid (∀ c, (Value.slice py lz.length qy).ownBlock = some c → c ≠ T) := Lib.hid (fun c hc => by have := hub c hc; have := HTP.out.lt; omega)
  clear hub
  have HBT : Hid (T < w4.heap.size) := Lib.hid (Nat.lt_of_lt_of_le HTP.out.lt hb4.size)
  replace HTP := Lib.hid (HTP.out.below hb6)
  replace KX := Lib.hid ((hb6.block _ ((Array.getElem?_eq_some_iff.1 KX.out).1)).trans KX.out)
  replace KQ := Lib.hid ((hb6.block _ ((Array.getElem?_eq_some_iff.1 KQ.out).1)).trans KQ.out)
  replace HB := Lib.hid (HB.out.trans (hb6.mono HB.out.size))
  clear hu hb4 hb5 hb6
  unfold setV
  go_wp2_with fail
  generalize w4.alloc (.cells #[.int .i64 kz, .slice py lz.length qy] 39) = w5 at *
  obtain ⟨B, hB⟩ : ∃ B, B = w4.heap.size := ⟨_, rfl⟩
  rw [← hB] at KB HBT ⊢
  clear hB
  obtain ⟨sd, rfl⟩ : ∃ sd : V.Bs, s = ⟨sd.toArray⟩ := ⟨s.data.toList, rfl⟩
  have KQ' : Hid (w5.heap[w.heap.size + 1]? = some (.cells (qcl n0 sd r0 (.slice p0 l0.length q0)).toArray 41 (0, 0))) := Lib.hid KQ.out
  replace KQ := KQ'
  clear KQ' hl hs
  have hTB : B ≠ T := by have := HBT.out; omega
  refine (next_any T 3 2 w5 HTP.out (by omega) (by omega) (by omega)).mono ?_
  rintro e w6 ⟨r2, hr2, rfl, ht6, hg6⟩
  replace KB := Lib.hid (keepW hg6 KB.out hTB)
  replace ZI := Lib.hid (ZI.out.grown hg6 (fun _ c hc e => ZB.out c hc (Option.some.inj e).symm))
  have hbw_ := grown_below hg6 hTl HB.out.size
  replace HTP := Lib.hid ht6
  replace KX := Lib.hid (keepW hg6 KX.out hTx)
  replace KQ := Lib.hid (keepW hg6 KQ.out hTq)
  replace HB := Lib.hid (HB.out.trans hbw_)
  clear hbw_ hg6 ht6
  by_cases hz : r2 = 0
  · subst hz
    clear hr2
    have HPA := Lib.hid (allP_lensW n)
    go_wp2_with fail
    refine (rrAll_any n w6).mono ?_
    rintro e w7 ⟨u, rfl, hu, hub, hb7⟩
    obtain ⟨pr, hpr⟩ : ∃ pr, pr = allP n := ⟨_, rfl⟩
    rw [← hpr] at hu HPA ⊢
    clear hpr
    obtain ⟨ka, la, ea⟩ := pr
    simp only at hu HPA ⊢
    obtain ⟨pa, qa, rfl⟩ := hu.slice
    have hBW : B < w6.heap.size := (Array.getElem?_eq_some_iff.1 KB.out).1
    have hTW := HTP.out.lt
    have hwB : w.heap.size ≤ B := by have := HBT.out; omega
    have hxB : w.heap.size ≠ B := by have := HBT.out; omega
    have hqB : w.heap.size + 1 ≠ B := by have := HBT.out; omega
    replace KB := Lib.hid ((hb7.block _ hBW).trans KB.out)
    have ZB2 : Hid (∀ c, (Value.slice pa la.length qa).ownBlock = some c → c ≠ T ∧ c ≠ B) := Lib.hid (fun c hc => by have := hub c hc; omega)
    replace HTP := Lib.hid (HTP.out.below hb7)
    replace KX := Lib.hid ((hb7.block _ ((Array.getElem?_eq_some_iff.1 KX.out).1)).trans KX.out)
    replace KQ := Lib.hid ((hb7.block _ ((Array.getElem?_eq_some_iff.1 KQ.out).1)).trans KQ.out)
    replace HB := Lib.hid (HB.out.trans (hb7.mono HB.out.size))
    clear hb7 hub
    unfold setV
    go_wp2_with (first | (refine wl_putRow rfl 39 _ _ rfl B _ _ KB.out rfl #[.int .i64 ka, .slice pa la.length qa] rfl rfl (by kernel_rfl) (setC_all _ _ _ _) ?_; intro V8 hp8; replace KX := Lib.hid (hp8.other KX.out hxB); replace KQ := Lib.hid (hp8.other KQ.out hqB); replace KB := Lib.hid hp8.here; replace HB := Lib.hid (hp8.below HB.out hwB); have ZIA := Lib.hid (hu.grown hp8.grown (fun _ c hc e => (ZB2.out c hc).2 (Option.some.inj e).symm)); replace HTP := Lib.hid (HTP.out.grown hp8.grown (by intro e; cases e; exact hTB rfl) (by intro b' e; cases e; exact HBT.out)); clear hp8) | fail)
    clear hu ZI ZB HPL
    have ZI := ZIA
    have ZL := HPA
    have ZB : Hid (∀ c, (Value.slice pa la.length qa).ownBlock = some c → c ≠ T) := Lib.hid (fun c hc => (ZB2.out c hc).1)
    clear ZIA HPA ZB2
    refine wp_region_held (S := fun W' => V8.grownBy W' (some T)) (by kernel_rfl) ?_
    have hS0 : V8.grownBy V8.drew (some T) := drew_grown V8 _
    change wpAnyH _ _ _ _ _ _ _ _ (World.drew _)
    have HTD := Lib.hid (HTP.out.below (Below.refl V8.heap.size V8).drew)
    generalize V8.drew = WD at *
    refine wpAnyH_take (i := 0) (v := (.agg (qcl n0 sd r0 (.slice p0 l0.length q0)).toArray)) rfl (by kernel_rfl) (by kernel_rfl) (by kernel_rfl) (fun _ _ _ h => h) (Or.inl ⟨by rfl, fun W' hS => ex_load rfl rfl (load_q (range_rowQ (keepW hS KQ.out hTq)))⟩) hS0 ?_
    refine wpAnyH_take (i := 1) (v := (.int .i64 n)) rfl (by kernel_rfl) (by kernel_rfl) (by kernel_rfl) (fun _ _ _ h => h) (Or.inl ⟨by rfl, fun W' _ => by go_simp⟩) hS0 ?_
    refine wpAnyH_take (i := 2) (v := (.pointer (some ⟨T, 0, none⟩))) rfl (by kernel_rfl) (by kernel_rfl) (by kernel_rfl) (fun _ _ _ h => h) (Or.inl ⟨by rfl, fun W' _ => by go_simp⟩) hS0 ?_
    refine wpAnyH_take (i := 5) (v := (setV ka (.slice pa la.length qa))) rfl (by kernel_rfl) (by kernel_rfl) (by kernel_rfl) (fun _ _ _ h => h) (Or.inl ⟨by rfl, fun W' hS => ex_load rfl rfl (load_s (range_rowQ (l := [.int .i64 ka, (.slice pa la.length qa)]) (keepW hS KB.out hTB)))⟩) hS0 ?_
    simp only [List.getElem_toArray, List.getElem_cons_succ, List.getElem_cons_zero, Act.put, List.setIfInBounds_toArray, List.set_cons_succ, List.set_cons_zero]
    refine wpAnyH_all (rs := [3]) (by kernel_rfl) (by simp) ?_
    intro i0 hi0
    obtain rfl : i0 = 3 := by simpa using hi0
    clear hi0
    refine wpOp_step (by rfl) (fun K hK => ?_)
    refine step_build3S rfl _ _ _ rfl _ _ _ rfl rfl rfl ?_
    have hSA := World.grownBy.trans hS0 (World.grownBy_alloc WD (.cells #[.string ⟨#[122, 108, 105, 98]⟩, .string ⟨#[115, 115, 108]⟩, .string ⟨#[97]⟩] 9) (some T))
    refine hK _ _ ⟨hSA, ?_⟩
    clear hK K
    simp only [List.getElem_toArray, List.getElem_cons_succ, List.getElem_cons_zero, Act.put, List.setIfInBounds_toArray, List.set_cons_succ, List.set_cons_zero]
    refine wpAnyH_all (rs := [4]) (by kernel_rfl) (by simp) ?_
    intro i0 hi0
    obtain rfl : i0 = 4 := by simpa using hi0
    clear hi0
    refine wpOp_step (by rfl) (fun K hK => ?_)
    refine step_call rfl _ #[.pointer (some ⟨T, 0, none⟩), .slice (some ⟨WD.heap.size, 0, none⟩) 3 3] (by go_simp) (pick_any T 4 _ ⟨WD.heap.size, 0, none⟩ 3 pickB (HTD.out.below (newW WD _)) (by omega) (by decide) (by decide) (by have := HTD.out.lt; simp; omega) rfl (fun j hj => by
        rw [World.cell?_alloc_new, Nat.zero_add]
        have : ∀ j : Fin 3, (#[Value.string ⟨#[122, 108, 105, 98]⟩, Value.string ⟨#[115, 115, 108]⟩, Value.string ⟨#[97]⟩])[j.val]? = some (Value.string ⟨(pickB.getD j.val []).toArray⟩) := by
          intro j; rcases j with ⟨j, hj⟩
          have h5 : j = 0 ∨ j = 1 ∨ j = 2 := by omega
          rcases h5 with rfl | rfl | rfl <;> rfl
        exact this ⟨j, hj⟩)) ?_
    rintro e wp ⟨nm, hnm, rfl, htp, hgp⟩
    have hSP := World.grownBy.trans hSA hgp
    refine ⟨_, rfl, hK _ _ ⟨hSP, ?_⟩⟩
    clear hK K htp hgp hnm
    simp only [List.getElem_toArray, List.getElem_cons_succ, List.getElem_cons_zero, Act.put, List.setIfInBounds_toArray, List.set_cons_succ, List.set_cons_zero]
    refine wpAnyH_take (i := 6) (v := (.agg (qcl n nm ka (.slice pa la.length qa)).toArray)) rfl (by kernel_rfl) (by kernel_rfl) (by kernel_rfl) (fun _ _ _ h => h) (Or.inl ⟨by rfl, fun W' _ => ex_build rfl (by simp only [List.map_toArray, List.map_cons, List.map_nil]; exact built_q n nm ka pa la.length qa)⟩) hSP ?_
    simp only [List.getElem_toArray, List.getElem_cons_succ, List.getElem_cons_zero, Act.put, List.setIfInBounds_toArray, List.set_cons_succ, List.set_cons_zero]
    refine wpAnyH_all (rs := [7]) (by kernel_rfl) (by simp) ?_
    intro i0 hi0
    obtain rfl : i0 = 7 := by simpa using hi0
    clear hi0
    refine wpOp_step (by rfl) (fun K hK => ?_)
    refine step_build2Q rfl _ _ rfl (qcl n0 sd r0 (.slice p0 l0.length q0)) (qcl n nm ka (.slice pa la.length qa)) rfl rfl rfl rfl ?_
    have hS8 := World.grownBy.trans hSP (World.grownBy_alloc wp (.cells (qcl n0 sd r0 (.slice p0 l0.length q0) ++ qcl n nm ka (.slice pa la.length qa)).toArray 41) (some T))
    refine hK _ _ ⟨hS8, ?_⟩
    clear hK K
    simp only [List.getElem_toArray, List.getElem_cons_succ, List.getElem_cons_zero, Act.put, List.setIfInBounds_toArray, List.set_cons_succ, List.set_cons_zero]
    refine wpAnyH_take (i := 8) (v := (.slice (some ⟨wp.heap.size, 0, none⟩) 2 2)) rfl (by kernel_rfl) (by kernel_rfl) (by kernel_rfl) (fun _ _ _ h => h) (Or.inl ⟨by rfl, fun W' _ => by go_simp⟩) hS8 ?_
    refine wpAnyH_done (by kernel_rfl) ?_ _
    simp only [List.getElem_toArray, List.getElem_cons_succ, List.getElem_cons_zero, Act.put, List.setIfInBounds_toArray, List.set_cons_succ, List.set_cons_zero]
    have HB9 := Lib.hid (HB.out.trans (grown_below hS8 hTl HB.out.size))
    have HX9 := Lib.hid (keepW hS8 KX.out hTx)
    have HG9 : Hid ((wp.alloc (.cells (qcl n0 sd r0 (.slice p0 l0.length q0) ++ qcl n nm ka (.slice pa la.length qa)).toArray 41)).heap[wp.heap.size]? = some (.cells (qcl n0 sd r0 (.slice p0 l0.length q0) ++ qcl n nm ka (.slice pa la.length qa)).toArray 41 (0, 0))) := Lib.hid (heap_alloc_new wp _)
    have HI9 := Lib.hid (ZI.out.grown hS8 (fun _ c hc e => ZB.out c hc (Option.some.inj e).symm))
    have HZG : Hid (wp.heap.size < (wp.alloc (.cells (qcl n0 sd r0 (.slice p0 l0.length q0) ++ qcl n nm ka (.slice pa la.length qa)).toArray 41)).heap.size) := Lib.hid (by simp)
    generalize wp.alloc (.cells (qcl n0 sd r0 (.slice p0 l0.length q0) ++ qcl n nm ka (.slice pa la.length qa)).toArray 41) = W9 at *
    generalize wp.heap.size = G at *
    clear hS0 hSA hSP hS8
    have HQS : Hid (∀ q, q < 2 → ∃ n nm r u l, W9.rangeAt G (q * 4) (qcl n nm r u) ∧ Itvs W9 u l ∧ Lens l ∧ l.length ≤ maxLen ∧ u.oneCell' = true) := Lib.hid (by
      intro q hq
      have h2 : q = 0 ∨ q = 1 := by omega
      rcases h2 with rfl | rfl
      · exact ⟨_, _, _, _, l0, (two_q rfl HG9.out).1, HU.out.below HB9.out, HL0.out, HN0.out, rfl⟩
      · exact ⟨_, _, _, _, la, (two_q rfl HG9.out).2, HI9.out, ZL.out.1, ZL.out.2, rfl⟩)
    clear HG9 HI9
    go_wp2_with (first | (refine wl_loadR rfl _ rfl w.heap.size 0 rfl x0 H1.out.1 (inv_rangeAll HX9.out) ?_) | fail)
    refine (inventories_any x0 a m cap W9 H1.out.1 H1.out.2.1 (H1.out.2.2.below HB9.out) (nums_later HT.out HB9.out)).mono ?_
    rintro e wi ⟨v1, xs, rfl, hiv, hx3, hb1⟩
    have HIV := Lib.hid hiv
    have HB1 := Lib.hid (HB9.out.trans (hb1.mono HB9.out.size))
    have HB91 := Lib.hid hb1
    obtain ⟨va, vc, hve, hjunk⟩ := hiv
    subst hve
    clear hjunk hb1
    go_wp2_with fail
    go_loopw [65] (fun jv wr => ∃ j : Nat, j ≤ xs.length ∧ jv = .int .i64 j ∧ Below wi.heap.size wi wr) (fun jv _ => xs.length - (intOf jv).toNat)
    case atStart => exact ⟨0, Nat.zero_le _, rfl, Below.refl _ _⟩
    case round =>
      obtain ⟨j, hj, rfl, hbr⟩ := hrel
      have HBR := Lib.hid hbr
      have HBW := Lib.hid (HB1.out.trans (hbr.mono HB1.out.size))
      have HB9R := Lib.hid (HB91.out.trans (hbr.mono HB91.out.size))
      clear hbr
      by_cases hlt : j < xs.length
      · obtain ⟨a', cap', e', hat⟩ := HIV.out
        cases e'
        obtain ⟨hok, g, off, rfl, hgl, hr⟩ := hat j hlt
        have HX := Lib.hid (hok.below HBR.out)
        have HR := Lib.hid (rangeAt_below hr HBR.out)
        have hj1 : (0 : Int) ≤ (j : Int) := by omega
        have hj2 : (j : Int) < (xs.length : Int) := by omega
        have hox := hok.comps.one
        clear hok hr hat
        generalize xs[j] = x at *
        have hb2 : Below wr.heap.size wr (wr.alloc (.cells (icells x.d x.t x.v) 26)) := newW wr _
        have HX2 := Lib.hid (HX.out.below hb2)
        have HG2 : Hid ((wr.alloc (.cells (icells x.d x.t x.v) 26)).heap[wr.heap.size]? = some (.cells (icells x.d x.t x.v) 26 (0, 0))) := Lib.hid (heap_alloc_new wr _)
        have HBX := Lib.hid (HBR.out.trans (hb2.mono HBR.out.size))
        have HB92 := Lib.hid (HB9R.out.trans (hb2.mono HB9R.out.size))
        have HBW2 := Lib.hid (HBW.out.trans (hb2.mono HBW.out.size))
        have hz2 : wr.heap.size < (wr.alloc (.cells (icells x.d x.t x.v) 26)).heap.size := by simp
        clear hb2
        go_wp2_with (first | (refine wl_loadR rfl _ rfl g (off + j * 34) rfl x HX.out.hd HR.out ?_) | (refine wl_storeI rfl _ _ rfl _ rfl x HX.out.hd hox rfl rfl ?_; clear hox; generalize hww : (wr.alloc (.cells (icells x.d x.t x.v) 26)) = w2 at *; clear hww; generalize wr.heap.size = X at *) | fail)
        go_loopw [71] (fun qv wr => ∃ q : Nat, q ≤ 2 ∧ qv = .int .i64 q ∧ Below w2.heap.size w2 wr) (fun qv _ => 2 - (intOf qv).toNat)
        case atStart => exact ⟨0, by omega, rfl, Below.refl _ _⟩
        case round =>
          obtain ⟨q, hq, rfl, hbq⟩ := hrel
          by_cases hq2 : q < 2
          · obtain ⟨nq, nmq, rq, uq, lq, hrq, hiq, hlq, hnq, hone⟩ := HQS.out q hq2
            have hq3 : (0 : Int) ≤ (q : Int) := by omega
            have hq4 : (q : Int) < 2 := by omega
            have hb9q := HB92.out.trans (hbq.mono HB92.out.size)
            have HRQ := Lib.hid (rangeAt_below hrq hb9q)
            have hb3 : Below wr.heap.size wr (wr.alloc (.cells (qcl nq nmq rq uq).toArray 41)) := newW wr _
            have HIQ := Lib.hid ((hiq.below hb9q).below hb3)
            have HLQ := Lib.hid (And.intro hlq hnq)
            have HX3 := Lib.hid ((HX2.out.below hbq).below hb3)
            have HBQ := Lib.hid (hbq.trans (hb3.mono hbq.size))
            have HBW3 := Lib.hid (HBW2.out.trans (HBQ.out.mono HBW2.out.size))
            have hzX : X < wr.heap.size := Nat.lt_of_lt_of_le hz2 hbq.size
            have HG3 := Lib.hid ((hb3.block X hzX).trans ((hbq.block X hz2).trans HG2.out))
            have HY : Hid ((wr.alloc (.cells (qcl nq nmq rq uq).toArray 41)).heap[wr.heap.size]? = some (.cells (qcl nq nmq rq uq).toArray 41 (0, 0))) := Lib.hid (heap_alloc_new wr _)
            have hzY : wr.heap.size < (wr.alloc (.cells (qcl nq nmq rq uq).toArray 41)).heap.size := by simp
            have hzX3 : X < (wr.alloc (.cells (qcl nq nmq rq uq).toArray 41)).heap.size := Nat.lt_of_lt_of_le hzX hb3.size
            clear hrq hiq hlq hnq hb9q hb3 hbq hzX
            go_wp2_with (first | (refine wl_loadQ rfl _ rfl G (0 + q * 4) rfl nq nmq rq uq (by rw [Nat.zero_add]; exact HRQ.out) ?_) | (refine wl_loadQ rfl _ rfl G (q * 4) rfl nq nmq rq uq HRQ.out ?_) | (refine wl_storeQ rfl _ _ rfl _ rfl nq nmq rq uq hone rfl rfl ?_; clear hone; generalize hww : (wr.alloc (.cells (qcl nq nmq rq uq).toArray 41)) = w3 at *; clear hww; generalize wr.heap.size = Y at *) | fail)
            have y0 : w3.cell? ⟨Y, 0, none⟩ = some (.int .i64 nq) := (cell_of_row _ _ 0 _ _ _ HY.out).trans rfl
            have y1 : w3.cell? ⟨Y, 1, none⟩ = some (.string ⟨nmq.toArray⟩) := (cell_of_row _ _ 1 _ _ _ HY.out).trans rfl
            have HY0 := Lib.hid y0
            have HY1 := Lib.hid y1
            clear y0 y1
            refine wp_region_held (S := fun W' => Below w3.heap.size w3 W') (by kernel_rfl) ?_
            have hS0 : Below w3.heap.size w3 w3.drew := (Below.refl _ w3).drew
            change wpAnyH _ _ _ _ _ _ _ _ (World.drew _)
            have HXD := Lib.hid (HX3.out.below hS0)
            have HID := Lib.hid (HIQ.out.below hS0)
            have HBD := Lib.hid (HBW3.out.trans (hS0.mono HBW3.out.size))
            generalize w3.drew = WD at *
            refine wpAnyH_take (i := 0) (v := (.agg (icells x.d x.t x.v))) rfl (by kernel_rfl) (by kernel_rfl) (by kernel_rfl) (fun _ _ _ h => h) (Or.inl ⟨by rfl, fun W' hS => ex_load rfl rfl (load_invR (x := x) HXD.out.hd (inv_rangeAll (x := x) ((hS.block X hzX3).trans HG3.out)))⟩) hS0 ?_
            refine wpAnyH_take (i := 1) (v := (.pointer (some ⟨Y, 0, none⟩))) rfl (by kernel_rfl) (by kernel_rfl) (by kernel_rfl) (fun _ _ _ h => h) (Or.inl ⟨by rfl, fun W' _ => by go_simp⟩) hS0 ?_
            simp only [List.getElem_toArray, List.getElem_cons_succ, List.getElem_cons_zero, Act.put, List.setIfInBounds_toArray, List.set_cons_succ, List.set_cons_zero]
            refine wpAnyH_take (i := 2) (v := (.int .i64 nq)) rfl (by kernel_rfl) (by kernel_rfl) (by kernel_rfl) (fun _ _ _ h => h) (Or.inl ⟨by rfl, fun W' hS => by have y := (hS.cell (p := ⟨Y, 0, none⟩) hzY).trans HY0.out; go_simp⟩) hS0 ?_
            refine wpAnyH_take (i := 3) (v := (.pointer (some ⟨Y, 1, none⟩))) rfl (by kernel_rfl) (by kernel_rfl) (by kernel_rfl) (fun _ _ _ h => h) (Or.inl ⟨by rfl, fun W' _ => by go_simp⟩) hS0 ?_
            simp only [List.getElem_toArray, List.getElem_cons_succ, List.getElem_cons_zero, Act.put, List.setIfInBounds_toArray, List.set_cons_succ, List.set_cons_zero]
            refine wpAnyH_take (i := 4) (v := (.string ⟨nmq.toArray⟩)) rfl (by kernel_rfl) (by kernel_rfl) (by kernel_rfl) (fun _ _ _ h => h) (Or.inl ⟨by rfl, fun W' hS => by have y := (hS.cell (p := ⟨Y, 1, none⟩) hzY).trans HY1.out; go_simp⟩) hS0 ?_
            refine wpAnyH_take (i := 5) (v := (.pointer (some ⟨Y, 2, none⟩))) rfl (by kernel_rfl) (by kernel_rfl) (by kernel_rfl) (fun _ _ _ h => h) (Or.inl ⟨by rfl, fun W' _ => by go_simp⟩) hS0 ?_
            simp only [List.getElem_toArray, List.getElem_cons_succ, List.getElem_cons_zero, Act.put, List.setIfInBounds_toArray, List.set_cons_succ, List.set_cons_zero]
            refine wpAnyH_take (i := 6) (v := (setV rq uq)) rfl (by kernel_rfl) (by kernel_rfl) (by kernel_rfl) (fun _ _ _ h => h) (Or.inl ⟨by rfl, fun W' hS => ex_load rfl rfl (load_s (range_s (rangeAt_below (range_rowQ HY.out) hS)))⟩) hS0 ?_
            simp only [List.getElem_toArray, List.getElem_cons_succ, List.getElem_cons_zero, Act.put, List.setIfInBounds_toArray, List.set_cons_succ, List.set_cons_zero]
            refine wpAnyH_take (i := 8) (v := (.agg (icells x.d x.t x.v))) rfl (by kernel_rfl) (by kernel_rfl) (by kernel_rfl) (fun _ _ _ h => h) (Or.inl ⟨by rfl, fun W' hS => ex_load rfl rfl (load_invR (x := x) HXD.out.hd (inv_rangeAll (x := x) ((hS.block X hzX3).trans HG3.out)))⟩) hS0 ?_
            refine wpAnyH_take (i := 9) (v := (.pointer (some ⟨Y, 0, none⟩))) rfl (by kernel_rfl) (by kernel_rfl) (by kernel_rfl) (fun _ _ _ h => h) (Or.inl ⟨by rfl, fun W' _ => by go_simp⟩) hS0 ?_
            simp only [List.getElem_toArray, List.getElem_cons_succ, List.getElem_cons_zero, Act.put, List.setIfInBounds_toArray, List.set_cons_succ, List.set_cons_zero]
            refine wpAnyH_take (i := 10) (v := (.int .i64 nq)) rfl (by kernel_rfl) (by kernel_rfl) (by kernel_rfl) (fun _ _ _ h => h) (Or.inl ⟨by rfl, fun W' hS => by have y := (hS.cell (p := ⟨Y, 0, none⟩) hzY).trans HY0.out; go_simp⟩) hS0 ?_
            refine wpAnyH_take (i := 11) (v := (.pointer (some ⟨Y, 1, none⟩))) rfl (by kernel_rfl) (by kernel_rfl) (by kernel_rfl) (fun _ _ _ h => h) (Or.inl ⟨by rfl, fun W' _ => by go_simp⟩) hS0 ?_
            simp only [List.getElem_toArray, List.getElem_cons_succ, List.getElem_cons_zero, Act.put, List.setIfInBounds_toArray, List.set_cons_succ, List.set_cons_zero]
            refine wpAnyH_take (i := 12) (v := (.string ⟨nmq.toArray⟩)) rfl (by kernel_rfl) (by kernel_rfl) (by kernel_rfl) (fun _ _ _ h => h) (Or.inl ⟨by rfl, fun W' hS => by have y := (hS.cell (p := ⟨Y, 1, none⟩) hzY).trans HY1.out; go_simp⟩) hS0 ?_
            refine wpAnyH_take (i := 13) (v := (.pointer (some ⟨Y, 2, none⟩))) rfl (by kernel_rfl) (by kernel_rfl) (by kernel_rfl) (fun _ _ _ h => h) (Or.inl ⟨by rfl, fun W' _ => by go_simp⟩) hS0 ?_
            simp only [List.getElem_toArray, List.getElem_cons_succ, List.getElem_cons_zero, Act.put, List.setIfInBounds_toArray, List.set_cons_succ, List.set_cons_zero]
            refine wpAnyH_take (i := 14) (v := (setV rq uq)) rfl (by kernel_rfl) (by kernel_rfl) (by kernel_rfl) (fun _ _ _ h => h) (Or.inl ⟨by rfl, fun W' hS => ex_load rfl rfl (load_s (range_s (rangeAt_below (range_rowQ HY.out) hS)))⟩) hS0 ?_
            simp only [List.getElem_toArray, List.getElem_cons_succ, List.getElem_cons_zero, Act.put, List.setIfInBounds_toArray, List.set_cons_succ, List.set_cons_zero]
            refine wpAnyH_all (rs := [7]) (by kernel_rfl) (by simp) ?_
            intro i0 hi0
            obtain rfl : i0 = 7 := by simpa using hi0
            clear hi0
            refine wpOp_step (by rfl) (fun K hK => ?_)
            refine step_call rfl _ #[.agg (icells x.d x.t x.v), .int .i64 nq, .string ⟨nmq.toArray⟩, setV rq uq] (by go_simp) (within_any x.d x.t x.v x.l nq nmq rq uq lq WD (HM.out.below HBD.out) HXD.out.hd HXD.out.comps (by have := HXD.out.len; omega) HID.out HLQ.out.1 HLQ.out.2) ?_
            rintro e w5 ⟨u1, rfl, hz1, hbw5⟩
            have hSw5 := hS0.trans (hbw5.mono hS0.size)
            have HX5 := Lib.hid (HXD.out.below hbw5)
            have HI5 := Lib.hid (HID.out.below hbw5)
            have HB5 := Lib.hid (HBD.out.trans (hbw5.mono HBD.out.size))
            have hz1a := hz1.zrow.zs
            refine ⟨_, rfl, hK _ _ ⟨hSw5, ?_⟩⟩
            clear hK K hbw5 hz1
            simp only [List.getElem_toArray, List.getElem_cons_succ, List.getElem_cons_zero, Act.put, List.setIfInBounds_toArray, List.set_cons_succ, List.set_cons_zero]
            refine wpAnyH_all (rs := [15]) (by kernel_rfl) (by simp) ?_
            intro i0 hi0
            obtain rfl : i0 = 15 := by simpa using hi0
            clear hi0
            refine wpOp_step (by rfl) (fun K hK => ?_)
            refine step_call rfl _ #[.agg (icells x.d x.t x.v), .int .i64 nq, .string ⟨nmq.toArray⟩, setV rq uq] (by go_simp) (rwithin_any x.d x.t x.v x.l nq nmq rq uq lq w5 (HM.out.below HB5.out) HX5.out.hd HX5.out.comps (by have := HX5.out.len; omega) HI5.out HLQ.out.1 HLQ.out.2) ?_
            rintro e w6 ⟨u2, rfl, hz2', hbw6⟩
            have hSw6 := hSw5.trans (hbw6.mono hSw5.size)
            have HZ1 := Lib.hid (hz1a.below hbw6)
            have HZ2 := Lib.hid hz2'.zrow.zs
            have HX6 := Lib.hid (HX5.out.below hbw6)
            refine ⟨_, rfl, hK _ _ ⟨hSw6, ?_⟩⟩
            clear hK K hbw6 hz1a hz2'
            simp only [List.getElem_toArray, List.getElem_cons_succ, List.getElem_cons_zero, Act.put, List.setIfInBounds_toArray, List.set_cons_succ, List.set_cons_zero]
            refine wpAnyH_all (rs := [16]) (by kernel_rfl) (by simp) ?_
            intro i0 hi0
            obtain rfl : i0 = 16 := by simpa using hi0
            clear hi0
            refine wpOp_step (by rfl) (fun K hK => ?_)
            refine step_call rfl _ #[u1, u2] (by go_simp) (sameInts_true u1 u2 _ w6 HZ1.out HZ2.out (by rw [List.length_map]; have := V.pickTo_len (V.wIn nq nmq rq lq) x.l x.l.length; have := HX6.out.len; omega)) ?_
            rintro e w7 ⟨rfl, hbw7⟩
            have hSw7 := hSw6.trans (hbw7.mono hSw6.size)
            refine ⟨_, rfl, hK _ _ ⟨hSw7, ?_⟩⟩
            clear hK K hbw7 HZ1 HZ2
            simp only [List.getElem_toArray, List.getElem_cons_succ, List.getElem_cons_zero, Act.put, List.setIfInBounds_toArray, List.set_cons_succ, List.set_cons_zero]
            refine wpAnyH_take (i := 17) (v := (.bool false)) rfl (by kernel_rfl) (by kernel_rfl) (by kernel_rfl) (fun _ _ _ h => h) (Or.inl ⟨by rfl, fun W' _ => by go_simp⟩) hSw7 ?_
            refine wpAnyH_done (by kernel_rfl) ?_ _
            simp only [List.getElem_toArray, List.getElem_cons_succ, List.getElem_cons_zero, Act.put, List.setIfInBounds_toArray, List.set_cons_succ, List.set_cons_zero]
            have HBF := Lib.hid (HBQ.out.trans (hSw7.mono HBQ.out.size))
            go_wp2
            go_roundw
            case rel => exact ⟨q + 1, by omega, by go_num, HBF.out⟩
            case measure => simp [intOf]; omega
          · obtain rfl : q = 2 := by omega
            have HB4 := Lib.hid (HBX.out.trans (hbq.mono HBX.out.size))
            go_wp2
            go_roundw
            case rel => exact ⟨j + 1, by omega, by go_num, HB4.out⟩
            case measure => simp [intOf]; omega
      · obtain rfl : j = xs.length := by omega
        go_wp2_with fail
        refine (awake19_any _ (HM.out.below HBW.out)).mono ?_
        rintro e w9 ⟨rfl, hb9⟩
        have HB9' := Lib.hid (HBW.out.trans (hb9.mono HBW.out.size))
        clear hb9
        go_wp2
        go_ret
        exact ⟨ret_bool rfl, HB9'.out⟩
  · have ZL := HPL
    go_wp2_with fail
    refine wp_region_held (S := fun W' => w6.grownBy W' (some T)) (by kernel_rfl) ?_
    have hS0 : w6.grownBy w6.drew (some T) := drew_grown w6 _
    change wpAnyH _ _ _ _ _ _ _ _ (World.drew _)
    have HTD := Lib.hid (HTP.out.below (Below.refl w6.heap.size w6).drew)
    generalize w6.drew = WD at *
    refine wpAnyH_take (i := 0) (v := (.agg (qcl n0 sd r0 (.slice p0 l0.length q0)).toArray)) rfl (by kernel_rfl) (by kernel_rfl) (by kernel_rfl) (fun _ _ _ h => h) (Or.inl ⟨by rfl, fun W' hS => ex_load rfl rfl (load_q (range_rowQ (keepW hS KQ.out hTq)))⟩) hS0 ?_
    refine wpAnyH_take (i := 1) (v := (.int .i64 n)) rfl (by kernel_rfl) (by kernel_rfl) (by kernel_rfl) (fun _ _ _ h => h) (Or.inl ⟨by rfl, fun W' _ => by go_simp⟩) hS0 ?_
    refine wpAnyH_take (i := 2) (v := (.pointer (some ⟨T, 0, none⟩))) rfl (by kernel_rfl) (by kernel_rfl) (by kernel_rfl) (fun _ _ _ h => h) (Or.inl ⟨by rfl, fun W' _ => by go_simp⟩) hS0 ?_
    refine wpAnyH_take (i := 5) (v := (setV kz (.slice py lz.length qy))) rfl (by kernel_rfl) (by kernel_rfl) (by kernel_rfl) (fun _ _ _ h => h) (Or.inl ⟨by rfl, fun W' hS => ex_load rfl rfl (load_s (range_rowQ (l := [.int .i64 kz, (.slice py lz.length qy)]) (keepW hS KB.out hTB)))⟩) hS0 ?_
    simp only [List.getElem_toArray, List.getElem_cons_succ, List.getElem_cons_zero, Act.put, List.setIfInBounds_toArray, List.set_cons_succ, List.set_cons_zero]
    refine wpAnyH_all (rs := [3]) (by kernel_rfl) (by simp) ?_
    intro i0 hi0
    obtain rfl : i0 = 3 := by simpa using hi0
    clear hi0
    refine wpOp_step (by rfl) (fun K hK => ?_)
    refine step_build3S rfl _ _ _ rfl _ _ _ rfl rfl rfl ?_
    have hSA := World.grownBy.trans hS0 (World.grownBy_alloc WD (.cells #[.string ⟨#[122, 108, 105, 98]⟩, .string ⟨#[115, 115, 108]⟩, .string ⟨#[97]⟩] 9) (some T))
    refine hK _ _ ⟨hSA, ?_⟩
    clear hK K
    simp only [List.getElem_toArray, List.getElem_cons_succ, List.getElem_cons_zero, Act.put, List.setIfInBounds_toArray, List.set_cons_succ, List.set_cons_zero]
    refine wpAnyH_all (rs := [4]) (by kernel_rfl) (by simp) ?_
    intro i0 hi0
    obtain rfl : i0 = 4 := by simpa using hi0
    clear hi0
    refine wpOp_step (by rfl) (fun K hK => ?_)
    refine step_call rfl _ #[.pointer (some ⟨T, 0, none⟩), .slice (some ⟨WD.heap.size, 0, none⟩) 3 3] (by go_simp) (pick_any T 4 _ ⟨WD.heap.size, 0, none⟩ 3 pickB (HTD.out.below (newW WD _)) (by omega) (by decide) (by decide) (by have := HTD.out.lt; simp; omega) rfl (fun j hj => by
        rw [World.cell?_alloc_new, Nat.zero_add]
        have : ∀ j : Fin 3, (#[Value.string ⟨#[122, 108, 105, 98]⟩, Value.string ⟨#[115, 115, 108]⟩, Value.string ⟨#[97]⟩])[j.val]? = some (Value.string ⟨(pickB.getD j.val []).toArray⟩) := by
          intro j; rcases j with ⟨j, hj⟩
          have h5 : j = 0 ∨ j = 1 ∨ j = 2 := by omega
          rcases h5 with rfl | rfl | rfl <;> rfl
        exact this ⟨j, hj⟩)) ?_
    rintro e wp ⟨nm, hnm, rfl, htp, hgp⟩
    have hSP := World.grownBy.trans hSA hgp
    refine ⟨_, rfl, hK _ _ ⟨hSP, ?_⟩⟩
    clear hK K htp hgp hnm
    simp only [List.getElem_toArray, List.getElem_cons_succ, List.getElem_cons_zero, Act.put, List.setIfInBounds_toArray, List.set_cons_succ, List.set_cons_zero]
    refine wpAnyH_take (i := 6) (v := (.agg (qcl n nm kz (.slice py lz.length qy)).toArray)) rfl (by kernel_rfl) (by kernel_rfl) (by kernel_rfl) (fun _ _ _ h => h) (Or.inl ⟨by rfl, fun W' _ => ex_build rfl (by simp only [List.map_toArray, List.map_cons, List.map_nil]; exact built_q n nm kz py lz.length qy)⟩) hSP ?_
    simp only [List.getElem_toArray, List.getElem_cons_succ, List.getElem_cons_zero, Act.put, List.setIfInBounds_toArray, List.set_cons_succ, List.set_cons_zero]
    refine wpAnyH_all (rs := [7]) (by kernel_rfl) (by simp) ?_
    intro i0 hi0
    obtain rfl : i0 = 7 := by simpa using hi0
    clear hi0
    refine wpOp_step (by rfl) (fun K hK => ?_)
    refine step_build2Q rfl _ _ rfl (qcl n0 sd r0 (.slice p0 l0.length q0)) (qcl n nm kz (.slice py lz.length qy)) rfl rfl rfl rfl ?_
    have hS8 := World.grownBy.trans hSP (World.grownBy_alloc wp (.cells (qcl n0 sd r0 (.slice p0 l0.length q0) ++ qcl n nm kz (.slice py lz.length qy)).toArray 41) (some T))
    refine hK _ _ ⟨hS8, ?_⟩
    clear hK K
    simp only [List.getElem_toArray, List.getElem_cons_succ, List.getElem_cons_zero, Act.put, List.setIfInBounds_toArray, List.set_cons_succ, List.set_cons_zero]
    refine wpAnyH_take (i := 8) (v := (.slice (some ⟨wp.heap.size, 0, none⟩) 2 2)) rfl (by kernel_rfl) (by kernel_rfl) (by kernel_rfl) (fun _ _ _ h => h) (Or.inl ⟨by rfl, fun W' _ => by go_simp⟩) hS8 ?_
    refine wpAnyH_done (by kernel_rfl) ?_ _
    simp only [List.getElem_toArray, List.getElem_cons_succ, List.getElem_cons_zero, Act.put, List.setIfInBounds_toArray, List.set_cons_succ, List.set_cons_zero]
    have HB9 := Lib.hid (HB.out.trans (grown_below hS8 hTl HB.out.size))
    have HX9 := Lib.hid (keepW hS8 KX.out hTx)
    have HG9 : Hid ((wp.alloc (.cells (qcl n0 sd r0 (.slice p0 l0.length q0) ++ qcl n nm kz (.slice py lz.length qy)).toArray 41)).heap[wp.heap.size]? = some (.cells (qcl n0 sd r0 (.slice p0 l0.length q0) ++ qcl n nm kz (.slice py lz.length qy)).toArray 41 (0, 0))) := Lib.hid (heap_alloc_new wp _)
    have HI9 := Lib.hid (ZI.out.grown hS8 (fun _ c hc e => ZB.out c hc (Option.some.inj e).symm))
    have HZG : Hid (wp.heap.size < (wp.alloc (.cells (qcl n0 sd r0 (.slice p0 l0.length q0) ++ qcl n nm kz (.slice py lz.length qy)).toArray 41)).heap.size) := Lib.hid (by simp)
    generalize wp.alloc (.cells (qcl n0 sd r0 (.slice p0 l0.length q0) ++ qcl n nm kz (.slice py lz.length qy)).toArray 41) = W9 at *
    generalize wp.heap.size = G at *
    clear hS0 hSA hSP hS8
    have HQS : Hid (∀ q, q < 2 → ∃ n nm r u l, W9.rangeAt G (q * 4) (qcl n nm r u) ∧ Itvs W9 u l ∧ Lens l ∧ l.length ≤ maxLen ∧ u.oneCell' = true) := Lib.hid (by
      intro q hq
      have h2 : q = 0 ∨ q = 1 := by omega
      rcases h2 with rfl | rfl
      · exact ⟨_, _, _, _, l0, (two_q rfl HG9.out).1, HU.out.below HB9.out, HL0.out, HN0.out, rfl⟩
      · exact ⟨_, _, _, _, lz, (two_q rfl HG9.out).2, HI9.out, ZL.out.1, ZL.out.2, rfl⟩)
    clear HG9 HI9
    go_wp2_with (first | (refine wl_loadR rfl _ rfl w.heap.size 0 rfl x0 H1.out.1 (inv_rangeAll HX9.out) ?_) | fail)
    refine (inventories_any x0 a m cap W9 H1.out.1 H1.out.2.1 (H1.out.2.2.below HB9.out) (nums_later HT.out HB9.out)).mono ?_
    rintro e wi ⟨v1, xs, rfl, hiv, hx3, hb1⟩
    have HIV := Lib.hid hiv
    have HB1 := Lib.hid (HB9.out.trans (hb1.mono HB9.out.size))
    have HB91 := Lib.hid hb1
    obtain ⟨va, vc, hve, hjunk⟩ := hiv
    subst hve
    clear hjunk hb1
    go_wp2_with fail
    go_loopw [65] (fun jv wr => ∃ j : Nat, j ≤ xs.length ∧ jv = .int .i64 j ∧ Below wi.heap.size wi wr) (fun jv _ => xs.length - (intOf jv).toNat)
    case atStart => exact ⟨0, Nat.zero_le _, rfl, Below.refl _ _⟩
    case round =>
      obtain ⟨j, hj, rfl, hbr⟩ := hrel
      have HBR := Lib.hid hbr
      have HBW := Lib.hid (HB1.out.trans (hbr.mono HB1.out.size))
      have HB9R := Lib.hid (HB91.out.trans (hbr.mono HB91.out.size))
      clear hbr
      by_cases hlt : j < xs.length
      · obtain ⟨a', cap', e', hat⟩ := HIV.out
        cases e'
        obtain ⟨hok, g, off, rfl, hgl, hr⟩ := hat j hlt
        have HX := Lib.hid (hok.below HBR.out)
        have HR := Lib.hid (rangeAt_below hr HBR.out)
        have hj1 : (0 : Int) ≤ (j : Int) := by omega
        have hj2 : (j : Int) < (xs.length : Int) := by omega
        have hox := hok.comps.one
        clear hok hr hat
        generalize xs[j] = x at *
        have hb2 : Below wr.heap.size wr (wr.alloc (.cells (icells x.d x.t x.v) 26)) := newW wr _
        have HX2 := Lib.hid (HX.out.below hb2)
        have HG2 : Hid ((wr.alloc (.cells (icells x.d x.t x.v) 26)).heap[wr.heap.size]? = some (.cells (icells x.d x.t x.v) 26 (0, 0))) := Lib.hid (heap_alloc_new wr _)
        have HBX := Lib.hid (HBR.out.trans (hb2.mono HBR.out.size))
        have HB92 := Lib.hid (HB9R.out.trans (hb2.mono HB9R.out.size))
        have HBW2 := Lib.hid (HBW.out.trans (hb2.mono HBW.out.size))
        have hz2 : wr.heap.size < (wr.alloc (.cells (icells x.d x.t x.v) 26)).heap.size := by simp
        clear hb2
        go_wp2_with (first | (refine wl_loadR rfl _ rfl g (off + j * 34) rfl x HX.out.hd HR.out ?_) | (refine wl_storeI rfl _ _ rfl _ rfl x HX.out.hd hox rfl rfl ?_; clear hox; generalize hww : (wr.alloc (.cells (icells x.d x.t x.v) 26)) = w2 at *; clear hww; generalize wr.heap.size = X at *) | fail)
        go_loopw [71] (fun qv wr => ∃ q : Nat, q ≤ 2 ∧ qv = .int .i64 q ∧ Below w2.heap.size w2 wr) (fun qv _ => 2 - (intOf qv).toNat)
        case atStart => exact ⟨0, by omega, rfl, Below.refl _ _⟩
        case round =>
          obtain ⟨q, hq, rfl, hbq⟩ := hrel
          by_cases hq2 : q < 2
          · obtain ⟨nq, nmq, rq, uq, lq, hrq, hiq, hlq, hnq, hone⟩ := HQS.out q hq2
            have hq3 : (0 : Int) ≤ (q : Int) := by omega
            have hq4 : (q : Int) < 2 := by omega
            have hb9q := HB92.out.trans (hbq.mono HB92.out.size)
            have HRQ := Lib.hid (rangeAt_below hrq hb9q)
            have hb3 : Below wr.heap.size wr (wr.alloc (.cells (qcl nq nmq rq uq).toArray 41)) := newW wr _
            have HIQ := Lib.hid ((hiq.below hb9q).below hb3)
            have HLQ := Lib.hid (And.intro hlq hnq)
            have HX3 := Lib.hid ((HX2.out.below hbq).below hb3)
            have HBQ := Lib.hid (hbq.trans (hb3.mono hbq.size))
            have HBW3 := Lib.hid (HBW2.out.trans (HBQ.out.mono HBW2.out.size))
            have hzX : X < wr.heap.size := Nat.lt_of_lt_of_le hz2 hbq.size
            have HG3 := Lib.hid ((hb3.block X hzX).trans ((hbq.block X hz2).trans HG2.out))
            have HY : Hid ((wr.alloc (.cells (qcl nq nmq rq uq).toArray 41)).heap[wr.heap.size]? = some (.cells (qcl nq nmq rq uq).toArray 41 (0, 0))) := Lib.hid (heap_alloc_new wr _)
            have hzY : wr.heap.size < (wr.alloc (.cells (qcl nq nmq rq uq).toArray 41)).heap.size := by simp
            have hzX3 : X < (wr.alloc (.cells (qcl nq nmq rq uq).toArray 41)).heap.size := Nat.lt_of_lt_of_le hzX hb3.size
            clear hrq hiq hlq hnq hb9q hb3 hbq hzX
            go_wp2_with (first | (refine wl_loadQ rfl _ rfl G (0 + q * 4) rfl nq nmq rq uq (by rw [Nat.zero_add]; exact HRQ.out) ?_) | (refine wl_loadQ rfl _ rfl G (q * 4) rfl nq nmq rq uq HRQ.out ?_) | (refine wl_storeQ rfl _ _ rfl _ rfl nq nmq rq uq hone rfl rfl ?_; clear hone; generalize hww : (wr.alloc (.cells (qcl nq nmq rq uq).toArray 41)) = w3 at *; clear hww; generalize wr.heap.size = Y at *) | fail)
            have y0 : w3.cell? ⟨Y, 0, none⟩ = some (.int .i64 nq) := (cell_of_row _ _ 0 _ _ _ HY.out).trans rfl
            have y1 : w3.cell? ⟨Y, 1, none⟩ = some (.string ⟨nmq.toArray⟩) := (cell_of_row _ _ 1 _ _ _ HY.out).trans rfl
            have HY0 := Lib.hid y0
            have HY1 := Lib.hid y1
            clear y0 y1
            refine wp_region_held (S := fun W' => Below w3.heap.size w3 W') (by kernel_rfl) ?_
            have hS0 : Below w3.heap.size w3 w3.drew := (Below.refl _ w3).drew
            change wpAnyH _ _ _ _ _ _ _ _ (World.drew _)
            have HXD := Lib.hid (HX3.out.below hS0)
            have HID := Lib.hid (HIQ.out.below hS0)
            have HBD := Lib.hid (HBW3.out.trans (hS0.mono HBW3.out.size))
            generalize w3.drew = WD at *
            refine wpAnyH_take (i := 0) (v := (.agg (icells x.d x.t x.v))) rfl (by kernel_rfl) (by kernel_rfl) (by kernel_rfl) (fun _ _ _ h => h) (Or.inl ⟨by rfl, fun W' hS => ex_load rfl rfl (load_invR (x := x) HXD.out.hd (inv_rangeAll (x := x) ((hS.block X hzX3).trans HG3.out)))⟩) hS0 ?_
            refine wpAnyH_take (i := 1) (v := (.pointer (some ⟨Y, 0, none⟩))) rfl (by kernel_rfl) (by kernel_rfl) (by kernel_rfl) (fun _ _ _ h => h) (Or.inl ⟨by rfl, fun W' _ => by go_simp⟩) hS0 ?_
            simp only [List.getElem_toArray, List.getElem_cons_succ, List.getElem_cons_zero, Act.put, List.setIfInBounds_toArray, List.set_cons_succ, List.set_cons_zero]
            refine wpAnyH_take (i := 2) (v := (.int .i64 nq)) rfl (by kernel_rfl) (by kernel_rfl) (by kernel_rfl) (fun _ _ _ h => h) (Or.inl ⟨by rfl, fun W' hS => by have y := (hS.cell (p := ⟨Y, 0, none⟩) hzY).trans HY0.out; go_simp⟩) hS0 ?_
            refine wpAnyH_take (i := 3) (v := (.pointer (some ⟨Y, 1, none⟩))) rfl (by kernel_rfl) (by kernel_rfl) (by kernel_rfl) (fun _ _ _ h => h) (Or.inl ⟨by rfl, fun W' _ => by go_simp⟩) hS0 ?_
            simp only [List.getElem_toArray, List.getElem_cons_succ, List.getElem_cons_zero, Act.put, List.setIfInBounds_toArray, List.set_cons_succ, List.set_cons_zero]
            refine wpAnyH_take (i := 4) (v := (.string ⟨nmq.toArray⟩)) rfl (by kernel_rfl) (by kernel_rfl) (by kernel_rfl) (fun _ _ _ h => h) (Or.inl ⟨by rfl, fun W' hS => by have y := (hS.cell (p := ⟨Y, 1, none⟩) hzY).trans HY1.out; go_simp⟩) hS0 ?_
            refine wpAnyH_take (i := 5) (v := (.pointer (some ⟨Y, 2, none⟩))) rfl (by kernel_rfl) (by kernel_rfl) (by kernel_rfl) (fun _ _ _ h => h) (Or.inl ⟨by rfl, fun W' _ => by go_simp⟩) hS0 ?_
            simp only [List.getElem_toArray, List.getElem_cons_succ, List.getElem_cons_zero, Act.put, List.setIfInBounds_toArray, List.set_cons_succ, List.set_cons_zero]
            refine wpAnyH_take (i := 6) (v := (setV rq uq)) rfl (by kernel_rfl) (by kernel_rfl) (by kernel_rfl) (fun _ _ _ h => h) (Or.inl ⟨by rfl, fun W' hS => ex_load rfl rfl (load_s (range_s (rangeAt_below (range_rowQ HY.out) hS)))⟩) hS0 ?_
            simp only [List.getElem_toArray, List.getElem_cons_succ, List.getElem_cons_zero, Act.put, List.setIfInBounds_toArray, List.set_cons_succ, List.set_cons_zero]
            refine wpAnyH_take (i := 8) (v := (.agg (icells x.d x.t x.v))) rfl (by kernel_rfl) (by kernel_rfl) (by kernel_rfl) (fun _ _ _ h => h) (Or.inl ⟨by rfl, fun W' hS => ex_load rfl rfl (load_invR (x := x) HXD.out.hd (inv_rangeAll (x := x) ((hS.block X hzX3).trans HG3.out)))⟩) hS0 ?_
            refine wpAnyH_take (i := 9) (v := (.pointer (some ⟨Y, 0, none⟩))) rfl (by kernel_rfl) (by kernel_rfl) (by kernel_rfl) (fun _ _ _ h => h) (Or.inl ⟨by rfl, fun W' _ => by go_simp⟩) hS0 ?_
            simp only [List.getElem_toArray, List.getElem_cons_succ, List.getElem_cons_zero, Act.put, List.setIfInBounds_toArray, List.set_cons_succ, List.set_cons_zero]
            refine wpAnyH_take (i := 10) (v := (.int .i64 nq)) rfl (by kernel_rfl) (by kernel_rfl) (by kernel_rfl) (fun _ _ _ h => h) (Or.inl ⟨by rfl, fun W' hS => by have y := (hS.cell (p := ⟨Y, 0, none⟩) hzY).trans HY0.out; go_simp⟩) hS0 ?_
            refine wpAnyH_take (i := 11) (v := (.pointer (some ⟨Y, 1, none⟩))) rfl (by kernel_rfl) (by kernel_rfl) (by kernel_rfl) (fun _ _ _ h => h) (Or.inl ⟨by rfl, fun W' _ => by go_simp⟩) hS0 ?_
            simp only [List.getElem_toArray, List.getElem_cons_succ, List.getElem_cons_zero, Act.put, List.setIfInBounds_toArray, List.set_cons_succ, List.set_cons_zero]
            refine wpAnyH_take (i := 12) (v := (.string ⟨nmq.toArray⟩)) rfl (by kernel_rfl) (by kernel_rfl) (by kernel_rfl) (fun _ _ _ h => h) (Or.inl ⟨by rfl, fun W' hS => by have y := (hS.cell (p := ⟨Y, 1, none⟩) hzY).trans HY1.out; go_simp⟩) hS0 ?_
            refine wpAnyH_take (i := 13) (v := (.pointer (some ⟨Y, 2, none⟩))) rfl (by kernel_rfl) (by kernel_rfl) (by kernel_rfl) (fun _ _ _ h => h) (Or.inl ⟨by rfl, fun W' _ => by go_simp⟩) hS0 ?_
            simp only [List.getElem_toArray, List.getElem_cons_succ, List.getElem_cons_zero, Act.put, List.setIfInBounds_toArray, List.set_cons_succ, List.set_cons_zero]
            refine wpAnyH_take (i := 14) (v := (setV rq uq)) rfl (by kernel_rfl) (by kernel_rfl) (by kernel_rfl) (fun _ _ _ h => h) (Or.inl ⟨by rfl, fun W' hS => ex_load rfl rfl (load_s (range_s (rangeAt_below (range_rowQ HY.out) hS)))⟩) hS0 ?_
            simp only [List.getElem_toArray, List.getElem_cons_succ, List.getElem_cons_zero, Act.put, List.setIfInBounds_toArray, List.set_cons_succ, List.set_cons_zero]
            refine wpAnyH_all (rs := [7]) (by kernel_rfl) (by simp) ?_
            intro i0 hi0
            obtain rfl : i0 = 7 := by simpa using hi0
            clear hi0
            refine wpOp_step (by rfl) (fun K hK => ?_)
            refine step_call rfl _ #[.agg (icells x.d x.t x.v), .int .i64 nq, .string ⟨nmq.toArray⟩, setV rq uq] (by go_simp) (within_any x.d x.t x.v x.l nq nmq rq uq lq WD (HM.out.below HBD.out) HXD.out.hd HXD.out.comps (by have := HXD.out.len; omega) HID.out HLQ.out.1 HLQ.out.2) ?_
            rintro e w5 ⟨u1, rfl, hz1, hbw5⟩
            have hSw5 := hS0.trans (hbw5.mono hS0.size)
            have HX5 := Lib.hid (HXD.out.below hbw5)
            have HI5 := Lib.hid (HID.out.below hbw5)
            have HB5 := Lib.hid (HBD.out.trans (hbw5.mono HBD.out.size))
            have hz1a := hz1.zrow.zs
            refine ⟨_, rfl, hK _ _ ⟨hSw5, ?_⟩⟩
            clear hK K hbw5 hz1
            simp only [List.getElem_toArray, List.getElem_cons_succ, List.getElem_cons_zero, Act.put, List.setIfInBounds_toArray, List.set_cons_succ, List.set_cons_zero]
            refine wpAnyH_all (rs := [15]) (by kernel_rfl) (by simp) ?_
            intro i0 hi0
            obtain rfl : i0 = 15 := by simpa using hi0
            clear hi0
            refine wpOp_step (by rfl) (fun K hK => ?_)
            refine step_call rfl _ #[.agg (icells x.d x.t x.v), .int .i64 nq, .string ⟨nmq.toArray⟩, setV rq uq] (by go_simp) (rwithin_any x.d x.t x.v x.l nq nmq rq uq lq w5 (HM.out.below HB5.out) HX5.out.hd HX5.out.comps (by have := HX5.out.len; omega) HI5.out HLQ.out.1 HLQ.out.2) ?_
            rintro e w6 ⟨u2, rfl, hz2', hbw6⟩
            have hSw6 := hSw5.trans (hbw6.mono hSw5.size)
            have HZ1 := Lib.hid (hz1a.below hbw6)
            have HZ2 := Lib.hid hz2'.zrow.zs
            have HX6 := Lib.hid (HX5.out.below hbw6)
            refine ⟨_, rfl, hK _ _ ⟨hSw6, ?_⟩⟩
            clear hK K hbw6 hz1a hz2'
            simp only [List.getElem_toArray, List.getElem_cons_succ, List.getElem_cons_zero, Act.put, List.setIfInBounds_toArray, List.set_cons_succ, List.set_cons_zero]
            refine wpAnyH_all (rs := [16]) (by kernel_rfl) (by simp) ?_
            intro i0 hi0
            obtain rfl : i0 = 16 := by simpa using hi0
            clear hi0
            refine wpOp_step (by rfl) (fun K hK => ?_)
            refine step_call rfl _ #[u1, u2] (by go_simp) (sameInts_true u1 u2 _ w6 HZ1.out HZ2.out (by rw [List.length_map]; have := V.pickTo_len (V.wIn nq nmq rq lq) x.l x.l.length; have := HX6.out.len; omega)) ?_
            rintro e w7 ⟨rfl, hbw7⟩
            have hSw7 := hSw6.trans (hbw7.mono hSw6.size)
            refine ⟨_, rfl, hK _ _ ⟨hSw7, ?_⟩⟩
            clear hK K hbw7 HZ1 HZ2
            simp only [List.getElem_toArray, List.getElem_cons_succ, List.getElem_cons_zero, Act.put, List.setIfInBounds_toArray, List.set_cons_succ, List.set_cons_zero]
            refine wpAnyH_take (i := 17) (v := (.bool false)) rfl (by kernel_rfl) (by kernel_rfl) (by kernel_rfl) (fun _ _ _ h => h) (Or.inl ⟨by rfl, fun W' _ => by go_simp⟩) hSw7 ?_
            refine wpAnyH_done (by kernel_rfl) ?_ _
            simp only [List.getElem_toArray, List.getElem_cons_succ, List.getElem_cons_zero, Act.put, List.setIfInBounds_toArray, List.set_cons_succ, List.set_cons_zero]
            have HBF := Lib.hid (HBQ.out.trans (hSw7.mono HBQ.out.size))
            go_wp2
            go_roundw
            case rel => exact ⟨q + 1, by omega, by go_num, HBF.out⟩
            case measure => simp [intOf]; omega
          · obtain rfl : q = 2 := by omega
            have HB4 := Lib.hid (HBX.out.trans (hbq.mono HBX.out.size))
            go_wp2
            go_roundw
            case rel => exact ⟨j + 1, by omega, by go_num, HB4.out⟩
            case measure => simp [intOf]; omega
      · obtain rfl : j = xs.length := by omega
        go_wp2_with fail
        refine (awake19_any _ (HM.out.below HBW.out)).mono ?_
        rintro e w9 ⟨rfl, hb9⟩
        have HB9' := Lib.hid (HBW.out.trans (hb9.mono HBW.out.size))
        clear hb9
        go_wp2
        go_ret
        exact ⟨ret_bool rfl, HB9'.out⟩
end Go.Proofs.YtpjjkbdkgaehkaaGreatDoor
namespace Go.Proofs.YtpjjkbdkgaehkaaGreatDoor
open Go.ChangeShapes Go.WideShapes Go.ChangeAt Go.RowKit

set_option maxRecDepth 100000 in
theorem set_of_trod {H : Type} {enc : TypeId × Value → H} {W : World} {f : Nat} {cs : List Value} {x : DataW H × List MemPlace} (h : DataW.trod enc Tryz.prog W 0 (fun _ => true) true f 39 cs = some x) : ∃ (n : Int) (u : Value) (l : List V.Itv), cs = [.int .i64 n, u] ∧ Itvs W u l ∧ (∀ c ∈ l, ItvWf c) ∧ l.length ≤ maxLen := by
  obtain ⟨xs, n, _, _, hl, hlen0, hx⟩ := DataW.trod_struct Tryz.underlying39 h
  obtain ⟨y0, y1, rfl⟩ : ∃ y0 y1, xs = [y0, y1] := by
    match xs, hlen0 with
    | [y0, y1], _ => exact ⟨_, _, rfl⟩
  have h0 : DataW.trod enc Tryz.prog W 0 (fun _ => true) true n 3 ((cs.drop 0).take (Tryz.prog.cellsOf 3)) = some y0 := hx 0 _ rfl
  have h1 : DataW.trod enc Tryz.prog W 0 (fun _ => true) true n 37 ((cs.drop 1).take (Tryz.prog.cellsOf 37)) = some y1 := hx 1 _ rfl
  have hl' : cs.length = 2 := by rw [← cells_set]; exact hl
  obtain ⟨sc, e0, _, _⟩ := DataW.trod_int Tryz.underlying3 h0
  obtain ⟨v', l, e1, hc, hw, hlen⟩ := itvs_of_trod h1
  rw [cells_int2] at e0
  rw [cells_itvs] at e1
  match cs, hl' with
  | [a, b], _ =>
    simp at e0 e1
    exact ⟨sc, v', l, by rw [e0, e1], hc, hw, hlen⟩
theorem cells_query : Tryz.prog.cellsOf 41 = 4 := by kernel_rfl
set_option maxRecDepth 100000 in
theorem read_query {H : Type} {enc : TypeId × Value → H} {W : World} {base : Nat} {v : Value} {d : DataW H} {p : List MemPlace} (hv : Value.okWide Tryz.prog W .any base 41 v)
    (h : DataW.Trod enc Tryz.prog W 0 (fun _ => true) true 41 v d p) : ∃ (n : Int) (s : ByteArray) (r : Int) (u : Value) (l : List V.Itv), v = queryV n s r u ∧ Itvs W u l ∧ (∀ c ∈ l, ItvWf c) ∧ l.length ≤ maxLen ∧ s.size ≤ maxLen := by
  obtain ⟨cs, rfl, hsz⟩ := okWide_struct Tryz.underlying41 hv
  obtain ⟨fuel0, hf⟩ := h
  obtain ⟨xs, n, _, _, hl, hlen0, hx⟩ := DataW.trod_struct Tryz.underlying41 hf
  obtain ⟨y0, y1, y2, rfl⟩ : ∃ y0 y1 y2, xs = [y0, y1, y2] := by
    match xs, hlen0 with
    | [y0, y1, y2], _ => exact ⟨_, _, _, rfl⟩
  have h0 : DataW.trod enc Tryz.prog W 0 (fun _ => true) true n 3 ((cs.toList.drop 0).take (Tryz.prog.cellsOf 3)) = some y0 := hx 0 _ rfl
  have h1 : DataW.trod enc Tryz.prog W 0 (fun _ => true) true n 9 ((cs.toList.drop 1).take (Tryz.prog.cellsOf 9)) = some y1 := hx 1 _ rfl
  have h2 : DataW.trod enc Tryz.prog W 0 (fun _ => true) true n 39 ((cs.toList.drop 2).take (Tryz.prog.cellsOf 39)) = some y2 := hx 2 _ rfl
  have hl' : cs.toList.length = 4 := by rw [← cells_query]; exact hl
  obtain ⟨sc, e0, _, _⟩ := DataW.trod_int Tryz.underlying3 h0
  obtain ⟨s, e1, _, hs⟩ := DataW.trod_string Tryz.underlying9 h1
  obtain ⟨r, u, l, e2, hc, hw, hlen⟩ := set_of_trod h2
  rw [cells_int2] at e0
  rw [cells_str2] at e1
  rw [cells_set] at e2
  obtain ⟨L, hL⟩ : ∃ L, L = cs.toList := ⟨_, rfl⟩
  rw [← hL] at e0 e1 e2 hl'
  have ec : L = [.int .i64 sc, .string s, .int .i64 r, u] := by
    match L, hl' with
    | [a, b, c, d], _ =>
      simp at e0 e1 e2
      rw [e0, e1, e2.1, e2.2]
  refine ⟨sc, s, r, u, l, ?_, hc, hw, hlen, hs⟩
  unfold queryV
  rw [← ec, hL]
end Go.Proofs.YtpjjkbdkgaehkaaGreatDoor
