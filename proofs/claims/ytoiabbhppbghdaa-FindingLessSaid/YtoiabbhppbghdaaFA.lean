/-
  Lists of digests: read, cloned, compared; hits and decisions compared.
-/
import Derived.Test.YtoiabbhppbghdaaJS
namespace Go.Proofs.Ytoiabbhppbghdaa
open Go.RowKit

/-- a digest that is one -/
def DigOk (d : List Int) : Prop := d.length = 32 ∧ ∀ n ∈ d, (Lit.int .u8 n).wf = true
/-- v is a slice of the digests l -/
def Digs (w : World) (v : Value) (l : List (List Int)) : Prop :=
  ∃ a cap, v = .slice a l.length cap ∧ ∀ j (h : j < l.length), DigOk l[j] ∧ ∃ b off, a = some ⟨b, off, none⟩ ∧ (∃ cs fr, w.heap[b]? = some (.cells cs 24 fr)) ∧ w.rangeAt b (off + j * 32) (dcellsL l[j])
theorem Digs.nil (w : World) : Digs w (.slice none 0 0) [] := ⟨none, 0, rfl, fun j h => by simp at h⟩
theorem Digs.below {w w' : World} {v : Value} {l : List (List Int)} (h : Digs w v l) (hb : Below w.heap.size w w') : Digs w' v l := by
  obtain ⟨a, cap, e, hc⟩ := h
  refine ⟨a, cap, e, fun j hj => ?_⟩
  obtain ⟨hw, b, off, ea, hlt, hr⟩ := hc j hj
  obtain ⟨cs, fr, hg⟩ := hlt
  exact ⟨hw, b, off, ea, ⟨cs, fr, (hb.block b (Array.getElem?_eq_some_iff.1 hg).1).trans hg⟩, rangeAt_below hr hb⟩
/-- a block of another type changed -/
theorem Digs.grow {w w' : World} {v : Value} {l : List (List Int)} (h : Digs w v l) {row : Option Nat} (hg : w.grownBy w' row) (hr : ∀ b, row = some b → ∃ cs t fr, w.heap[b]? = some (.cells cs t fr) ∧ t ≠ 24) : Digs w' v l := by
  obtain ⟨a, cap, e, hc⟩ := h
  refine ⟨a, cap, e, fun j hj => ?_⟩
  obtain ⟨hw, b, off, ea, ⟨cs, fr, hb⟩, hra⟩ := hc j hj
  have hk : w'.heap[b]? = w.heap[b]? := hg.block b (Array.getElem?_eq_some_iff.1 hb).1 (fun e => by
    obtain ⟨cs', t, fr', h1, h2⟩ := hr b e.symm
    rw [hb] at h1
    cases h1
    exact h2 rfl)
  refine ⟨hw, b, off, ea, ⟨cs, fr, hk.trans hb⟩, fun i u hu => ?_⟩
  rw [World.cell?_of_block (a := ⟨b, off + j * 32 + i, none⟩) hk]
  exact hra i u hu
theorem Digs.one {w : World} {v : Value} {l : List (List Int)} (h : Digs w v l) : v.oneCell' = true := by
  obtain ⟨a, cap, rfl, _⟩ := h; rfl
theorem dL_len {d : List Int} (h : DigOk d) : (dcellsL d).length = 32 := by unfold dcellsL; simp [h.1]
theorem dflat_len : ∀ {l : List (List Int)}, (∀ d ∈ l, DigOk d) → (l.flatMap dcellsL).length = l.length * 32
  | [], _ => rfl
  | d :: l, hw => by
    rw [List.flatMap_cons, List.length_append, dL_len (hw d (by simp)), dflat_len (fun c hc => hw c (by simp [hc])), List.length_cons]
    omega
theorem dflat_at : ∀ {l : List (List Int)}, (∀ d ∈ l, DigOk d) → ∀ j (h : j < l.length) i, i < 32 → (l.flatMap dcellsL)[j * 32 + i]? = (dcellsL l[j])[i]?
  | [], _, j, h, _, _ => by simp at h
  | d :: l, hw, 0, _, i, hi => by
    rw [List.flatMap_cons, List.getElem?_append_left (by rw [dL_len (hw d (by simp))]; omega)]
    simp
  | d :: l, hw, j + 1, h, i, hi => by
    have hl := dL_len (hw d (by simp))
    rw [List.flatMap_cons, List.getElem?_append_right (by rw [hl]; omega), hl, show (j + 1) * 32 + i - 32 = j * 32 + i by omega]
    rw [dflat_at (fun c hc => hw c (by simp [hc])) j (by simpa using h) i hi]
    simp
theorem dflat_get {l : List (List Int)} (hw : ∀ d ∈ l, DigOk d) {j : Nat} {u : Value} (h : (l.flatMap dcellsL)[j]? = some u) : ∃ q, ∃ hq : q < l.length, ∃ i, i < 32 ∧ j = q * 32 + i ∧ (dcellsL l[q])[i]? = some u := by
  have hj := (List.getElem?_eq_some_iff.1 h).1
  rw [dflat_len hw] at hj
  have hq : j / 32 < l.length := by omega
  refine ⟨j / 32, hq, j % 32, by omega, by omega, ?_⟩
  rw [← dflat_at hw (j / 32) hq (j % 32) (by omega), show j / 32 * 32 + j % 32 = j by omega]
  exact h
theorem Digs.wf {w : World} {v : Value} {l : List (List Int)} (h : Digs w v l) : ∀ d ∈ l, DigOk d := by
  obtain ⟨a, cap, e, hc⟩ := h
  intro d hd
  obtain ⟨j, hj, rfl⟩ := List.getElem_of_mem hd
  exact (hc j hj).1
theorem digIE3 : ∃ ie z, Try.prog.info? 24 = some ie ∧ ie.zero = some z ∧ ie.size = 32 ∧ ie.bytes = 32 ∧ z.cells.size = 32 := by
  have h : (match Try.prog.info? 24 with | some i => i.size == 32 && (i.bytes == 32 && (match i.zero with | some z => z.cells.size == 32 | none => false)) | none => false) = true := by kernel_rfl
  cases hq : Try.prog.info? 24 with
  | none => rw [hq] at h; cases h
  | some i =>
    rw [hq] at h
    simp only [Bool.and_eq_true, beq_iff_eq] at h
    obtain ⟨h1, h2, h3⟩ := h
    cases hz : i.zero with
    | none => rw [hz] at h3; cases h3
    | some z =>
      rw [hz] at h3
      exact ⟨i, z, rfl, hz, h1, h2, by simpa using h3⟩
/-- a row of digests reads -/
theorem row_digs {w : World} {N : Nat} {v : Value} {l : List (List Int)} (h : w.ownsRow N 24 32 v l.length (l.flatMap dcellsL)) (hw : ∀ d ∈ l, DigOk d) : Digs w v l := by
  rcases h.2 with ⟨rfl, h0⟩ | ⟨g, cap, cur, rfl, _, hg, hrest⟩
  · exact ⟨none, 0, by rw [h0], fun j hj => by omega⟩
  · refine ⟨_, cap, rfl, fun j hj => ⟨hw _ (List.getElem_mem hj), g, 0, rfl, ⟨_, _, hg⟩, fun i u hu => ?_⟩⟩
    have h32 := dL_len (hw _ (List.getElem_mem hj))
    have hi : i < 32 := by have := (List.getElem?_eq_some_iff.1 hu).1; omega
    have := World.ownsRow.cellAt h (j * 32 + i) (by omega)
    rw [Nat.zero_add, this, dflat_at hw j hj i hi]
    exact hu

set_option maxRecDepth 100000 in
set_option maxHeartbeats 1600000 in
theorem cloneD_any (v : Value) (l : List (List Int)) (w : World) (hv : Digs w v l) (hl : l.length ≤ 100000) :
    Calls Try.prog 26 #[v] w fun e w' => ∃ v', e = .returned v' ∧ Digs w' v' l ∧ Below w.heap.size w w' := by
  have hwf := hv.wf
  have HV := Lib.hid hv
  obtain ⟨a, cap, rfl, hat⟩ := hv
  rcases a with _ | ad
  · have hn : l = [] := by
      cases l with
      | nil => rfl
      | cons c r =>
        obtain ⟨_, b, off, e, _⟩ := hat 0 (by simp)
        cases e
    clear hat hwf
    subst hn
    have q24 : ∀ (w : World) (a : Option Addr) (n c n' c' : Nat), (binOp .eql 55 (.slice a n c) (.slice none n' c')).run Try.prog w = .ok (.bool a.isNone) w := fun w a n c n' c' => Lib.run_eql_slice_nil w _ _ a n c n' c' Try.underlying55
    go_enter Try.func26, Try.ntmps26
    go_wp2
    go_ret
    exact ⟨_, rfl, Digs.nil _, Below.refl _ _⟩
  · have HW := Lib.hid hwf
    have HNEWS : Hid (∀ W, Below w.heap.size w W → ∀ j u, (l.flatMap dcellsL)[j]? = some u → W.cell? (ad.add j) = some u) := Lib.hid (by
      intro W hB j u hju
      obtain ⟨q, hq, i, hi, rfl, hu⟩ := dflat_get hwf hju
      obtain ⟨_, b, off, e, hlt, hr⟩ := hat q hq
      cases e
      rw [Addr.add_mid]
      have := hr i u hu
      rw [show off + q * 32 + i = off + (q * 32 + i) by omega] at this
      rw [← this]
      obtain ⟨cs, fr, hg⟩ := hlt
      exact hB.cell (p := ⟨b, _, none⟩) (Array.getElem?_eq_some_iff.1 hg).1)
    have HONE : Hid (∀ u ∈ l.flatMap dcellsL, u.oneCell' = true) := Lib.hid (by
      intro u hu
      obtain ⟨c, hc, huc⟩ := List.mem_flatMap.1 hu
      unfold dcellsL at huc
      obtain ⟨n, _, rfl⟩ := List.mem_map.1 huc
      rfl)
    have HLEN := Lib.hid (dflat_len hwf)
    clear hat hwf
    obtain ⟨ie, z, hi, hz, h1, h2, h3⟩ := digIE3
    have q24 : ∀ (w : World) (a : Option Addr) (n c n' c' : Nat), (binOp .eql 55 (.slice a n c) (.slice none n' c')).run Try.prog w = .ok (.bool a.isNone) w := fun w a n c n' c' => Lib.run_eql_slice_nil w _ _ a n c n' c' Try.underlying55
    go_enter Try.func26, Try.ntmps26
    go_wp2_with (at_builtin; refine wpList_append_own _ rfl _ _ 55 rfl w.heap.size 24 ie z 32 32 Try.underlying55 hi hz h1 h2 h3 (by decide) _ 0 [] rfl (World.ownsRow_made w #[] 0 (Nat.le_refl _) (Nat.zero_le _) rfl) ad l.length cap (l.flatMap dcellsL) rfl HLEN.out (HNEWS.out _ ((Below.refl _ w).alloc (Nat.le_refl _) _)) HONE.out (by unfold maxLen; omega) (by omega) (by simp) ?_)
    intro v' w1 hown hgrow _
    go_wp2
    go_ret
    refine ⟨v', rfl, row_digs (N := w.heap.size) (by simpa using hown) HW.out, ?_⟩
    exact ((Below.refl _ w).alloc (Nat.le_refl _) _).grown hgrow (by simp) (by intro k hk; simp [Value.ownBlock] at hk; omega)

/-- in a region that only reads: a digest loaded, two compared -/
theorem still_loadD {ops : Array Oper} {o : Oper} {a : Act} {w : World} {K : Act → Prop} {E : Prop} (hw : Region.wanted o (yielded ops a.tmps) = true) (x : Operand) (ho : o.op = .load 24 x)
    (b off : Nat) (hx : a.eval x = .pointer (some ⟨b, off, none⟩)) (d : List Int) (hd : DigOk d) (hr : w.rangeAt b off (dcellsL d)) (h : K (a.put o.dst (.agg (dcells d)))) :
    if Region.wanted o (yielded ops a.tmps) = true then o.still Try.prog a w K else E := by
  rw [if_pos hw]
  unfold Oper.still execOp
  have hl : (Instr.loadAt 24 (.pointer (some ⟨b, off, none⟩))).run Try.prog w = .ok (.agg (dcells d)) w := run_loadAt_mid w b off _ (dcellsL d) _ hr Try.underlying24 rfl (by rw [digInfo, dL_len hd])
  simp only [ho, hx, Sem.run_bind, hl, Result.andThen_ok, Sem.run_pure, Oper.stillUpon_value]
  exact h
theorem still_neqD {ops : Array Oper} {o : Oper} {a : Act} {w : World} {K : Act → Prop} {E : Prop} (hw : Region.wanted o (yielded ops a.tmps) = true) (x y : Operand) (ho : o.op = .binOp .neq 24 x y 24)
    (c d : List Int) (hc : DigOk c) (hd : DigOk d) (hx : a.eval x = .agg (dcells c)) (hy : a.eval y = .agg (dcells d)) (h : K (a.put o.dst (.bool (!decide (c = d))))) :
    if Region.wanted o (yielded ops a.tmps) = true then o.still Try.prog a w K else E := by
  rw [if_pos hw]
  unfold Oper.still execOp
  simp only [ho, hx, hy, Sem.run_bind, run_eqGuard_agg w .neq 24 x y _ _ guard_dig, Result.andThen_ok, run_neq_struct, eq_dig hc.1 hc.2 hd.1 hd.2, Sem.run_pure, Oper.stillUpon_value]
  exact h

set_option maxRecDepth 100000 in
set_option maxHeartbeats 1600000 in
theorem sameD_true (v v' : Value) (l : List (List Int)) (w : World) (hv : Digs w v l) (hv' : Digs w v' l) (hl : l.length ≤ 100000) :
    Calls Try.prog 39 #[v, v'] w fun e w' => e = .returned (.bool true) ∧ Below w.heap.size w w' := by
  obtain ⟨va, vc, rfl, hat⟩ := hv
  obtain ⟨va', vc', rfl, hat'⟩ := hv'
  have HA := Lib.hid hat
  have HA' := Lib.hid hat'
  clear hat hat'
  go_enter Try.func39, Try.ntmps39
  go_wp2
  go_loopw [5] (fun jv wx => ∃ j : Nat, j ≤ l.length ∧ jv = .int .i64 j ∧ Below w.heap.size w wx) (fun jv _ => l.length - (intOf jv).toNat)
  case atStart => exact ⟨0, Nat.zero_le _, rfl, Below.refl _ _⟩
  case round =>
    obtain ⟨j, hj, rfl, hbx⟩ := hrel
    have HBX := Lib.hid hbx
    clear hbx
    by_cases hlt : j < l.length
    · obtain ⟨hdw, g, off, rfl, hgl, hc⟩ := HA.out j hlt
      obtain ⟨_, g', off', rfl, hgl', hc'⟩ := HA'.out j hlt
      have HD := Lib.hid hdw
      have HR := Lib.hid (rangeAt_below (rangeAt_below hc HBX.out) (Below.refl _ wr).drew)
      have HR' := Lib.hid (rangeAt_below (rangeAt_below hc' HBX.out) (Below.refl _ wr).drew)
      have hi1 : (0 : Int) ≤ (j : Int) := by omega
      have hi2 : (j : Int) < (l.length : Int) := by omega
      clear hc hc' hdw
      generalize l[j] = d at *
      go_wp2
      refine wp_region_still_lit (by kernel_rfl) (by kernel_rfl) ?_
      still_step
      still_step
      still_step
      refine wpStill_step (fun K hK => ?_)
      refine still_loadD rfl (.tmp 19) rfl g (off + j * 32) rfl d HD.out HR.out (hK _ ?_)
      clear hK K
      still_step
      still_step
      still_step
      refine wpStill_step (fun K hK => ?_)
      refine still_loadD rfl (.tmp 23) rfl g' (off' + j * 32) rfl d HD.out HR'.out (hK _ ?_)
      clear hK K
      refine wpStill_step (fun K hK => ?_)
      refine still_neqD rfl (.tmp 20) (.tmp 24) rfl d d HD.out HD.out rfl rfl (hK _ ?_)
      clear hK K
      refine wpStill_nil ?_
      have HBD := Lib.hid HBX.out.drew
      change Exit.then _ _ _ _ wr.drew
      rw [decide_eq_true (rfl : d = d)]
      go_wp2
      go_roundw
      case rel => exact ⟨j + 1, by omega, by go_num, HBD.out⟩
      case measure => simp [intOf]; omega
    · obtain rfl : j = l.length := by omega
      go_wp2
      go_ret
      exact ⟨ret_bool rfl, HBX.out⟩

set_option maxRecDepth 100000 in
theorem sameHit_true (c : Int) (s : ByteArray) (sev : Int) (v v' : Value) (l : List (List Int)) (w : World) (hv : Digs w v l) (hv' : Digs w v' l) (hl : l.length ≤ 100000) :
    Calls Try.prog 27 #[.agg #[.int .i64 c, .string s, .int .i64 sev, v], .agg #[.int .i64 c, .string s, .int .i64 sev, v']] w fun e w' => e = .returned (.bool true) ∧ Below w.heap.size w w' := by
  have HV := Lib.hid hv
  have HV' := Lib.hid hv'
  obtain ⟨va, vc, rfl, _⟩ := hv
  obtain ⟨va', vc', rfl, _⟩ := hv'
  go_enter Try.func27, Try.ntmps27
  go_wp2_with fail
  have hb : Below w.heap.size w ((w.alloc (.cells #[.int .i64 c, .string s, .int .i64 sev, .slice va l.length vc] 60)).alloc (.cells #[.int .i64 c, .string s, .int .i64 sev, .slice va' l.length vc'] 60)) := ((Below.refl _ w).alloc (Nat.le_refl _) _).alloc (by simp) _
  have HB := Lib.hid hb
  clear hb
  refine (sameD_true _ _ l _ (HV.out.below HB.out) (HV'.out.below HB.out) hl).mono ?_
  rintro e w' ⟨rfl, hb⟩
  have HB2 := Lib.hid (HB.out.trans (hb.mono HB.out.size))
  clear hb
  go_wp2
  go_ret
  exact ⟨ret_bool rfl, HB2.out⟩
set_option maxRecDepth 100000 in
theorem sameDecision_true (st : Int) (con : Bool) (v v' : Value) (l : List (List Int)) (w : World) (hv : Digs w v l) (hv' : Digs w v' l) (hl : l.length ≤ 100000) :
    Calls Try.prog 28 #[.agg #[.int .i64 st, v, .bool con], .agg #[.int .i64 st, v', .bool con]] w fun e w' => e = .returned (.bool true) ∧ Below w.heap.size w w' := by
  have HV := Lib.hid hv
  have HV' := Lib.hid hv'
  obtain ⟨va, vc, rfl, _⟩ := hv
  obtain ⟨va', vc', rfl, _⟩ := hv'
  go_enter Try.func28, Try.ntmps28
  go_wp2_with fail
  have hb : Below w.heap.size w ((w.alloc (.cells #[.int .i64 st, .slice va l.length vc, .bool con] 62)).alloc (.cells #[.int .i64 st, .slice va' l.length vc', .bool con] 62)) := ((Below.refl _ w).alloc (Nat.le_refl _) _).alloc (by simp) _
  have HB := Lib.hid hb
  clear hb
  refine (sameD_true _ _ l _ (HV.out.below HB.out) (HV'.out.below HB.out) hl).mono ?_
  rintro e w' ⟨rfl, hb⟩
  have HB2 := Lib.hid (HB.out.trans (hb.mono HB.out.size))
  clear hb
  go_wp2
  go_ret
  exact ⟨ret_bool rfl, HB2.out⟩
end Go.Proofs.Ytoiabbhppbghdaa
