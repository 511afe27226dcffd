/-
  Walk: the reference's Same of findings that are the same.
-/
import Derived.Test.YtoiabbhppbghdaaFC
namespace Go.Proofs.Ytoiabbhppbghdaa
open Go.RowKit

/-- a call whose guard holds, as a step of a region that draws -/
theorem step_callG {P : Program} {ops : Array Oper} {o : Oper} {a : Act} {w : World} {K : Act → World → Prop} {Q : Exit → Act → World → Prop} {E : Prop} (hw : Region.wanted o (yielded ops a.tmps) = true) (f : FuncId) (args : Array Value) {R : Ending → World → Prop}
    (he : (execOp a.eval o).run P w = .ok (.enter f args) w) (hc : Calls P f args w R) (h : ∀ e w', R e w' → ∃ v, e = .returned v ∧ K (a.put o.dst v) w') :
    if Region.wanted o (yielded ops a.tmps) = true then Oper.wp P o a w K Q else E := by
  rw [if_pos hw]
  unfold Oper.wp
  rw [he]
  refine hc.mono ?_
  intro e w' hr
  obtain ⟨v, rfl, hk⟩ := h e w' hr
  exact hk
theorem load_digR {d : List Int} (hd : DigOk d) {w : World} {b o : Nat} (h : w.rangeAt b o (dcellsL d)) : (Instr.loadAt 24 (.pointer (some ⟨b, o, none⟩))).run Try.prog w = .ok (.agg (dcells d)) w :=
  run_loadAt_mid w b o _ (dcellsL d) _ h Try.underlying24 rfl (by rw [digInfo, dL_len hd])
theorem hitInfo : (Try.prog.info? 60).map (·.size) = some 4 := by kernel_rfl
theorem decInfo : (Try.prog.info? 62).map (·.size) = some 3 := by kernel_rfl
theorem load_hitR {a b c d : Value} {w : World} {g o : Nat} (h : w.rangeAt g o [a, b, c, d]) : (Instr.loadAt 60 (.pointer (some ⟨g, o, none⟩))).run Try.prog w = .ok (.agg #[a, b, c, d]) w :=
  run_loadAt_mid w g o _ [a, b, c, d] _ h Try.underlying60 rfl (by rw [hitInfo]; rfl)
theorem load_decR {a b c : Value} {w : World} {g o : Nat} (h : w.rangeAt g o [a, b, c]) : (Instr.loadAt 62 (.pointer (some ⟨g, o, none⟩))).run Try.prog w = .ok (.agg #[a, b, c]) w :=
  run_loadAt_mid w g o _ [a, b, c] _ h Try.underlying62 rfl (by rw [decInfo]; rfl)
theorem ex_neqD {o : Oper} {ev : Operand → Value} {w : World} {x y : Operand} {d : List Int} (ho : o.op = .binOp .neq 24 x y 24) (hx : ev x = .agg (dcells d)) (hy : ev y = .agg (dcells d)) (hd : DigOk d) : (execOp ev o).run Try.prog w = .ok (.value (.bool false)) w := by
  unfold execOp
  simp only [ho, hx, hy, Sem.run_bind, run_eqGuard_agg w .neq 24 x y _ _ guard_dig, Result.andThen_ok, run_neq_struct, eq_dig hd.1 hd.2 hd.1 hd.2, Sem.run_pure]
  simp
/-- the parts of a finding in memory -/
theorem fl_parts {x : FV} (hx : DigOk x.f.inv) {w : World} {g o : Nat} (h : w.rangeAt g o (fl x)) : w.rangeAt g o (dcellsL x.f.inv) ∧ w.rangeAt g (o + 32) [.int .i64 x.f.comp, .string ⟨x.f.id.toArray⟩, .int .i64 x.f.sev, x.dv] ∧ w.rangeAt g (o + 36) [.int .i64 x.f.st, x.ev, .bool x.f.con] := by
  have h32 := dL_len hx
  have hs : ∀ i u, [Value.int .i64 x.f.comp, .string ⟨x.f.id.toArray⟩, .int .i64 x.f.sev, x.dv, .int .i64 x.f.st, x.ev, .bool x.f.con][i]? = some u → w.cell? ⟨g, o + 32 + i, none⟩ = some u := fun i u hu => by
    have := h (32 + i) u (by
      unfold fl
      rw [List.getElem?_append_right (by omega), h32, Nat.add_sub_cancel_left]
      exact hu)
    rwa [show o + (32 + i) = o + 32 + i by omega] at this
  refine ⟨fun i u hu => h i u (by unfold fl; rw [List.getElem?_append_left (List.getElem?_eq_some_iff.1 hu).1]; exact hu), fun i u hu => hs i u ?_, fun i u hu => ?_⟩
  · have hi := (List.getElem?_eq_some_iff.1 hu).1
    simp only [List.length_cons, List.length_nil] at hi
    rcases (show i = 0 ∨ i = 1 ∨ i = 2 ∨ i = 3 by omega) with rfl | rfl | rfl | rfl <;> exact hu
  · have hi := (List.getElem?_eq_some_iff.1 hu).1
    simp only [List.length_cons, List.length_nil] at hi
    have := hs (4 + i) u (by rcases (show i = 0 ∨ i = 1 ∨ i = 2 by omega) with rfl | rfl | rfl <;> exact hu)
    rwa [show o + 32 + (4 + i) = o + 36 + i by omega] at this

set_option maxRecDepth 100000 in
set_option maxHeartbeats 6400000 in
theorem sameF_true (v v' : Value) (xs ys : List FV) (w : World) (hv : Finds w v xs) (hv' : Finds w v' ys) (he : xs.map FV.f = ys.map FV.f) (hl : xs.length ≤ 100000) :
    Calls Try.prog 10 #[v, v'] w fun e w' => e = .returned (.bool true) ∧ Below w.heap.size w w' := by
  obtain ⟨va, vc, rfl, hat⟩ := hv
  obtain ⟨va', vc', rfl, hat'⟩ := hv'
  have HA := Lib.hid hat
  have HA' := Lib.hid hat'
  have hle : ys.length = xs.length := by have := congrArg List.length he; simpa using this.symm
  have HE := Lib.hid he
  have HLE := Lib.hid hle
  clear hat hat' he
  have hne : ((xs.length : Int) == (ys.length : Int)) = true := by rw [hle]; simp
  clear hle
  go_enter Try.func10, Try.ntmps10
  go_wp2
  go_loopw [5] (fun jv wx => ∃ j : Nat, j ≤ xs.length ∧ jv = .int .i64 j ∧ Below w.heap.size w wx) (fun jv _ => xs.length - (intOf jv).toNat)
  case atStart => exact ⟨0, Nat.zero_le _, rfl, Below.refl _ _⟩
  case round =>
    obtain ⟨j, hj, rfl, hbx⟩ := hrel
    have HBX := Lib.hid hbx
    clear hbx
    by_cases hlt : j < xs.length
    · have hlt' : j < ys.length := by rw [HLE.out]; exact hlt
      obtain ⟨hok, g, off, rfl, hgl, hr⟩ := HA.out j hlt
      obtain ⟨hok', g', off', rfl, hgl', hr'⟩ := HA'.out j hlt'
      have hff : xs[j].f = ys[j].f := by
        have h1 : (xs.map FV.f)[j]? = (ys.map FV.f)[j]? := by rw [HE.out]
        rw [List.getElem?_map, List.getElem?_map, List.getElem?_eq_getElem hlt, List.getElem?_eq_getElem hlt'] at h1
        simpa using h1
      have HX := Lib.hid (hok.below HBX.out)
      have HY : Hid (Digs wr ys[j].dv xs[j].f.docs ∧ Digs wr ys[j].ev xs[j].f.ddocs) := Lib.hid (by rw [hff]; exact ⟨(hok'.below HBX.out).docs, (hok'.below HBX.out).ddocs⟩)
      have HR := Lib.hid (fl_parts hok.inv (rangeAt_below hr HBX.out))
      have HR' : Hid (wr.rangeAt g' (off' + j * 39) (dcellsL xs[j].f.inv) ∧ wr.rangeAt g' (off' + j * 39 + 32) [.int .i64 xs[j].f.comp, .string ⟨xs[j].f.id.toArray⟩, .int .i64 xs[j].f.sev, ys[j].dv] ∧ wr.rangeAt g' (off' + j * 39 + 36) [.int .i64 xs[j].f.st, ys[j].ev, .bool xs[j].f.con]) := Lib.hid (by rw [hff]; exact fl_parts hok'.inv (rangeAt_below hr' HBX.out))
      have hi1 : (0 : Int) ≤ (j : Int) := by omega
      have hi2 : (j : Int) < (xs.length : Int) := by omega
      have hi3 : (j : Int) < (ys.length : Int) := by omega
      clear hok hok' hr hr' hff
      generalize xs[j] = x at *
      generalize ys[j] = y at *
      go_wp2_with fail
      refine wp_region_held (S := fun W => Below wr.heap.size wr W) (by kernel_rfl) ?_
      have hS0 : Below wr.heap.size wr wr.drew := (Below.refl _ wr).drew
      change wpAnyH _ _ _ _ _ _ _ _ (World.drew _)
      generalize wr.drew = w3 at *
      refine wpAnyH_take (i := 0) (v := .slice (some ⟨g, off, none⟩) xs.length vc) rfl (by kernel_rfl) (by kernel_rfl) (by kernel_rfl) (fun _ _ _ h => h) (Or.inl ⟨by rfl, fun W _ => by go_simp⟩) hS0 ?_
      refine wpAnyH_take (i := 1) (v := .int .i64 (j : Int)) rfl (by kernel_rfl) (by kernel_rfl) (by kernel_rfl) (fun _ _ _ h => h) (Or.inl ⟨by rfl, fun W _ => by go_simp⟩) hS0 ?_
      simp only [List.getElem_toArray, List.getElem_cons_succ, List.getElem_cons_zero, Act.put, List.setIfInBounds_toArray, List.set_cons_succ, List.set_cons_zero]
      refine wpAnyH_take (i := 2) (v := .pointer (some ⟨g, off + j * 39, none⟩)) rfl (by kernel_rfl) (by kernel_rfl) (by kernel_rfl) (fun _ _ _ h => h) (Or.inl ⟨by rfl, fun W _ => by go_simp⟩) hS0 ?_
      simp only [List.getElem_toArray, List.getElem_cons_succ, List.getElem_cons_zero, Act.put, List.setIfInBounds_toArray, List.set_cons_succ, List.set_cons_zero]
      refine wpAnyH_take (i := 3) (v := .pointer (some ⟨g, off + j * 39, none⟩)) rfl (by kernel_rfl) (by kernel_rfl) (by kernel_rfl) (fun _ _ _ h => h) (Or.inl ⟨by rfl, fun W _ => by go_simp⟩) hS0 ?_
      simp only [List.getElem_toArray, List.getElem_cons_succ, List.getElem_cons_zero, Act.put, List.setIfInBounds_toArray, List.set_cons_succ, List.set_cons_zero]
      refine wpAnyH_take (i := 4) (v := .agg (dcells x.f.inv)) rfl (by kernel_rfl) (by kernel_rfl) (by kernel_rfl) (fun _ _ _ h => h) (Or.inl ⟨by rfl, fun W hS => ex_load rfl rfl (load_digR (d := x.f.inv) HX.out.inv (rangeAt_below (HR.out.1) hS))⟩) hS0 ?_
      refine wpAnyH_take (i := 5) (v := .slice (some ⟨g', off', none⟩) ys.length vc') rfl (by kernel_rfl) (by kernel_rfl) (by kernel_rfl) (fun _ _ _ h => h) (Or.inl ⟨by rfl, fun W _ => by go_simp⟩) hS0 ?_
      refine wpAnyH_take (i := 6) (v := .int .i64 (j : Int)) rfl (by kernel_rfl) (by kernel_rfl) (by kernel_rfl) (fun _ _ _ h => h) (Or.inl ⟨by rfl, fun W _ => by go_simp⟩) hS0 ?_
      simp only [List.getElem_toArray, List.getElem_cons_succ, List.getElem_cons_zero, Act.put, List.setIfInBounds_toArray, List.set_cons_succ, List.set_cons_zero]
      refine wpAnyH_take (i := 7) (v := .pointer (some ⟨g', off' + j * 39, none⟩)) rfl (by kernel_rfl) (by kernel_rfl) (by kernel_rfl) (fun _ _ _ h => h) (Or.inl ⟨by rfl, fun W _ => by go_simp⟩) hS0 ?_
      simp only [List.getElem_toArray, List.getElem_cons_succ, List.getElem_cons_zero, Act.put, List.setIfInBounds_toArray, List.set_cons_succ, List.set_cons_zero]
      refine wpAnyH_take (i := 8) (v := .pointer (some ⟨g', off' + j * 39, none⟩)) rfl (by kernel_rfl) (by kernel_rfl) (by kernel_rfl) (fun _ _ _ h => h) (Or.inl ⟨by rfl, fun W _ => by go_simp⟩) hS0 ?_
      simp only [List.getElem_toArray, List.getElem_cons_succ, List.getElem_cons_zero, Act.put, List.setIfInBounds_toArray, List.set_cons_succ, List.set_cons_zero]
      refine wpAnyH_take (i := 9) (v := .agg (dcells x.f.inv)) rfl (by kernel_rfl) (by kernel_rfl) (by kernel_rfl) (fun _ _ _ h => h) (Or.inl ⟨by rfl, fun W hS => ex_load rfl rfl (load_digR (d := x.f.inv) HX.out.inv (rangeAt_below (HR'.out.1) hS))⟩) hS0 ?_
      simp only [List.getElem_toArray, List.getElem_cons_succ, List.getElem_cons_zero, Act.put, List.setIfInBounds_toArray, List.set_cons_succ, List.set_cons_zero]
      refine wpAnyH_take (i := 10) (v := .bool false) rfl (by kernel_rfl) (by kernel_rfl) (by kernel_rfl) (fun _ _ _ h => h) (Or.inl ⟨by rfl, fun W _ => ex_neqD rfl rfl rfl HX.out.inv⟩) hS0 ?_
      simp only [List.getElem_toArray, List.getElem_cons_succ, List.getElem_cons_zero, Act.put, List.setIfInBounds_toArray, List.set_cons_succ, List.set_cons_zero]
      refine wpAnyH_take (i := 11) (v := .bool false) rfl (by kernel_rfl) (by kernel_rfl) (by kernel_rfl) (fun _ _ _ h => h) (Or.inl ⟨by rfl, fun W _ => by go_simp⟩) hS0 ?_
      simp only [List.getElem_toArray, List.getElem_cons_succ, List.getElem_cons_zero, Act.put, List.setIfInBounds_toArray, List.set_cons_succ, List.set_cons_zero]
      refine wpAnyH_take (i := 12) (v := .slice (some ⟨g, off, none⟩) xs.length vc) rfl (by kernel_rfl) (by kernel_rfl) (by kernel_rfl) (fun _ _ _ h => h) (Or.inl ⟨by rfl, fun W _ => by go_simp⟩) hS0 ?_
      refine wpAnyH_take (i := 13) (v := .int .i64 (j : Int)) rfl (by kernel_rfl) (by kernel_rfl) (by kernel_rfl) (fun _ _ _ h => h) (Or.inl ⟨by rfl, fun W _ => by go_simp⟩) hS0 ?_
      simp only [List.getElem_toArray, List.getElem_cons_succ, List.getElem_cons_zero, Act.put, List.setIfInBounds_toArray, List.set_cons_succ, List.set_cons_zero]
      refine wpAnyH_take (i := 14) (v := .pointer (some ⟨g, off + j * 39, none⟩)) rfl (by kernel_rfl) (by kernel_rfl) (by kernel_rfl) (fun _ _ _ h => h) (Or.inl ⟨by rfl, fun W _ => by go_simp⟩) hS0 ?_
      simp only [List.getElem_toArray, List.getElem_cons_succ, List.getElem_cons_zero, Act.put, List.setIfInBounds_toArray, List.set_cons_succ, List.set_cons_zero]
      refine wpAnyH_take (i := 15) (v := .pointer (some ⟨g, off + j * 39 + 32, none⟩)) rfl (by kernel_rfl) (by kernel_rfl) (by kernel_rfl) (fun _ _ _ h => h) (Or.inl ⟨by rfl, fun W _ => by go_simp⟩) hS0 ?_
      simp only [List.getElem_toArray, List.getElem_cons_succ, List.getElem_cons_zero, Act.put, List.setIfInBounds_toArray, List.set_cons_succ, List.set_cons_zero]
      refine wpAnyH_take (i := 16) (v := .agg #[.int .i64 x.f.comp, .string ⟨x.f.id.toArray⟩, .int .i64 x.f.sev, x.dv]) rfl (by kernel_rfl) (by kernel_rfl) (by kernel_rfl) (fun _ _ _ h => h) (Or.inl ⟨by rfl, fun W hS => ex_load rfl rfl (load_hitR (rangeAt_below (HR.out.2.1) hS))⟩) hS0 ?_
      refine wpAnyH_take (i := 17) (v := .slice (some ⟨g', off', none⟩) ys.length vc') rfl (by kernel_rfl) (by kernel_rfl) (by kernel_rfl) (fun _ _ _ h => h) (Or.inl ⟨by rfl, fun W _ => by go_simp⟩) hS0 ?_
      refine wpAnyH_take (i := 18) (v := .int .i64 (j : Int)) rfl (by kernel_rfl) (by kernel_rfl) (by kernel_rfl) (fun _ _ _ h => h) (Or.inl ⟨by rfl, fun W _ => by go_simp⟩) hS0 ?_
      simp only [List.getElem_toArray, List.getElem_cons_succ, List.getElem_cons_zero, Act.put, List.setIfInBounds_toArray, List.set_cons_succ, List.set_cons_zero]
      refine wpAnyH_take (i := 19) (v := .pointer (some ⟨g', off' + j * 39, none⟩)) rfl (by kernel_rfl) (by kernel_rfl) (by kernel_rfl) (fun _ _ _ h => h) (Or.inl ⟨by rfl, fun W _ => by go_simp⟩) hS0 ?_
      simp only [List.getElem_toArray, List.getElem_cons_succ, List.getElem_cons_zero, Act.put, List.setIfInBounds_toArray, List.set_cons_succ, List.set_cons_zero]
      refine wpAnyH_take (i := 20) (v := .pointer (some ⟨g', off' + j * 39 + 32, none⟩)) rfl (by kernel_rfl) (by kernel_rfl) (by kernel_rfl) (fun _ _ _ h => h) (Or.inl ⟨by rfl, fun W _ => by go_simp⟩) hS0 ?_
      simp only [List.getElem_toArray, List.getElem_cons_succ, List.getElem_cons_zero, Act.put, List.setIfInBounds_toArray, List.set_cons_succ, List.set_cons_zero]
      refine wpAnyH_take (i := 21) (v := .agg #[.int .i64 x.f.comp, .string ⟨x.f.id.toArray⟩, .int .i64 x.f.sev, y.dv]) rfl (by kernel_rfl) (by kernel_rfl) (by kernel_rfl) (fun _ _ _ h => h) (Or.inl ⟨by rfl, fun W hS => ex_load rfl rfl (load_hitR (rangeAt_below (HR'.out.2.1) hS))⟩) hS0 ?_
      simp only [List.getElem_toArray, List.getElem_cons_succ, List.getElem_cons_zero, Act.put, List.setIfInBounds_toArray, List.set_cons_succ, List.set_cons_zero]
      refine wpAnyH_all (rs := [22]) (by kernel_rfl) (by simp) ?_
      intro i0 hi0
      obtain rfl : i0 = 22 := by simpa using hi0
      clear hi0
      refine wpOp_step (by rfl) (fun K hK => ?_)
      refine step_callG rfl _ #[.agg #[.int .i64 x.f.comp, .string ⟨x.f.id.toArray⟩, .int .i64 x.f.sev, x.dv], .agg #[.int .i64 x.f.comp, .string ⟨x.f.id.toArray⟩, .int .i64 x.f.sev, y.dv]] (by go_simp) (sameHit_true x.f.comp ⟨x.f.id.toArray⟩ x.f.sev x.dv y.dv x.f.docs w3 (HX.out.docs.below hS0) (HY.out.1.below hS0) (by have := HX.out.few; omega)) ?_
      rintro e w4 ⟨rfl, hbw4⟩
      have hSw4 := hS0.trans (hbw4.mono hS0.size)
      refine ⟨_, rfl, hK _ _ ⟨hSw4, ?_⟩⟩
      clear hK K
      simp only [List.getElem_toArray, List.getElem_cons_succ, List.getElem_cons_zero, Act.put, List.setIfInBounds_toArray, List.set_cons_succ, List.set_cons_zero]
      refine wpAnyH_take (i := 23) (v := .bool false) rfl (by kernel_rfl) (by kernel_rfl) (by kernel_rfl) (fun _ _ _ h => h) (Or.inl ⟨by rfl, fun W _ => by go_simp⟩) hSw4 ?_
      simp only [List.getElem_toArray, List.getElem_cons_succ, List.getElem_cons_zero, Act.put, List.setIfInBounds_toArray, List.set_cons_succ, List.set_cons_zero]
      refine wpAnyH_take (i := 24) (v := .bool false) rfl (by kernel_rfl) (by kernel_rfl) (by kernel_rfl) (fun _ _ _ h => h) (Or.inl ⟨by rfl, fun W _ => by go_simp⟩) hSw4 ?_
      simp only [List.getElem_toArray, List.getElem_cons_succ, List.getElem_cons_zero, Act.put, List.setIfInBounds_toArray, List.set_cons_succ, List.set_cons_zero]
      refine wpAnyH_take (i := 25) (v := .bool false) rfl (by kernel_rfl) (by kernel_rfl) (by kernel_rfl) (fun _ _ _ h => h) (Or.inl ⟨by rfl, fun W _ => by go_simp⟩) hSw4 ?_
      simp only [List.getElem_toArray, List.getElem_cons_succ, List.getElem_cons_zero, Act.put, List.setIfInBounds_toArray, List.set_cons_succ, List.set_cons_zero]
      refine wpAnyH_take (i := 26) (v := .slice (some ⟨g, off, none⟩) xs.length vc) rfl (by kernel_rfl) (by kernel_rfl) (by kernel_rfl) (fun _ _ _ h => h) (Or.inl ⟨by rfl, fun W _ => by go_simp⟩) hSw4 ?_
      refine wpAnyH_take (i := 27) (v := .int .i64 (j : Int)) rfl (by kernel_rfl) (by kernel_rfl) (by kernel_rfl) (fun _ _ _ h => h) (Or.inl ⟨by rfl, fun W _ => by go_simp⟩) hSw4 ?_
      simp only [List.getElem_toArray, List.getElem_cons_succ, List.getElem_cons_zero, Act.put, List.setIfInBounds_toArray, List.set_cons_succ, List.set_cons_zero]
      refine wpAnyH_take (i := 28) (v := .pointer (some ⟨g, off + j * 39, none⟩)) rfl (by kernel_rfl) (by kernel_rfl) (by kernel_rfl) (fun _ _ _ h => h) (Or.inl ⟨by rfl, fun W _ => by go_simp⟩) hSw4 ?_
      simp only [List.getElem_toArray, List.getElem_cons_succ, List.getElem_cons_zero, Act.put, List.setIfInBounds_toArray, List.set_cons_succ, List.set_cons_zero]
      refine wpAnyH_take (i := 29) (v := .pointer (some ⟨g, off + j * 39 + 36, none⟩)) rfl (by kernel_rfl) (by kernel_rfl) (by kernel_rfl) (fun _ _ _ h => h) (Or.inl ⟨by rfl, fun W _ => by go_simp⟩) hSw4 ?_
      simp only [List.getElem_toArray, List.getElem_cons_succ, List.getElem_cons_zero, Act.put, List.setIfInBounds_toArray, List.set_cons_succ, List.set_cons_zero]
      refine wpAnyH_take (i := 30) (v := .agg #[.int .i64 x.f.st, x.ev, .bool x.f.con]) rfl (by kernel_rfl) (by kernel_rfl) (by kernel_rfl) (fun _ _ _ h => h) (Or.inl ⟨by rfl, fun W hS => ex_load rfl rfl (load_decR (rangeAt_below (HR.out.2.2) hS))⟩) hSw4 ?_
      refine wpAnyH_take (i := 31) (v := .slice (some ⟨g', off', none⟩) ys.length vc') rfl (by kernel_rfl) (by kernel_rfl) (by kernel_rfl) (fun _ _ _ h => h) (Or.inl ⟨by rfl, fun W _ => by go_simp⟩) hSw4 ?_
      refine wpAnyH_take (i := 32) (v := .int .i64 (j : Int)) rfl (by kernel_rfl) (by kernel_rfl) (by kernel_rfl) (fun _ _ _ h => h) (Or.inl ⟨by rfl, fun W _ => by go_simp⟩) hSw4 ?_
      simp only [List.getElem_toArray, List.getElem_cons_succ, List.getElem_cons_zero, Act.put, List.setIfInBounds_toArray, List.set_cons_succ, List.set_cons_zero]
      refine wpAnyH_take (i := 33) (v := .pointer (some ⟨g', off' + j * 39, none⟩)) rfl (by kernel_rfl) (by kernel_rfl) (by kernel_rfl) (fun _ _ _ h => h) (Or.inl ⟨by rfl, fun W _ => by go_simp⟩) hSw4 ?_
      simp only [List.getElem_toArray, List.getElem_cons_succ, List.getElem_cons_zero, Act.put, List.setIfInBounds_toArray, List.set_cons_succ, List.set_cons_zero]
      refine wpAnyH_take (i := 34) (v := .pointer (some ⟨g', off' + j * 39 + 36, none⟩)) rfl (by kernel_rfl) (by kernel_rfl) (by kernel_rfl) (fun _ _ _ h => h) (Or.inl ⟨by rfl, fun W _ => by go_simp⟩) hSw4 ?_
      simp only [List.getElem_toArray, List.getElem_cons_succ, List.getElem_cons_zero, Act.put, List.setIfInBounds_toArray, List.set_cons_succ, List.set_cons_zero]
      refine wpAnyH_take (i := 35) (v := .agg #[.int .i64 x.f.st, y.ev, .bool x.f.con]) rfl (by kernel_rfl) (by kernel_rfl) (by kernel_rfl) (fun _ _ _ h => h) (Or.inl ⟨by rfl, fun W hS => ex_load rfl rfl (load_decR (rangeAt_below (HR'.out.2.2) hS))⟩) hSw4 ?_
      simp only [List.getElem_toArray, List.getElem_cons_succ, List.getElem_cons_zero, Act.put, List.setIfInBounds_toArray, List.set_cons_succ, List.set_cons_zero]
      refine wpAnyH_all (rs := [36]) (by kernel_rfl) (by simp) ?_
      intro i0 hi0
      obtain rfl : i0 = 36 := by simpa using hi0
      clear hi0
      refine wpOp_step (by rfl) (fun K hK => ?_)
      refine step_callG rfl _ #[.agg #[.int .i64 x.f.st, x.ev, .bool x.f.con], .agg #[.int .i64 x.f.st, y.ev, .bool x.f.con]] (by go_simp) (sameDecision_true x.f.st x.f.con x.ev y.ev x.f.ddocs w4 (HX.out.ddocs.below hSw4) (HY.out.2.below hSw4) (by have := HX.out.dfew; omega)) ?_
      rintro e w5 ⟨rfl, hbw5⟩
      have hSw5 := hSw4.trans (hbw5.mono hSw4.size)
      refine ⟨_, rfl, hK _ _ ⟨hSw5, ?_⟩⟩
      clear hK K
      simp only [List.getElem_toArray, List.getElem_cons_succ, List.getElem_cons_zero, Act.put, List.setIfInBounds_toArray, List.set_cons_succ, List.set_cons_zero]
      refine wpAnyH_take (i := 37) (v := .bool false) rfl (by kernel_rfl) (by kernel_rfl) (by kernel_rfl) (fun _ _ _ h => h) (Or.inl ⟨by rfl, fun W _ => by go_simp⟩) hSw5 ?_
      simp only [List.getElem_toArray, List.getElem_cons_succ, List.getElem_cons_zero, Act.put, List.setIfInBounds_toArray, List.set_cons_succ, List.set_cons_zero]
      refine wpAnyH_take (i := 38) (v := .bool false) rfl (by kernel_rfl) (by kernel_rfl) (by kernel_rfl) (fun _ _ _ h => h) (Or.inl ⟨by rfl, fun W _ => by go_simp⟩) hSw5 ?_
      refine wpAnyH_done (by kernel_rfl) ?_ _
      simp only [List.getElem_toArray, List.getElem_cons_succ, List.getElem_cons_zero, Act.put, List.setIfInBounds_toArray, List.set_cons_succ, List.set_cons_zero]
      have HBF := Lib.hid (HBX.out.trans (hSw5.mono HBX.out.size))
      go_wp2
      go_roundw
      case rel => exact ⟨j + 1, by omega, by go_num, HBF.out⟩
      case measure => simp [intOf]; omega
    · obtain rfl : j = xs.length := by omega
      go_wp2
      go_ret
      exact ⟨ret_bool rfl, HBX.out⟩
end Go.Proofs.Ytoiabbhppbghdaa
