/-
  Walk: three versions of a scheme, given or made.
-/
import Derived.Test.YtabeblbhbekjaaaGreatDoorT2
import Derived.Test.YtabeblbhbekjaaaGreatDoorR6
import Derived.Test.YtabeblbhbekjaaaGreatDoorR9
namespace Go.Proofs.YtabeblbhbekjaaaGreatDoor
open Go.RowKit

/-- a slice of numbers that came in -/
def Nums (w : World) (a : Option Addr) (m : Nat) : Prop :=
  m ≤ maxLen ∧ ∀ j, j < m → ∃ b' off x, a = some ⟨b', off, none⟩ ∧ b' < w.heap.size ∧ w.cell? ⟨b', off + j, none⟩ = some (.int .i64 x) ∧ (Lit.int .i64 x).wf = true

/-- a new tape -/
theorem Tape.made {w w' : World} {a : Option Addr} {m cap b : Nat} (h : Nums w a m) (hb : Below w.heap.size w w') (hlt : w.heap.size ≤ b) (c0 : w'.cell? ⟨b, 0, none⟩ = some (.slice a m cap)) (c1 : w'.cell? ⟨b, 1, none⟩ = some (.int .i64 0)) (hf : w'.frozen? ⟨b, 1, none⟩ = false) : Tape w' b 0 := by
  obtain ⟨hm, hx⟩ := h
  refine ⟨a, m, cap, 0, c0, c1, Nat.le_refl _, hm, hf, fun j hj => ?_⟩
  obtain ⟨b', off, x, rfl, h1, h2, h3⟩ := hx j hj
  exact ⟨b', off, x, rfl, Nat.lt_of_lt_of_le h1 hb.size, by omega, (hb.cell (p := ⟨b', off + j, none⟩) h1).trans h2, h3⟩

/-- what holds while the three versions are made: block B is the result's, B + 1 the tape, B + 2 the three strings -/
structure ThreeInv (w : World) (n : Int) (k : Nat) (wr : World) : Prop where
  below : Below w.heap.size w wr
  size : w.heap.size + 2 < wr.heap.size
  tape : Tape wr (w.heap.size + 1) k
  out : ∃ xs : Nat → V.Bs, (∀ j, j < 3 → wr.cell? ⟨w.heap.size + 2, j, none⟩ = some (.string ⟨(xs j).toArray⟩)) ∧ ∀ j, j < k → V.valid n (xs j) = true
  free : ∀ j, wr.frozen? ⟨w.heap.size + 2, j, none⟩ = false
  res : ∀ j, j < 3 → wr.cell? ⟨w.heap.size, j, none⟩ = some (.string ⟨#[]⟩)
  resfree : ∀ j, wr.frozen? ⟨w.heap.size, j, none⟩ = false

theorem cell_set (w : World) (b o b' o' : Nat) (u : Value) (h : ∃ v, w.cell? ⟨b, o, none⟩ = some v) : (w.setCell ⟨b, o, none⟩ u).cell? ⟨b', o', none⟩ = if b' = b ∧ o' = o then some u else w.cell? ⟨b', o', none⟩ := by
  obtain ⟨v, hv⟩ := h
  split
  · rename_i h; obtain ⟨rfl, rfl⟩ := h; exact World.cell?_setCell_same _ _ _ hv
  · rename_i h
    exact World.cell?_setCell_other _ _ _ _ (by intro e; injection e with e1 e2; exact h ⟨e1.symm, e2.symm⟩)

theorem Tape.set {w : World} {b k b' o : Nat} {u u0 : Value} (h : Tape w b k) (hne : b' ≠ b) (hc : w.cell? ⟨b', o, none⟩ = some u0) (hu : ∀ kk x, u0 ≠ .int kk x) : Tape (w.setCell ⟨b', o, none⟩ u) b k := by
  obtain ⟨a, m, cap, p, c0, c1, hp, hm, hf, hx⟩ := h
  have e := fun b2 o2 => cell_set w b' o b2 o2 u ⟨_, hc⟩
  refine ⟨a, m, cap, p, ?_, ?_, hp, hm, by simp only [World.frozen?_setCell]; exact hf, fun j hj => ?_⟩
  · rw [e, if_neg (fun g => hne g.1.symm)]; exact c0
  · rw [e, if_neg (fun g => hne g.1.symm)]; exact c1
  · obtain ⟨b2, off, x, rfl, h1, h2, h3, h4⟩ := hx j hj
    refine ⟨b2, off, x, rfl, by simpa [World.setCell] using h1, h2, ?_, h4⟩
    rw [e, if_neg]
    · exact h3
    · rintro ⟨rfl, rfl⟩
      rw [hc] at h3
      exact hu _ _ (Option.some.inj h3)

theorem ThreeInv.set {w W : World} {n : Int} {k : Nat} {x : V.Bs} (h : ThreeInv w n (k + 1) W) (hk : k < 3) (hx : V.valid n x = true) : ThreeInv w n (k + 1) (W.setCell ⟨w.heap.size + 2, k, none⟩ (.string ⟨x.toArray⟩)) := by
  obtain ⟨h1, h2, h3, ⟨xs, h4, h5⟩, h6, h7, h8⟩ := h
  have e := fun b2 o2 => cell_set W (w.heap.size + 2) k b2 o2 (.string ⟨x.toArray⟩) ⟨_, h4 k hk⟩
  refine ⟨h1.setCell (by simp) _, by simpa [World.setCell] using h2, h3.set (by omega) (h4 k hk) (by intro _ _ g; cases g), ⟨fun j => if j = k then x else xs j, fun j hj => ?_, fun j hj => ?_⟩, fun j => by simp only [World.frozen?_setCell]; exact h6 j, fun j hj => ?_, fun j => by simp only [World.frozen?_setCell]; exact h8 j⟩
  · rw [e]
    by_cases g : j = k
    · subst g; simp
    · rw [if_neg (fun q => g q.2)]
      simp only [if_neg g]; exact h4 j hj
  · by_cases g : j = k
    · subst g; simpa using hx
    · simp only [if_neg g]; exact h5 j hj
  · rw [e, if_neg (fun q => by omega)]; exact h7 j hj

theorem ThreeInv.made {w W W1 : World} {n : Int} {k : Nat} {x : V.Bs} (h : ThreeInv w n k W) (hk : k < 3) (hx : V.valid n x = true) (ht : Tape W1 (w.heap.size + 1) (k + 1)) (hg : W.grownBy W1 (some (w.heap.size + 1))) :
    ThreeInv w n (k + 1) (W1.setCell ⟨w.heap.size + 2, k, none⟩ (.string ⟨x.toArray⟩)) := by
  obtain ⟨h1, h2, h3, ⟨xs, h4, h5⟩, h6, h7, h8⟩ := h
  have c4 := fun j hj => hg.cell (h4 j hj) (by simp)
  have e := fun b2 o2 => cell_set W1 (w.heap.size + 2) k b2 o2 (.string ⟨x.toArray⟩) ⟨_, c4 k hk⟩
  refine ⟨(h1.trans (grown_below hg (by omega) (by omega))).setCell (by simp) _, by have := hg.size; simp [World.setCell]; omega, ht.set (by omega) (c4 k hk) (by intro _ _ g; cases g), ⟨fun j => if j = k then x else xs j, fun j hj => ?_, fun j hj => ?_⟩, fun j => ?_, fun j hj => ?_, fun j => ?_⟩
  · rw [e]
    by_cases g : j = k
    · subst g; simp
    · rw [if_neg (fun q => g q.2)]
      simp only [if_neg g]; exact c4 j hj
  · by_cases g : j = k
    · subst g; simpa using hx
    · simp only [if_neg g]; exact h5 j (by omega)
  · simp only [World.frozen?_setCell]
    rw [World.frozen?_of_block (w := W) (hg.block _ (by simp; omega) (by simp))]; exact h6 j
  · rw [e, if_neg (fun q => by omega)]; exact hg.cell (h7 j hj) (by simp)
  · simp only [World.frozen?_setCell]
    rw [World.frozen?_of_block (w := W) (hg.block _ (by simp; omega) (by simp))]; exact h8 j

theorem ThreeInv.later {w W W1 : World} {n : Int} {k : Nat} (h : ThreeInv w n k W) (hb : Below W.heap.size W W1) : ThreeInv w n k W1 := by
  obtain ⟨h1, h2, h3, ⟨xs, h4, h5⟩, h6, h7, h8⟩ := h
  have c := fun o v (g : W.cell? ⟨w.heap.size + 2, o, none⟩ = some v) => (hb.cell (p := ⟨w.heap.size + 2, o, none⟩) h2).trans g
  exact ⟨h1.trans (hb.mono h1.size), Nat.lt_of_lt_of_le h2 hb.size, h3.below hb, ⟨xs, fun j hj => c j _ (h4 j hj), h5⟩, fun j => (hb.frozen (p := ⟨w.heap.size + 2, j, none⟩) h2).trans (h6 j),
    fun j hj => (hb.cell (p := ⟨w.heap.size, j, none⟩) (by simp; omega)).trans (h7 j hj), fun j => (hb.frozen (p := ⟨w.heap.size, j, none⟩) (by simp; omega)).trans (h8 j)⟩

def ThreePost (n : Int) (w : World) (e : Ending) (w' : World) : Prop :=
  ∃ x y z : V.Bs, V.valid n x = true ∧ V.valid n y = true ∧ V.valid n z = true ∧ e = .returned (.agg #[.string ⟨x.toArray⟩, .string ⟨y.toArray⟩, .string ⟨z.toArray⟩]) ∧ Below w.heap.size w w'

set_option maxRecDepth 100000 in
set_option maxHeartbeats 1600000 in
theorem three_any (n : Int) (L : List V.Bs) (v : Value) (a : Option Addr) (m cap : Nat) (w : World) (hmx : MaxOk w) (hn : V.scheme n = true) (hL : Strs w v L) (hlen : L.length ≤ 1000) (hl : ∀ x ∈ L, x.length ≤ maxLen) (ht : Nums w a m) :
    Calls Tryz.prog 7 #[.int .i64 n, v, .slice a m cap] w (ThreePost n w) := by
  have HM := Lib.hid hmx
  have HN := Lib.hid hn
  have HL := Lib.hid hL
  have HLL := Lib.hid hl
  have HT := Lib.hid ht
  obtain ⟨va, vc, rfl, _⟩ := hL
  clear hmx hn hl ht
  go_enter Tryz.func7, Tryz.ntmps7
  go_wp2
  obtain ⟨W0, hW0⟩ : ∃ W0, W0 = ((w.alloc (.cells #[.string ⟨#[]⟩, .string ⟨#[]⟩, .string ⟨#[]⟩] 25)).alloc (.cells #[.slice a m cap, .int .i64 0] 38)).alloc (.cells #[.string ⟨#[]⟩, .string ⟨#[]⟩, .string ⟨#[]⟩] 25) := ⟨_, rfl⟩
  rw [← hW0]
  have hb0 : Below w.heap.size w W0 := by rw [hW0]; exact (((Below.refl _ w).alloc (Nat.le_refl _) _).alloc (by simp) _).alloc (by simp; omega) _
  have hce : ∀ b o, W0.cell? ⟨b, o, none⟩ = if b = w.heap.size + 2 then #[Value.string ⟨#[]⟩, .string ⟨#[]⟩, .string ⟨#[]⟩][o]? else if b = w.heap.size + 1 then #[Value.slice a m cap, .int .i64 0][o]? else if b = w.heap.size then #[Value.string ⟨#[]⟩, .string ⟨#[]⟩, .string ⟨#[]⟩][o]? else w.cell? ⟨b, o, none⟩ := fun b o => by
    rw [hW0, cell_alloc, cell_alloc, cell_alloc]; simp
  have hfe : ∀ b o, w.heap.size ≤ b → b < w.heap.size + 3 → W0.frozen? ⟨b, o, none⟩ = false := fun b o g1 g2 => by
    rw [hW0, frozen_alloc, frozen_alloc, frozen_alloc]
    simp only [World.size_alloc]
    repeat' split
    all_goals first | rfl | omega
  have hz0 : W0.heap.size = w.heap.size + 3 := by rw [hW0]; simp
  have three3 : ∀ j, j < 3 → #[Value.string ⟨#[]⟩, Value.string ⟨#[]⟩, Value.string ⟨#[]⟩][j]? = some (Value.string ⟨#[]⟩) := fun j hj => by
    have h3 : j = 0 ∨ j = 1 ∨ j = 2 := by omega
    rcases h3 with rfl | rfl | rfl <;> rfl
  have hinv : ThreeInv w n 0 W0 := by
    refine ⟨hb0, by omega, Tape.made HT.out hb0 (by omega) (by rw [hce, if_neg (by omega), if_pos rfl]; rfl) (by rw [hce, if_neg (by omega), if_pos rfl]; rfl) (hfe _ _ (by omega) (by omega)),
      ⟨fun _ => [], fun j hj => ?_, fun j hj => by omega⟩, fun j => hfe _ _ (by omega) (by omega), fun j hj => ?_, fun j => hfe _ _ (by omega) (by omega)⟩
    · rw [hce, if_pos rfl]; exact three3 j hj
    · rw [hce, if_neg (by omega), if_neg (by omega), if_pos rfl]; exact three3 j hj
  have HINV := Lib.hid hinv
  clear hce hfe hz0 hb0 hW0 three3 hinv
  go_loopw [9] (fun i wr => ∃ k : Nat, k ≤ 3 ∧ i = .int .i64 k ∧ ThreeInv w n k wr) (fun i _ => 3 - (intOf i).toNat)
  case atStart => exact ⟨0, Nat.zero_le _, rfl, HINV.out⟩
  case round =>
    obtain ⟨k, hk, rfl, hinv⟩ := hrel
    have HI := Lib.hid hinv
    clear hinv
    by_cases hlt : k < 3
    · go_wp2_with fail
      refine (version_any (w.heap.size + 1) k n _ HI.out.tape (by omega) HN.out).mono ?_
      rintro e w1 ⟨x, hx, rfl, ht1, hg1⟩
      have HI1 := Lib.hid (HI.out.made hlt hx ht1 hg1)
      have hcell : ∃ u, w1.cell? ⟨w.heap.size + 2, k, none⟩ = some (.string u) := by
        obtain ⟨xs, h4, _⟩ := HI.out.out
        exact ⟨_, hg1.cell (h4 k hlt) (by simp)⟩
      obtain ⟨u, hcell⟩ := hcell
      have hfr : w1.frozen? ⟨w.heap.size + 2, k, none⟩ = false := by
        rw [World.frozen?_of_block (w := wr) (hg1.block _ HI.out.size (by simp))]; exact HI.out.free k
      clear hx ht1 hg1
      by_cases hl2 : k < L.length
      · obtain ⟨vb, vo, rfl, hvb, hvc⟩ := HL.out.at k hl2
        have hcL : (w1.setCell ⟨w.heap.size + 2, k, none⟩ (.string ⟨x.toArray⟩)).cell? ⟨vb, vo + k, none⟩ = some (.string ⟨(L.getD k []).toArray⟩) :=
          (HI1.out.below.cell (p := ⟨vb, vo + k, none⟩) hvb).trans hvc
        have hsz := Lib.hid (HLL.out _ (show L.getD k [] ∈ L by rw [List.getD_eq_getElem?_getD, List.getElem?_eq_getElem hl2]; exact List.getElem_mem _))
        generalize L.getD k [] = y at *
        clear hvc
        rcases hv : V.valid n y with _ | _
        all_goals
          have HV := Lib.hid hv
          clear hv
          go_wp2_with fail
          refine (rvalid_any n ⟨y.toArray⟩ _ (HM.out.below HI1.out.below) hsz.out).mono ?_
          rintro e w3 ⟨rfl, hb3⟩
          simp only [arr_list, HV.out]
          have HI3 := Lib.hid (HI1.out.later hb3)
        · clear hb3
          go_wp2
          go_roundw
          case rel => exact ⟨k + 1, by omega, by go_num, HI3.out⟩
          case measure => simp [intOf]; omega
        · have hcL3 := (HI3.out.below.cell (p := ⟨vb, vo + k, none⟩) hvb).trans ((HI1.out.below.cell (p := ⟨vb, vo + k, none⟩) hvb).symm.trans hcL)
          obtain ⟨xs, h4, _⟩ := HI3.out.out
          have hst := h4 k hlt
          have hfr3 := HI3.out.free k
          have HI4 := Lib.hid (HI3.out.set hlt HV.out)
          generalize xs k = q at *
          clear hb3 hcL h4 hcell hfr
          go_wp2
          go_roundw
          case rel => exact ⟨k + 1, by omega, by go_num, HI4.out⟩
          case measure => simp [intOf]; omega
      · go_wp2
        go_roundw
        case rel => exact ⟨k + 1, by omega, by go_num, HI1.out⟩
        case measure => simp [intOf]; omega
    · obtain rfl : k = 3 := by omega
      obtain ⟨xs, h4, h5⟩ := HI.out.out
      have c0 := h4 0 (by omega)
      have c1 := h4 1 (by omega)
      have c2 := h4 2 (by omega)
      have r0 := HI.out.res 0 (by omega)
      have r1 := HI.out.res 1 (by omega)
      have r2 := HI.out.res 2 (by omega)
      have f0 := HI.out.resfree 0
      have f1 := HI.out.resfree 1
      have f2 := HI.out.resfree 2
      have V0 := Lib.hid (h5 0 (by omega))
      have V1 := Lib.hid (h5 1 (by omega))
      have V2 := Lib.hid (h5 2 (by omega))
      generalize xs 0 = x at *
      generalize xs 1 = y at *
      generalize xs 2 = z at *
      clear h4 h5
      go_wp2
      refine bodyPost_ret (v := .agg #[.string ⟨x.toArray⟩, .string ⟨y.toArray⟩, .string ⟨z.toArray⟩]) ?_ rfl ⟨x, y, z, V0.out, V1.out, V2.out, rfl, ?_⟩
      · simp [results, Tryz.results7, go_sem, r0, r1, r2]
      · exact (((HI.out.below.setCell (Nat.le_refl _) _).setCell (Nat.le_refl _) _).setCell (Nat.le_refl _) _)
end Go.Proofs.YtabeblbhbekjaaaGreatDoor
