/-
  Walk: Parse of package ranges.
  Walk: Parse of the reference of range sets.
-/
import Derived.Test.YtpjjkbdkgaehkaaGreatDoorNE
import Derived.Outline
import Derived.Deep.RegionHeld3
namespace Go.Proofs.YtpjjkbdkgaehkaaGreatDoor
open Go.RowKit

/-- the two cells of a set in a block of its own -/
theorem set_cells {W : World} {X : Nat} {n : Int} {p : Option Addr} {m q : Nat} (h : W.heap[X]? = some (.cells #[.int .i64 n, .slice p m q] 39 (0, 0))) : W.cell? ⟨X, 0, none⟩ = some (.int .i64 n) ∧ W.cell? ⟨X, 1, none⟩ = some (.slice p m q) :=
  ⟨Lib.cell_of_heap h 0, Lib.cell_of_heap h 1⟩

end Go.Proofs.YtpjjkbdkgaehkaaGreatDoor
namespace Go.Proofs.YtpjjkbdkgaehkaaGreatDoor
open Go.RowKit

theorem Itvs.set2 {w : World} {u : Value} {l : List V.Itv} {b : Nat} {x y : Value} (h : Itvs w u l) (hs : ∀ c, u.ownBlock = some c → c ≠ b) : Itvs ((w.setCell ⟨b, 0, none⟩ x).setCell ⟨b, 1, none⟩ y) u l := by
  have g : ∀ (W : World) (o : Nat) (z : Value), W.grownBy (W.setCell ⟨b, o, none⟩ z) (some b) := fun W o z => ⟨rfl, rfl, rfl, by simp [World.setCell], fun k _ hk => Below.heap_setCell _ _ _ _ (fun e => hk (by rw [e]))⟩
  exact (h.grown (g _ _ _) (fun _ c hc e => hs c hc (Option.some.inj e).symm)).grown (g _ _ _) (fun _ c hc e => hs c hc (Option.some.inj e).symm)
theorem below_set2 {w w5 : World} (h : Below w.heap.size w w5) (a b : Value) : Below w.heap.size w ((w5.setCell ⟨w.heap.size, 0, none⟩ a).setCell ⟨w.heap.size, 1, none⟩ b) := (h.setCell (Nat.le_refl _) _).setCell (Nat.le_refl _) _
theorem newd0 (w : World) (a b : Value) (t : TypeId) : (w.drew.alloc (.cells #[a, b] t)).cell? ⟨w.heap.size, 0, none⟩ = some a := by simp [cell_alloc]
theorem newd1 (w : World) (a b : Value) (t : TypeId) : (w.drew.alloc (.cells #[a, b] t)).cell? ⟨w.heap.size, 1, none⟩ = some b := by simp [cell_alloc]
theorem newdz (w : World) (a b : Value) (t : TypeId) : w.heap.size < (w.drew.alloc (.cells #[a, b] t)).heap.size := by simp
theorem newdf (w : World) (a b : Value) (t : TypeId) (i : Nat) : (w.drew.alloc (.cells #[a, b] t)).frozen? ⟨w.heap.size, i, none⟩ = false := by simp [frozen_alloc]
theorem newe0 (w : World) (a b : Value) (t : TypeId) : (w.alloc (.cells #[a, b] t)).drew.cell? ⟨w.heap.size, 0, none⟩ = some a := by simp [cell_alloc]
theorem newe1 (w : World) (a b : Value) (t : TypeId) : (w.alloc (.cells #[a, b] t)).drew.cell? ⟨w.heap.size, 1, none⟩ = some b := by simp [cell_alloc]
theorem newez (w : World) (a b : Value) (t : TypeId) : w.heap.size < (w.alloc (.cells #[a, b] t)).drew.heap.size := by simp
theorem newef (w : World) (a b : Value) (t : TypeId) (i : Nat) : (w.alloc (.cells #[a, b] t)).drew.frozen? ⟨w.heap.size, i, none⟩ = false := by simp [frozen_alloc]
set_option maxRecDepth 100000 in
set_option maxHeartbeats 12800000 in
theorem rrParse_any (n : Int) (s : V.Bs) (w : World) (hm : MaxOk w) (hs : s.length ≤ maxLen) :
    Calls Tryz.prog 13 #[.int .i64 n, .string ⟨s.toArray⟩] w (SetPost (V.parP n s) w) := by
  have HM := Lib.hid hm
  have hsz : (ByteArray.mk s.toArray).size = s.length := by simp [ByteArray.size]
  have HSD : Hid ((ByteArray.mk s.toArray).data.toList = s) := Lib.hid rfl
  have hb0 : Below w.heap.size w (w.alloc (.cells #[.int .i64 0, .slice none 0 0] 39)) := (Below.refl _ w).alloc (Nat.le_refl _) _
  have K0 : Hid ((w.alloc (.cells #[.int .i64 0, .slice none 0 0] 39)).heap[w.heap.size]? = some (.cells #[.int .i64 0, .slice none 0 0] 39 (0, 0))) := Lib.hid (by rw [heap_alloc, if_pos rfl])
  have HB0 := Lib.hid hb0
  have HZ0 : Hid ((w.alloc (.cells #[.int .i64 0, .slice none 0 0] 39)).heap.size = w.heap.size + 1) := Lib.hid (by simp)
  unfold maxLen at hs
  clear hb0 hm
  generalize (ByteArray.mk s.toArray) = S at *
  go_enter Tryz.func13, Tryz.ntmps13
  go_wp2_with fail
  generalize w.alloc (.cells #[.int .i64 0, .slice none 0 0] 39) = w0 at *
  refine (rscheme_any n w0).mono ?_
  rintro e w' ⟨rfl, rfl⟩
  rcases hsc : V.scheme n with _ | _
  · have HR := Lib.hid (V.parP_scheme (s := s) hsc)
    clear hsc
    go_wp2_with (first | (refine wl_putRow rfl 39 _ _ rfl w.heap.size #[.int .i64 0, .slice none 0 0] _ K0.out rfl #[.int .i64 0, .slice none 0 0] rfl rfl (by kernel_rfl) (setC_all _ _ _ _) ?_; intro W2 hp2; have z0 : W2.cell? ⟨w.heap.size, 0, none⟩ = some (.int .i64 0) := Lib.cell_of_heap hp2.here 0; have z1 : W2.cell? ⟨w.heap.size, 1, none⟩ = some (.slice none 0 0) := Lib.cell_of_heap hp2.here 1) | fail)
    have HBF := Lib.hid (hp2.below HB0.out (Nat.le_refl _))
    clear hp2
    exact bodyPost_ret (v := .tuple #[.agg #[.int .i64 0, .slice none 0 0], .int .i64 14]) (by simp [results, Tryz.results13, go_sem, z0, z1]) rfl (by rw [HR.out]; exact SetPost.zero HBF.out _)
  · have HSC := Lib.hid hsc
    clear hsc
    by_cases hlong : s.length ≤ 8192
    · have HL := Lib.hid hlong
      have hq : ¬ 8192 < S.size := by omega
      have hq2 : ¬ (8192 : Int) < (S.size : Int) := by omega
      have HS : Hid (S.size < 4294967281) := Lib.hid (by omega)
      have HPL : Hid (∀ x ∈ Lib.split s V.orT, x.length ≤ 100000) := Lib.hid (fun x hx => by
        have := split_mem V.orT _ s x hx
        omega)
      have HLL : Hid ((Lib.split s V.orT).length ≤ 10000) := Lib.hid (by have := splitor_len s; omega)
      have HAN : Hid (V.altsP n (Lib.split s V.orT) = none → V.parP n s = (0, [], 2)) := Lib.hid (fun h => V.parP_alts HSC.out HL.out h)
      have HUN : Hid (∀ xs, V.altsP n (Lib.split s V.orT) = some xs → V.unionGo n [] xs = none → V.parP n s = (0, [], 3)) := Lib.hid (fun xs h g => V.parP_union HSC.out HL.out h g)
      have HUS : Hid (∀ xs l, V.altsP n (Lib.split s V.orT) = some xs → V.unionGo n [] xs = some l → V.parP n s = (n, l, 0)) := Lib.hid (fun xs l h g => V.parP_ok HSC.out HL.out h g)
      clear hlong hs hsz
      go_wp2_with fail
      refine (splitor_any S w0 (HM.out.below HB0.out) HS.out).mono ?_
      rintro e W0 ⟨rfl, hW0⟩
      rw [HSD.out] at hW0 ⊢
      have hb1 : Below w0.heap.size w0 W0 := by rw [hW0]; exact (Below.refl _ _).alloc (Nat.le_refl _) _
      have HB1 := Lib.hid (HB0.out.trans (hb1.mono HB0.out.size))
      have K1 := Lib.hid (keep4 hb1 K0.out)
      have hz0 : w0.heap.size = w.heap.size + 1 := HZ0.out
      have HTX : Hid (∀ j (h : j < (Lib.split s V.orT).length), W0.cell? ⟨w.heap.size + 1, j, none⟩ = some (.string ⟨(Lib.split s V.orT)[j].toArray⟩)) := Lib.hid (fun j hj => by
        rw [hW0, ← hz0, World.cell?_alloc_new]; exact strCells_at _ j hj)
      have HZ1 : Hid (W0.heap.size = w.heap.size + 2) := Lib.hid (by rw [hW0]; simp; omega)
      clear hb1 hW0
      rw [hz0]
      clear hz0
      have hll : (Lib.split s V.orT).length ≤ 10000 := HLL.out
      have HA0 := Lib.hid (V.altsTo_zero n (Lib.split s V.orT))
      generalize Lib.split s V.orT = P at *
      go_wp2_with fail
      go_loopw [7, 8] (fun v iv wx => ∃ (k : Nat) (us : List Sl) (xs : List (List V.Itv)), k ≤ P.length ∧ iv = .int .i64 k ∧ us.length = k ∧ V.altsTo n P k xs ∧ SetRow n W0.heap.size wx v us xs ∧ Below W0.heap.size W0 wx) (fun _ iv _ => P.length - (intOf iv).toNat)
      case atStart => exact ⟨0, [], [], Nat.zero_le _, rfl, rfl, HA0.out, SetRow.nil _ _ _, Below.refl _ _⟩
      case round =>
        obtain ⟨k, us, xs, hk, rfl, hku, hto, hrow, hbx⟩ := hrel
        have HTO := Lib.hid hto
        have HROW := Lib.hid hrow
        have HKU := Lib.hid hku
        have HBX := Lib.hid hbx
        have HBF := Lib.hid (HB1.out.trans (hbx.mono HB1.out.size))
        have KR := Lib.hid (keep4 (hbx.mono (Nat.le_refl _)) K1.out)
        clear hto hrow hku hbx
        by_cases hlt : k < P.length
        · have hc := below_keep HBX.out (HTX.out k hlt)
          have hi1 : (0 : Int) ≤ (k : Int) := by omega
          have hi2 : (k : Int) < (P.length : Int) := by omega
          have HLX := Lib.hid (HPL.out _ (List.getElem_mem hlt))
          have HST := Lib.hid (fun (y : List V.Itv) hy => V.altsTo_step (x := y) HTO.out hlt hy)
          have HNO := Lib.hid (fun hy => V.altsTo_none HTO.out hlt hy)
          generalize P[k] = x at *
          go_wp2_with fail
          refine (rrAlternative_any n x wr (HM.out.below HBF.out) HSC.out HLX.out).mono ?_
          rintro e w2 ⟨m2, u, l, b, rfl, hor, hu, how, hb2⟩
          obtain ⟨p, q, rfl⟩ := hu.slice
          have HOR := Lib.hid hor
          have HU := Lib.hid hu
          have HOW := Lib.hid how
          have HB2 := Lib.hid hb2
          have KR2 := Lib.hid (keep4 hb2 KR.out)
          clear hor hu how hb2 hc
          unfold setV
          have HBY := Lib.hid ((Below.refl w2.heap.size w2).alloc (Nat.le_refl _) (.cells #[.int .i64 m2, .slice p l.length q] 39))
          rcases b with _ | _
          · have HR : Hid (V.parP n s = (0, [], 2)) := Lib.hid (HAN.out (HNO.out (by
              rcases HOR.out with ⟨_, h⟩ | ⟨h, _⟩
              · exact h
              · cases h)))
            go_wp2_with (first | (refine wl_putRow rfl 39 _ _ rfl w.heap.size #[.int .i64 0, .slice none 0 0] _ (keep4 HBY.out KR2.out) rfl #[.int .i64 0, .slice none 0 0] rfl rfl (by kernel_rfl) (setC_all _ _ _ _) ?_; intro W5 hp5; have z0 : W5.cell? ⟨w.heap.size, 0, none⟩ = some (.int .i64 0) := Lib.cell_of_heap hp5.here 0; have z1 : W5.cell? ⟨w.heap.size, 1, none⟩ = some (.slice none 0 0) := Lib.cell_of_heap hp5.here 1) | fail)
            have HB5 := Lib.hid (hp5.below (HBF.out.trans ((HB2.out.trans (HBY.out.mono HB2.out.size)).mono HBF.out.size)) (Nat.le_refl _))
            clear hp5
            exact bodyPost_ret (v := .tuple #[.agg #[.int .i64 0, .slice none 0 0], .int .i64 2]) (by simp [results, Tryz.results13, go_sem, z0, z1]) rfl (by rw [HR.out]; exact SetPost.zero HB5.out _)
          · have hor2 : m2 = n ∧ V.altP n x = some l := by
              rcases HOR.out with ⟨h, _⟩ | ⟨_, h1, h2⟩
              · cases h
              · exact ⟨h1, h2⟩
            obtain ⟨rfl, hal⟩ := hor2
            have HAL := Lib.hid hal
            have hbZ : Below w2.heap.size w2 ((w2.alloc (.cells #[.int .i64 m2, .slice p l.length q] 39)).alloc (.cells #[.int .i64 m2, .slice p l.length q] 39)) := ((Below.refl _ _).alloc (Nat.le_refl _) _).alloc (by simp) _
            have HBZ := Lib.hid (HB2.out.trans (hbZ.mono HB2.out.size))
            have HUZ := Lib.hid (HU.out.below hbZ)
            have HRZ := Lib.hid (HROW.out.later HBZ.out)
            have HKL : Hid (us.length ≤ 10000) := Lib.hid (by have := HKU.out; omega)
            have HSEP : Hid (l ≠ [] → ∀ c, (Value.slice p l.length q).ownBlock = some c → ∀ v, SetRow m2 W0.heap.size wr v us xs → v.ownBlock ≠ some c) := Lib.hid (fun _ c hc v hv e => by
              have h1 := HOW.out c hc
              have h2 := GRow.lt hv.row c e
              omega)
            clear hal hbZ
            go_wp2_with (first | (refine wl_appendGA (slE_len m2) (by decide) (slE_one m2) setInfo (by decide) rfl _ _ 75 rfl Tryz.underlying75 W0.heap.size _ us rfl HRZ.out.row (w2.heap.size + 1) ⟨p, l.length, q⟩ rfl (fun j u hj => by rw [cell_alloc]; simpa [slE, Sl.v] using hj) (by have := HKL.out; omega) (by have := HBX.out.size; have := HBZ.out.size; omega) ?_; intro v3 W3 hr3 hg3 ho3) | fail)
            have HR3 := Lib.hid (HRZ.out.add (u := ⟨p, l.length, q⟩) hr3 hg3 ho3 HUZ.out (fun hl c hc => HSEP.out hl c hc _ HROW.out))
            have HB3 : Hid (Below W0.heap.size W0 W3) := Lib.hid ((HBX.out.trans (HBZ.out.mono HBX.out.size)).trans ⟨hg3.os, hg3.tape, hg3.output, hg3.size, fun i hi => hg3.block i (by have := HBX.out.size; have := HBZ.out.size; omega) (fun e => by have := GRow.block HRZ.out.row i e.symm; omega)⟩)
            have HT3 := Lib.hid (HST.out l HAL.out)
            clear hr3 hg3 ho3
            go_wp2_with fail
            go_roundw
            case rel => exact ⟨k + 1, _, _, by omega, by go_num, by rw [List.length_append, HKU.out]; rfl, HT3.out, HR3.out, HB3.out⟩
            case measure => simp [intOf]; omega
        · obtain rfl : k = P.length := by omega
          have HAX := Lib.hid (V.altsTo_end HTO.out)
          have HONE := Lib.hid (V.altsP_one HSC.out HAX.out).2
          have HUX := Lib.hid (fun h => HUN.out xs HAX.out h)
          have HUY := Lib.hid (fun l h => HUS.out xs l HAX.out h)
          have HXL : Hid (us.length = xs.length) := Lib.hid HROW.out.len
          obtain ⟨va, vc, rfl⟩ := GRow.slice HROW.out.row
          obtain ⟨wo, rfl⟩ : ∃ wo : World, wo = wr := ⟨_, rfl⟩
          have hulen : us.length ≤ 10000 := by have := HKU.out; omega
          have HX0 : Hid ((wo.alloc (.cells #[.int .i64 n, .slice none 0 0] 39)).heap[wo.heap.size]? = some (.cells #[.int .i64 n, .slice none 0 0] 39 (0, 0))) := Lib.hid (by rw [heap_alloc, if_pos rfl])
          have HBX0 := Lib.hid ((Below.refl wo.heap.size wo).alloc (Nat.le_refl _) (.cells #[.int .i64 n, .slice none 0 0] 39))
          have HZB : Hid (w.heap.size < wo.heap.size) := Lib.hid ((Array.getElem?_eq_some_iff.1 KR.out).1)
          go_wp2_with fail
          go_loopw [12] (fun iv wx => ∃ (k : Nat) (acc : List V.Itv) (u : Value), k ≤ xs.length ∧ iv = .int .i64 k ∧ V.unionGo n [] xs = V.unionGo n acc (xs.drop k) ∧ V.Ok n acc ∧ wx.heap[wo.heap.size]? = some (.cells #[.int .i64 n, u] 39 (0, 0)) ∧ Itvs wx u acc ∧ (∀ c, u.ownBlock = some c → wo.heap.size < c) ∧ Below wo.heap.size wo wx) (fun iv _ => us.length - (intOf iv).toNat)
          case atStart => exact ⟨0, [], _, Nat.zero_le _, rfl, rfl, V.ok_nil HSC.out, HX0.out, Itvs.nil _, (fun c hc => by cases hc), HBX0.out⟩
          case round =>
            obtain ⟨k, acc, u, hk, rfl, heq, hok, hbox, hset, hown, hby⟩ := hrel
            obtain ⟨p, q, rfl⟩ := hset.slice
            have HE := Lib.hid heq
            have HOK := Lib.hid hok
            have HBOX := Lib.hid hbox
            have HSET := Lib.hid hset
            have HOWN := Lib.hid hown
            have HBY := Lib.hid hby
            obtain ⟨x0, x1⟩ := set_cells hbox
            have HBYW := Lib.hid (HBF.out.trans (hby.mono HBF.out.size))
            have KR1 := Lib.hid (keep4 hby KR.out)
            have HZR : Hid (wo.heap.size < wr.heap.size) := Lib.hid ((Array.getElem?_eq_some_iff.1 hbox).1)
            clear heq hok hbox hset hown
            by_cases hlt : k < xs.length
            · have hlu : k < us.length := by have := HXL.out; omega
              have hrow := HROW.out.later hby
              obtain ⟨g, cap, e, _, _, hcell⟩ := GRow.at (slE_len n) hrow.row k hlu
              cases e
              have c0 : wr.cell? ⟨g, k * 2, none⟩ = some (.int .i64 n) := hcell 0 _ rfl
              have c1 : wr.cell? ⟨g, k * 2 + 1, none⟩ = some us[k].v := hcell 1 _ rfl
              have HIT := (hrow.each k hlu hlt).1
              have HON := Lib.hid (HONE.out _ (List.getElem_mem hlt))
              have HNX := Lib.hid (V.union_next (n := n) (acc := acc) hlt)
              have hi1 : (0 : Int) ≤ (k : Int) := by omega
              have hi2 : (k : Int) < (us.length : Int) := by omega
              clear hrow hcell hby
              generalize us[k].v = uv at *
              generalize xs[k] = y at *
              have HITV := Lib.hid HIT
              obtain ⟨p2, q2, rfl⟩ := HIT.slice
              clear HIT
              have HCH := Lib.hid (V.chk_of HOK.out HON.out.ok)
              have HOPF : Hid (V.opP V.orF n acc n y = if V.chkP n acc n y = 0 then V.limP n (V.opL n V.orF acc y) else (0, [], V.chkP n acc n y)) := Lib.hid rfl
              have HLA : Hid (acc.length ≤ maxLen) := Lib.hid (by have := HOK.out.len; unfold maxLen; omega)
              have HLY : Hid (y.length ≤ maxLen) := Lib.hid (by have := HON.out.one; unfold maxLen; omega)
              by_cases h32 : (V.opL n V.orF acc y).length ≤ 32
              · have HOP : Hid (V.opP V.orF n acc n y = (n, V.opL n V.orF acc y, 0)) := Lib.hid (by rw [HOPF.out, if_pos HCH.out]; unfold V.limP; rw [if_pos h32])
                have HOK5 := Lib.hid (V.opL_ok V.orF HOK.out HON.out.ok h32)
                have HEQ : Hid (V.unionGo n [] xs = V.unionGo n (V.opL n V.orF acc y) (xs.drop (k + 1))) := Lib.hid (by rw [HE.out, HNX.out, if_pos h32])
                clear h32
                go_wp2_with fail
                go_region_held3 (fun W' => Below wr.heap.size wr W' ∧ W'.cell? ⟨wo.heap.size, 0, none⟩ = some (.int .i64 n) ∧ W'.cell? ⟨wo.heap.size, 1, none⟩ = some (.slice p acc.length q) ∧ W'.cell? ⟨g, k * 2, none⟩ = some (.int .i64 n) ∧ W'.cell? ⟨g, k * 2 + 1, none⟩ = some (.slice p2 y.length q2))
                  (first
                    | (go_split_ands; exact ⟨Below.trans (by assumption) (hb5.mono (Below.size (by assumption))), below_keep hb5 (by assumption), below_keep hb5 (by assumption), below_keep hb5 (by assumption), below_keep hb5 (by assumption)⟩)
                    | (exact ⟨(Below.refl _ _).drew, x0, x1, c0, c1⟩)
                    | (exact ⟨below_set2 hQ5 _ _, below_keep (below_set2 hQ5 _ _) x0, below_keep (below_set2 hQ5 _ _) x1, below_keep (below_set2 hQ5 _ _) c0, below_keep (below_set2 hQ5 _ _) c1⟩)
                    | (exact (fun hz : Below w5.heap.size w5 _ => ⟨hQ5.trans (hz.mono hQ5.size), below_keep hz e0, below_keep hz e1, below_keep hz e2, below_keep hz e3⟩) ((Below.refl _ _).alloc (Nat.le_refl _) _))
                    | (go_split_ands; refine ⟨Below.alloc (by assumption) (Below.size (by assumption)) _, ?_, ?_, ?_, ?_⟩ <;> go_keep)
                    | (go_split_ands; refine ⟨Below.setCell (Below.setCell (by assumption) (Nat.le_refl _) _) (Nat.le_refl _) _, ?_, ?_, ?_, ?_⟩ <;> go_keep)
                    | go_keep)
                  (first | (go_at_call 41; refine (rrUnion_any n n (.slice p acc.length q) (.slice p2 y.length q2) acc y _ (HM.out.below (HBYW.out.trans (Below.mono (B := wr.heap.size) (by first | assumption | exact And.left (by assumption)) HBYW.out.size))) (HSET.out.below (by first | assumption | exact And.left (by assumption))) (HITV.out.below (by first | assumption | exact And.left (by assumption))) (lens_ok HOK.out) (lens_ok HON.out.ok) HLA.out HLY.out).mono ?_; rintro e w5 ⟨u5, rfl, hu5, how5, hb5⟩; rw [HOP.out] at hu5 ⊢; simp only at hu5 ⊢; obtain ⟨p5, q5, rfl⟩ := hu5.slice; unfold setV; have hQ5 : Below wr.heap.size wr w5 := Below.trans (by first | assumption | exact And.left (by assumption)) (hb5.mono (Below.size (B := wr.heap.size) (w := wr) (by first | assumption | exact And.left (by assumption)))); have e0 := below_keep hQ5 x0; have e1 := below_keep hQ5 x1; have e2 := below_keep hQ5 c0; have e3 := below_keep hQ5 c1; (first | (have q0 : w5.cell? ⟨wr.heap.size, 0, none⟩ = some (.int .i64 0) := below_keep hb5 (newd0 wr _ _ _); have q1 : w5.cell? ⟨wr.heap.size, 1, none⟩ = some (.slice none 0 0) := below_keep hb5 (newd1 wr _ _ _); have r0 : w5.frozen? ⟨wr.heap.size, 0, none⟩ = false := (hb5.frozen (p := ⟨wr.heap.size, 0, none⟩) (newdz wr _ _ _)).trans (newdf wr _ _ _ 0); have r1 : w5.frozen? ⟨wr.heap.size, 1, none⟩ = false := (hb5.frozen (p := ⟨wr.heap.size, 1, none⟩) (newdz wr _ _ _)).trans (newdf wr _ _ _ 1)) | (have q0 : w5.cell? ⟨wr.heap.size, 0, none⟩ = some (.int .i64 0) := below_keep hb5 (newe0 wr _ _ _); have q1 : w5.cell? ⟨wr.heap.size, 1, none⟩ = some (.slice none 0 0) := below_keep hb5 (newe1 wr _ _ _); have r0 : w5.frozen? ⟨wr.heap.size, 0, none⟩ = false := (hb5.frozen (p := ⟨wr.heap.size, 0, none⟩) (newez wr _ _ _)).trans (newef wr _ _ _ 0); have r1 : w5.frozen? ⟨wr.heap.size, 1, none⟩ = false := (hb5.frozen (p := ⟨wr.heap.size, 1, none⟩) (newez wr _ _ _)).trans (newef wr _ _ _ 1)) | skip)))
                · rename_i hS
                  have HBS := Lib.hid (And.left hS)
                  have HIV := Lib.hid (Itvs.below hu5 ((Below.refl w5.heap.size w5).alloc (Nat.le_refl _) (.cells #[.int .i64 n, .slice p5 (V.opL n V.orF acc y).length q5] 39)))
                  have HOW5 := Lib.hid (fun c hc => by have h1 := how5 c hc; have h3 := HZR.out; simp at h1; exact (show wo.heap.size < c by omega))
                  clear hS hb5 hQ5 e0 e1 e2 e3 hu5 how5 x0 x1 c0 c1
                  go_wp2_with (first | (refine wl_putRow rfl 39 _ _ rfl wo.heap.size _ _ (keep4 HBS.out HBOX.out) rfl #[.int .i64 n, .slice p5 (V.opL n V.orF acc y).length q5] rfl rfl (by kernel_rfl) (setC_all _ _ _ _) ?_; intro W6 hp6) | fail)
                  have H6 := Lib.hid hp6.here
                  have HI6 := Lib.hid (hp6.itvs HIV.out (fun c hc => by have := HOW5.out c hc; omega))
                  have HB6 := Lib.hid (hp6.below (HBY.out.trans (HBS.out.mono HBY.out.size)) (Nat.le_refl _))
                  clear hp6
                  go_roundw
                  case rel => exact ⟨k + 1, _, _, by omega, by go_num, HEQ.out, HOK5.out, H6.out, HI6.out, HOW5.out, HB6.out⟩
                  case measure => simp [intOf]; omega
                · rename_i hS
                  have HBS := Lib.hid (And.left hS)
                  have HIV := Lib.hid (Itvs.set2 (b := wr.heap.size) (x := .int .i64 n) (y := .slice p5 (V.opL n V.orF acc y).length q5) hu5 (fun c hc => by have h1 := how5 c hc; simp at h1; omega))
                  have HOW5 := Lib.hid (fun c hc => by have h1 := how5 c hc; have h3 := HZR.out; simp at h1; exact (show wo.heap.size < c by omega))
                  clear hS hb5 hQ5 e0 e1 e2 e3 hu5 how5 x0 x1 c0 c1
                  go_wp2_with (first | (refine wl_putRow rfl 39 _ _ rfl wo.heap.size _ _ (keep4 HBS.out HBOX.out) rfl #[.int .i64 n, .slice p5 (V.opL n V.orF acc y).length q5] rfl rfl (by kernel_rfl) (setC_all _ _ _ _) ?_; intro W6 hp6) | fail)
                  have H6 := Lib.hid hp6.here
                  have HI6 := Lib.hid (hp6.itvs HIV.out (fun c hc => by have := HOW5.out c hc; omega))
                  have HB6 := Lib.hid (hp6.below (HBY.out.trans (HBS.out.mono HBY.out.size)) (Nat.le_refl _))
                  clear hp6
                  go_roundw
                  case rel => exact ⟨k + 1, _, _, by omega, by go_num, HEQ.out, HOK5.out, H6.out, HI6.out, HOW5.out, HB6.out⟩
                  case measure => simp [intOf]; omega
              · have HOP : Hid (V.opP V.orF n acc n y = (0, [], 3)) := Lib.hid (by rw [HOPF.out, if_pos HCH.out]; unfold V.limP; rw [if_neg h32])
                have HR : Hid (V.parP n s = (0, [], 3)) := Lib.hid (HUX.out (by rw [HE.out, HNX.out, if_neg h32]))
                clear h32
                go_wp2_with fail
                go_region_held3 (fun W' => Below wr.heap.size wr W' ∧ W'.cell? ⟨wo.heap.size, 0, none⟩ = some (.int .i64 n) ∧ W'.cell? ⟨wo.heap.size, 1, none⟩ = some (.slice p acc.length q) ∧ W'.cell? ⟨g, k * 2, none⟩ = some (.int .i64 n) ∧ W'.cell? ⟨g, k * 2 + 1, none⟩ = some (.slice p2 y.length q2))
                  (first
                    | (go_split_ands; exact ⟨Below.trans (by assumption) (hb5.mono (Below.size (by assumption))), below_keep hb5 (by assumption), below_keep hb5 (by assumption), below_keep hb5 (by assumption), below_keep hb5 (by assumption)⟩)
                    | (exact ⟨(Below.refl _ _).drew, x0, x1, c0, c1⟩)
                    | (exact ⟨below_set2 hQ5 _ _, below_keep (below_set2 hQ5 _ _) x0, below_keep (below_set2 hQ5 _ _) x1, below_keep (below_set2 hQ5 _ _) c0, below_keep (below_set2 hQ5 _ _) c1⟩)
                    | (exact (fun hz : Below w5.heap.size w5 _ => ⟨hQ5.trans (hz.mono hQ5.size), below_keep hz e0, below_keep hz e1, below_keep hz e2, below_keep hz e3⟩) ((Below.refl _ _).alloc (Nat.le_refl _) _))
                    | (go_split_ands; refine ⟨Below.alloc (by assumption) (Below.size (by assumption)) _, ?_, ?_, ?_, ?_⟩ <;> go_keep)
                    | (go_split_ands; refine ⟨Below.setCell (Below.setCell (by assumption) (Nat.le_refl _) _) (Nat.le_refl _) _, ?_, ?_, ?_, ?_⟩ <;> go_keep)
                    | go_keep)
                  (first | (go_at_call 41; refine (rrUnion_any n n (.slice p acc.length q) (.slice p2 y.length q2) acc y _ (HM.out.below (HBYW.out.trans (Below.mono (B := wr.heap.size) (by first | assumption | exact And.left (by assumption)) HBYW.out.size))) (HSET.out.below (by first | assumption | exact And.left (by assumption))) (HITV.out.below (by first | assumption | exact And.left (by assumption))) (lens_ok HOK.out) (lens_ok HON.out.ok) HLA.out HLY.out).mono ?_; rintro e w5 ⟨u5, rfl, hu5, how5, hb5⟩; rw [HOP.out] at hu5 ⊢; simp only at hu5 ⊢; obtain ⟨p5, q5, rfl⟩ := hu5.slice; unfold setV; have hQ5 : Below wr.heap.size wr w5 := Below.trans (by first | assumption | exact And.left (by assumption)) (hb5.mono (Below.size (B := wr.heap.size) (w := wr) (by first | assumption | exact And.left (by assumption)))); have e0 := below_keep hQ5 x0; have e1 := below_keep hQ5 x1; have e2 := below_keep hQ5 c0; have e3 := below_keep hQ5 c1; (first | (have q0 : w5.cell? ⟨wr.heap.size, 0, none⟩ = some (.int .i64 0) := below_keep hb5 (newd0 wr _ _ _); have q1 : w5.cell? ⟨wr.heap.size, 1, none⟩ = some (.slice none 0 0) := below_keep hb5 (newd1 wr _ _ _); have r0 : w5.frozen? ⟨wr.heap.size, 0, none⟩ = false := (hb5.frozen (p := ⟨wr.heap.size, 0, none⟩) (newdz wr _ _ _)).trans (newdf wr _ _ _ 0); have r1 : w5.frozen? ⟨wr.heap.size, 1, none⟩ = false := (hb5.frozen (p := ⟨wr.heap.size, 1, none⟩) (newdz wr _ _ _)).trans (newdf wr _ _ _ 1)) | (have q0 : w5.cell? ⟨wr.heap.size, 0, none⟩ = some (.int .i64 0) := below_keep hb5 (newe0 wr _ _ _); have q1 : w5.cell? ⟨wr.heap.size, 1, none⟩ = some (.slice none 0 0) := below_keep hb5 (newe1 wr _ _ _); have r0 : w5.frozen? ⟨wr.heap.size, 0, none⟩ = false := (hb5.frozen (p := ⟨wr.heap.size, 0, none⟩) (newez wr _ _ _)).trans (newef wr _ _ _ 0); have r1 : w5.frozen? ⟨wr.heap.size, 1, none⟩ = false := (hb5.frozen (p := ⟨wr.heap.size, 1, none⟩) (newez wr _ _ _)).trans (newef wr _ _ _ 1)) | skip)))
                all_goals
                  rename_i hS
                  have HBS := Lib.hid (And.left hS)
                  clear hS hb5 hQ5 e0 e1 e2 e3 hu5 how5 x0 x1 c0 c1
                  go_wp2_with (first | (refine wl_putRow rfl 39 _ _ rfl w.heap.size #[.int .i64 0, .slice none 0 0] _ (keep4 HBS.out KR1.out) rfl #[.int .i64 0, .slice none 0 0] rfl rfl (by kernel_rfl) (setC_all _ _ _ _) ?_; intro W7 hp7; have z0 : W7.cell? ⟨w.heap.size, 0, none⟩ = some (.int .i64 0) := Lib.cell_of_heap hp7.here 0; have z1 : W7.cell? ⟨w.heap.size, 1, none⟩ = some (.slice none 0 0) := Lib.cell_of_heap hp7.here 1) | fail)
                  have HB7 := Lib.hid (hp7.below (HBYW.out.trans (HBS.out.mono HBYW.out.size)) (Nat.le_refl _))
                  clear hp7
                  exact bodyPost_ret (v := .tuple #[.agg #[.int .i64 0, .slice none 0 0], .int .i64 3]) (by simp [results, Tryz.results13, go_sem, z0, z1]) rfl (by rw [HR.out]; exact SetPost.zero HB7.out _)
            · obtain rfl : k = xs.length := by omega
              have HR : Hid (V.parP n s = (n, acc, 0)) := Lib.hid (HUY.out acc (by rw [HE.out, List.drop_length]; rfl))
              have hnl : ¬ (xs.length : Int) < (us.length : Int) := by have := HXL.out; omega
              have hnl2 : ¬ xs.length < us.length := by have := HXL.out; omega
              clear hby
              go_wp2_with (first
                | (refine wl_putRow rfl 39 _ _ rfl w.heap.size #[.int .i64 0, .slice none 0 0] _ KR1.out rfl #[.int .i64 n, .slice p acc.length q] rfl rfl (by kernel_rfl) (setC_all _ _ _ _) ?_; intro W7 hp7; have z0 : W7.cell? ⟨w.heap.size, 0, none⟩ = some (.int .i64 n) := Lib.cell_of_heap hp7.here 0; have z1 : W7.cell? ⟨w.heap.size, 1, none⟩ = some (.slice p acc.length q) := Lib.cell_of_heap hp7.here 1)
                | fail)
              have HB7 := Lib.hid (hp7.below HBYW.out (Nat.le_refl _))
              have HI7 := Lib.hid (hp7.itvs HSET.out (fun c hc => by have := HOWN.out c hc; have := HZB.out; omega))
              clear hp7
              exact bodyPost_ret (v := .tuple #[.agg #[.int .i64 n, .slice p acc.length q], .int .i64 0]) (by simp [results, Tryz.results13, go_sem, z0, z1]) rfl (by rw [HR.out]; exact ⟨_, rfl, HI7.out, (fun c hc => by have := HOWN.out c hc; have := HZB.out; omega), HB7.out⟩)
    · have HR := Lib.hid (V.parP_long HSC.out hlong)
      have hq : 8192 < S.size := by omega
      have hq2 : (8192 : Int) < (S.size : Int) := by omega
      clear hlong
      go_wp2_with (first | (refine wl_putRow rfl 39 _ _ rfl w.heap.size #[.int .i64 0, .slice none 0 0] _ K0.out rfl #[.int .i64 0, .slice none 0 0] rfl rfl (by kernel_rfl) (setC_all _ _ _ _) ?_; intro W2 hp2; have z0 : W2.cell? ⟨w.heap.size, 0, none⟩ = some (.int .i64 0) := Lib.cell_of_heap hp2.here 0; have z1 : W2.cell? ⟨w.heap.size, 1, none⟩ = some (.slice none 0 0) := Lib.cell_of_heap hp2.here 1) | fail)
      have HBF := Lib.hid (hp2.below HB0.out (Nat.le_refl _))
      clear hp2
      exact bodyPost_ret (v := .tuple #[.agg #[.int .i64 0, .slice none 0 0], .int .i64 3]) (by simp [results, Tryz.results13, go_sem, z0, z1]) rfl (by rw [HR.out]; exact SetPost.zero HBF.out _)
end Go.Proofs.YtpjjkbdkgaehkaaGreatDoor
