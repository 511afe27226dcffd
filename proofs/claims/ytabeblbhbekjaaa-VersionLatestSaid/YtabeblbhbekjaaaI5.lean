/-
  Walk: the law VersionLatest.
-/
import Derived.Test.YtabeblbhbekjaaaI4
import Derived.Test.YtabeblbhbekjaaaF1
import Derived.Test.YtabeblbhbekjaaaSC
import Derived.Test.YtabeblbhbekjaaaCO
import Derived.Test.YtabeblbhbekjaaaT2
namespace Go.Proofs.Ytabeblbhbekjaaa
open Go.RowKit

theorem info_str : (Try.prog.info? 9).map (fun i => (i.zero, i.size, i.bytes)) = some (some (.string ⟨#[]⟩), 1, 16) := by kernel_rfl

def strVals (L : List V.Bs) : List Value := L.map fun x => Value.string ⟨x.toArray⟩

theorem below_tape {B b : Nat} {w w1 w2 : World} (h : Below B w w1) (hg : w1.grownBy w2 (some b)) (hb : B ≤ b) (hB : B ≤ w1.heap.size) : Below B w w2 := h.trans (grown_below hg hb hB)

theorem head_drop {L : List V.Bs} (h0 : 0 < L.length) : L = L.getD 0 [] :: L.drop 1 := by
  cases L with
  | nil => simp at h0
  | cons a l => rfl

theorem latestOf_mem {n : Int} {L : List V.Bs} (h0 : 0 < L.length) : latestOf n L ∈ L := by
  unfold latestOf
  rw [head_drop h0]
  rcases bestOf_mem n (L.drop 1) (L.getD 0 []) with h | h
  · show bestOf n (L.getD 0 []) (L.drop 1) ∈ _
    rw [h]; simp
  · show bestOf n (L.getD 0 []) (L.drop 1) ∈ _
    exact List.mem_cons_of_mem _ h

theorem latestOf_ge {n : Int} (hn : V.scheme n = true) {L : List V.Bs} (h0 : 0 < L.length) (hv : ∀ x ∈ L, V.valid n x = true) : ∀ x ∈ L, V.cmpV n x (latestOf n L) ≤ 0 := by
  have h1 : V.valid n (L.getD 0 []) = true := hv _ (by rw [getD_of h0]; exact List.getElem_mem _)
  have h := bestOf_ge hn h1 (fun x hx => hv x ((List.drop_sublist 1 L).subset hx))
  intro x hx
  rw [head_drop h0] at hx
  unfold latestOf
  rcases List.mem_cons.1 hx with e | e
  · rw [e]; exact h.1
  · exact h.2 x e

theorem sorted_last {n : Int} (hn : V.scheme n = true) {L : List V.Bs} {xs : Nat → V.Bs} {z : V.Bs} (h0 : 0 < L.length) (hv : ∀ x ∈ L, V.valid n x = true) (hal : Alike (fun j => L.getD j []) xs L.length) (hso : SortedTo n xs L.length) (hz : z ∈ L) (hle : ∀ x ∈ L, V.cmpV n x z ≤ 0) :
    V.cmpV n (xs (L.length - 1)) z = 0 ∧ V.valid n (xs (L.length - 1)) = true := by
  have hm : ∀ x, x ∈ lst xs L.length ↔ x ∈ L := fun x => by have := hal.mem x; rwa [lst_of] at this
  have hl : xs (L.length - 1) ∈ L := (hm _).1 (mem_lst.2 ⟨_, by omega, rfl⟩)
  have hvl := hv _ hl
  obtain ⟨j, hj, e⟩ := mem_lst.1 ((hm z).2 hz)
  have hge : V.cmpV n z (xs (L.length - 1)) ≤ 0 := by
    by_cases g : j = L.length - 1
    · subst g
      rw [← e]
      have := (V.total_law hn hvl hvl hvl).2.1; omega
    · rw [← e]; exact hso j _ (by omega) (by omega)
  have h1 := hle _ hl
  have h2 := (V.total_law hn hvl (hv z hz) hvl).1
  exact ⟨by omega, hvl⟩

set_option maxRecDepth 100000 in
set_option maxHeartbeats 6400000 in
theorem versionLatest_any (n : Int) (a : Option Addr) (m cap : Nat) (w : World) (hmx : MaxOk w) (hn : (Lit.int .i64 n).wf = true) (ht : Nums w a m) :
    Calls Try.prog 4 #[.int .i64 n, .slice a m cap] w fun e w' => e = .returned (.bool true) ∧ Below w.heap.size w w' := by
  have HM := Lib.hid hmx
  have HN := Lib.hid hn
  have HT := Lib.hid ht
  obtain ⟨i0, hi, hz0, hz1, hz2⟩ := info_parts info_str
  have I0 := Lib.hid (And.intro hi (And.intro hz0 (And.intro hz1 hz2)))
  clear hmx hn ht hi hz0 hz1 hz2
  have hb0 : Below w.heap.size w (w.alloc (.cells #[.slice a m cap, .int .i64 0] 31)) := (Below.refl _ w).alloc (Nat.le_refl _) _
  have HTP : Hid (Tape (w.alloc (.cells #[.slice a m cap, .int .i64 0] 31)) w.heap.size 0) := Lib.hid (Tape.made HT.out hb0 (Nat.le_refl _) (by rw [World.cell?_alloc_new]; rfl) (by rw [World.cell?_alloc_new]; rfl) (by rw [frozen_alloc, if_pos rfl]))
  have HB0 := Lib.hid hb0
  have hz0 : w.heap.size < (w.alloc (.cells #[.slice a m cap, .int .i64 0] 31)).heap.size := by simp
  clear hb0
  go_enter Try.func4, Try.ntmps4
  go_wp2_with fail
  generalize w.alloc (.cells #[.slice a m cap, .int .i64 0] 31) = W0 at *
  refine (scheme_any n _ HN.out).mono ?_
  rintro e w' ⟨rfl, rfl⟩
  have hs := schemeOf_ok n
  generalize schemeOf n = s at *
  have HS := Lib.hid hs
  clear hs
  go_wp2_with fail
  refine (next_any w.heap.size 0 8 _ HTP.out (by omega) (by omega) (by omega)).mono ?_
  rintro e w1 ⟨r, hr, rfl, ht1, hg1⟩
  have HT1 := Lib.hid ht1
  have HB1 := Lib.hid (below_tape HB0.out hg1 (Nat.le_refl _) (by omega))
  have hz1 : w.heap.size < w1.heap.size := Nat.lt_of_lt_of_le hz0 hg1.size
  clear ht1 hg1 hz0
  have hr8 : r < 8 := by omega
  clear hr
  go_wp2
  go_loopw [7, 8] (fun v i wr => ∃ (k : Nat) (L : List V.Bs), k + L.length = r + 1 ∧ i = .int .i64 k ∧ wr.ownsRow (w.heap.size + 1) 9 1 v L.length (strVals L) ∧ Tape wr w.heap.size (1 + L.length) ∧ Below w.heap.size w wr ∧ w.heap.size < wr.heap.size ∧ ∀ x ∈ L, V.valid s x = true) (fun _ i _ => (intOf i).toNat)
  case atStart => exact ⟨r + 1, [], by simp, by go_num, World.ownsRow_nil _ _ _ _, HT1.out, HB1.out, hz1, fun x hx => by simp at hx⟩
  case round =>
    obtain ⟨k, L, hkl, rfl, hown, htp, hbl, hsz, hval⟩ := hrel
    have HOWN := Lib.hid hown
    have HTP := Lib.hid htp
    have HBL := Lib.hid hbl
    have HVAL := Lib.hid hval
    clear hown htp hbl hval
    by_cases hk0 : 0 < k
    · go_wp2_with fail
      refine (version_any w.heap.size (1 + L.length) s _ HTP.out (by omega) HS.out).mono ?_
      rintro e w2 ⟨x, hx, rfl, ht2, hg2⟩
      have HX := Lib.hid hx
      have HT2 := Lib.hid ht2
      have HB2 := Lib.hid (below_tape HBL.out hg2 (Nat.le_refl _) (by omega))
      have hsz2 : w.heap.size < w2.heap.size := Nat.lt_of_lt_of_le hsz hg2.size
      have HOWN2 := Lib.hid (HOWN.out.kept hg2 (by
        rcases hv : u7.ownBlock with _ | g
        · exact .inl rfl
        · right
          have := HOWN.out.lt g hv
          intro e; cases e; omega))
      clear hx ht2 hg2
      obtain ⟨hi, hz0, hz1, hz2⟩ := I0.out
      go_wp2_with (at_builtin; refine wpList_append_own _ rfl (.tmp 30) (.tmp 34) 33 rfl (w.heap.size + 1) 9 i0 (.string ⟨#[]⟩) 1 16 Try.underlying33 hi hz0 hz1 hz2 rfl (by decide) _ L.length (strVals L) rfl (HOWN2.out.alloc _) ⟨w2.heap.size, 0, none⟩ 1 1 [.string ⟨x.toArray⟩] rfl rfl ?c1 ?c2 ?c3 ?c4 ?c5 ?_)
      case c1 =>
        intro j u hj
        match j, hj with
        | 0, hj => simp at hj; subst hj; simp [Addr.add]
        | (j + 1), hj => simp at hj
      case c2 => intro u hu; simp at hu; subst hu; rfl
      case c3 => unfold maxLen; omega
      case c4 => omega
      case c5 => simp; omega
      intro v' w3 hown3 hg3 _
      have HOWN3 : Hid (w3.ownsRow (w.heap.size + 1) 9 1 v' (L ++ [x]).length (strVals (L ++ [x]))) := Lib.hid (by
        rw [List.length_append]
        have e : strVals (L ++ [x]) = strVals L ++ [.string ⟨x.toArray⟩] := by simp [strVals]
        rw [e]; exact hown3)
      have hrow : ∀ g, u7.ownBlock = some g → w.heap.size < g := fun g hg => by have := HOWN2.out.lt g hg; omega
      have hb3 : Below w2.heap.size w2 (w2.alloc (.cells #[.string ⟨x.toArray⟩] 9)) := (Below.refl _ _).alloc (Nat.le_refl _) _
      have HT3 := Lib.hid ((HT2.out.below hb3).grown hg3 (fun e => by have := hrow _ e; omega) hrow)
      have HB3 := Lib.hid ((HB2.out.trans (hb3.mono HB2.out.size)).grown hg3 (by simp; omega) (fun k hk => by have := hrow k hk; omega))
      have hsz3 : w.heap.size < w3.heap.size := by have := hg3.size; simp at this; omega
      clear hown3 hg3 hrow hb3 HOWN HOWN2
      go_wp2
      go_roundw
      case rel => exact ⟨k - 1, L ++ [x], by rw [List.length_append, List.length_singleton]; omega, by go_num, HOWN3.out, by rw [List.length_append, List.length_singleton]; exact HT3.out, HB3.out, hsz3, fun y hy => by
          rcases List.mem_append.1 hy with h | h
          · exact HVAL.out y h
          · rw [List.mem_singleton] at h; subst h; exact HX.out⟩
      case measure => simp [intOf]; omega
    · have hk00 : k = 0 := by omega
      subst hk00
      have hL : L.length = r + 1 := by omega
      obtain ⟨b, c, rfl, hnc, hcm, hbase, hblt, hrow⟩ := ownsRow_row (L := L) HOWN.out rfl (by omega) rfl
      have HST : Hid (Strs wr (.slice (some ⟨b, 0, none⟩) L.length c) L) := Lib.hid (by have := hrow.strs (cap := c) hblt; rwa [lst_of] at this)
      have HCM := Lib.hid hcm
      have h0 : 0 < L.length := by omega
      have h20 : L.length < 20 := by omega
      obtain ⟨z, hz⟩ : ∃ z, latestOf s L = z := ⟨_, rfl⟩
      have HLV : Hid (∀ x ∈ L, V.cmpV s x z ≤ 0) := Lib.hid (by rw [← hz]; exact latestOf_ge HS.out h0 HVAL.out)
      have HZM : Hid (z ∈ L) := Lib.hid (by rw [← hz]; exact latestOf_mem h0)
      have HZV : Hid (V.valid s z = true) := Lib.hid (HVAL.out z HZM.out)
      have HZ := Lib.hid hz
      clear hz hrow HOWN hcm hbase hkl hL
      go_wp2_with fail
      refine (latest_any s b 0 c L _ (HM.out.below HBL.out) HS.out HST.out h0 hnc HCM.out HVAL.out).mono ?_
      rintro e w2 ⟨rfl, hb2⟩
      rw [HZ.out]
      have HB2 := Lib.hid (HBL.out.trans (hb2.mono HBL.out.size))
      have HST2 := Lib.hid (HST.out.below hb2)
      clear hb2
      go_wp2_with fail
      refine (sort_any s _ L _ (HM.out.below HB2.out) HS.out HST2.out h0 h20 HVAL.out).mono ?_
      rintro e w3 ⟨b', c', xs, rfl, hal, hso, hro, hlt', hb3⟩
      have HB3 := Lib.hid (HB2.out.trans (hb3.mono HB2.out.size))
      have HST3 := Lib.hid (HST2.out.below hb3)
      have hsx := hro.strs (cap := c') hlt'
      have HMEM : Hid (∀ x, x ∈ lst xs L.length ↔ x ∈ L) := Lib.hid (fun x => by have := hal.mem x; rwa [lst_of] at this)
      have HLL := Lib.hid (lst_len xs L.length)
      have HLAST : Hid (V.cmpV s (xs (L.length - 1)) z = 0 ∧ V.valid s (xs (L.length - 1)) = true) := Lib.hid (sorted_last HS.out h0 HVAL.out hal hso HZM.out HLV.out)
      have HLG := Lib.hid (lst_get xs L.length (L.length - 1) (by omega))
      have hsx' : Strs w3 (.slice (some ⟨b', 0, none⟩) L.length c') (lst xs L.length) := hsx
      have HSX := Lib.hid hsx'
      clear hal hso hro hlt' hb3 hsx hsx'
      generalize lst xs L.length = M at *
      generalize xs (L.length - 1) = y at *
      have hzd : decide (z ∈ L) = true := by simpa using HZM.out
      have HZD := Lib.hid hzd
      clear hzd
      go_wp2_with fail
      refine (has_any _ L z _ HST3.out (by unfold maxLen; omega)).mono ?_
      rintro e w' ⟨rfl, rfl⟩
      rw [HZD.out]
      go_wp2
      go_loopw [13] (fun i wr => ∃ k : Nat, k ≤ L.length ∧ i = .int .i64 k ∧ Below w3.heap.size w3 wr) (fun i _ => L.length - (intOf i).toNat)
      case atStart => exact ⟨0, Nat.zero_le _, rfl, Below.refl _ _⟩
      case round =>
        obtain ⟨k, hk, rfl, hB⟩ := hrel
        have HB := Lib.hid hB
        have HBW := Lib.hid (HB3.out.trans (hB.mono HB3.out.size))
        clear hB
        by_cases hlt : k < L.length
        · obtain ⟨bb, off, ea, hb', hc⟩ := HST3.out.at k hlt
          cases ea
          rw [Nat.zero_add] at hc
          have hc1 := keep_cell HB.out hc
          have HXV : Hid (V.valid s (L.getD k []) = true) := Lib.hid (HVAL.out _ (by rw [getD_of hlt]; exact List.getElem_mem _))
          have HXM : Hid (decide (L.getD k [] ∈ M) = true) := Lib.hid (by rw [decide_eq_true_eq, HMEM.out, getD_of hlt]; exact List.getElem_mem _)
          have hle := HLV.out (L.getD k []) (by rw [getD_of hlt]; exact List.getElem_mem _)
          clear hc
          generalize L.getD k [] = x at *
          obtain ⟨cc, hcc⟩ : ∃ cc, V.cmpV s x z = cc := ⟨_, rfl⟩
          have HCC := Lib.hid hcc
          rw [hcc] at hle
          clear hcc
          go_wp2_with fail
          refine (compare_ok s x z cc _ (HM.out.below HBW.out) HS.out HXV.out HZV.out HCC.out).mono ?_
          rintro e w5 ⟨rfl, hb5⟩
          have HB5 := Lib.hid (HB.out.trans (hb5.mono HB.out.size))
          have hc2 := keep_cell hb5 hc1
          have HSX5 := Lib.hid (HSX.out.below HB5.out)
          clear hb5 hc1
          go_wp2_with fail
          refine (has_any _ M x _ HSX5.out (by rw [HLL.out]; unfold maxLen; omega)).mono ?_
          rintro e w' ⟨rfl, rfl⟩
          rw [HXM.out]
          go_wp2
          go_roundw
          case rel => exact ⟨k + 1, by omega, by go_num, HB5.out⟩
          case measure => simp [intOf]; omega
        · have hsx5 := HSX.out.below HB.out
          obtain ⟨bb, off, ea, hb', hc⟩ := hsx5.at (L.length - 1) (by rw [HLL.out]; omega)
          cases ea
          rw [HLG.out] at hc
          have hcz : wr.cell? ⟨b', 0 + (L.length - 1), none⟩ = some (.string ⟨y.toArray⟩) := hc
          have hcz2 : wr.cell? ⟨b', L.length - 1, none⟩ = some (.string ⟨y.toArray⟩) := by rw [← Nat.zero_add (L.length - 1)]; exact hc
          clear hc hsx5
          go_wp2_with fail
          refine (compare_ok s y z 0 _ (HM.out.below HBW.out) HS.out HLAST.out.2 HZV.out HLAST.out.1).mono ?_
          rintro e w5 ⟨rfl, hb5⟩
          have HB5 := Lib.hid (HBW.out.trans (hb5.mono HBW.out.size))
          clear hb5 hcz hcz2
          go_wp2_with fail
          refine (awake_any _ (HM.out.below HB5.out)).mono ?_
          rintro e w7 ⟨rfl, hb7⟩
          have HB7 := Lib.hid (HB5.out.trans (hb7.mono HB5.out.size))
          clear hb7
          go_wp2
          go_ret
          exact ⟨ret_bool rfl, HB7.out⟩
end Go.Proofs.Ytabeblbhbekjaaa
