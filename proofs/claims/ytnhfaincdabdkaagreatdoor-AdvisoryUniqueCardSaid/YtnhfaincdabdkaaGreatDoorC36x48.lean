/-
  Lemmas for the law.
-/
import Derived.Test.YtnhfaincdabdkaaGreatDoorC36x47
import Derived.Test.YtnhfaincdabdkaaGreatDoorC36x34
import Derived.Test.YtnhfaincdabdkaaGreatDoorC36x18
import Derived.Test.YtnhfaincdabdkaaGreatDoorC36x44
import Derived.Test.YtnhfaincdabdkaaGreatDoorC36x38
import Derived.Test.YtnhfaincdabdkaaGreatDoorC36x15
import Derived.Test.YtnhfaincdabdkaaGreatDoorC36x02
import Derived.Test.YtnhfaincdabdkaaGreatDoorCards
import Derived.Test.YtnhfaincdabdkaaGreatDoorTie
import Derived.Test.YtnhfaincdabdkaaGreatDoorRows
import Derived.ProofKit
import Derived.SliceStrings
import Derived.OpenShut
import Derived.Deep.DeepHandedRow
import Derived.Lib.LaidTab
import Derived.JoinedOf
set_option linter.all false
set_option maxRecDepth 100000
set_option maxHeartbeats 12800000
namespace Go.Proofs.YtnhfaincdabdkaaGreatDoor
open Go.RowKit
theorem V.adv_ext {x y : V.Adv} (h1 : x.id = y.id) (h2 : x.rev = y.rev) (h3 : x.sev = y.sev) (h4 : x.aff = y.aff) : x = y := by
 cases x; cases y; simp_all
theorem zvt {P : Prop} (h : P := by
 go_enter Tryz.func29, Tryz.ntmps29
 go_wp2
 go_ret
 exact ⟨⟨false, rfl, fun h => (by cases h), fun h => absurd h HN.out⟩, HB.out⟩) : P := h
theorem zvu {P : Prop} (h : P := by
 refine tk 27 ?_
 refine tk 28 ?_
 refine tu 29 ?_
 refine tu 30 ?_
 refine tu 31 ?_
 refine tu 32 ?_
 refine tu 33 ?_
 refine tu 34 ?_
 refine tu 35 ?_
 refine tu 36 ?_
 refine tu 37 ?_
 refine tu 38 ?_
 refine tu 39 ?_
 refine tu 40 ?_
 refine tu 41 ?_
 refine tu 42 ?_
 refine tk 43 ?_
 refine wpAnyH_done (by kernel_rfl) ?_ _
 have HBZ := zuy (HBR.out.trans (hHeld.1.mono HBR.out.size))
 clear hHeld
 go_wp2
 go_ret
 exact ⟨⟨false, rfl, fun h => (by cases h), fun h => absurd h HN.out⟩, HB.out.trans (HBZ.out.mono HB.out.size)⟩) : P := h
theorem zwx {P : Prop} (h : P := by
 (try dsimp only); go_split_ands; exact ⟨Below.trans (by assumption) (hbr41.mono (Below.size (by assumption))), zu4 hbr41, zu4 hbr41, zu4 hbr41, zu4 hbr41, zu4 hbr41, zu4 hbr41, zu4 hbr41, zu4 hbr41, zu4 hbr41, zu4 hbr41⟩) : P := h
theorem zn7 (x y : V.Adv) (v v' : Value) (w : World) (hv : Affs w v x.aff) (hv' : Affs w v' y.aff) (hl : x.aff.length ≤ maxLen) (_hl' : y.aff.length ≤ maxLen) :
  Calls Tryz.prog 29 #[advV x v, advV y v'] w fun e w' => (∃ r : Bool, e = .returned (.bool r) /\ (r = true ↔ x = y)) /\ Below w.heap.size w w' := by
 obtain ⟨pa, pc, rfl⟩ := hv.slice
 obtain ⟨pa', pc', rfl⟩ := hv'.slice
 obtain ⟨hb, h0, h1⟩ := zcr (w := w) (.cells #[.string ⟨x.id.toArray⟩, .int .i64 x.rev, .int .i64 x.sev, .slice pa x.aff.length pc] 41) (.cells #[.string ⟨y.id.toArray⟩, .int .i64 y.rev, .int .i64 y.sev, .slice pa' y.aff.length pc'] 41)
 have HB := zuy hb
 have c0 := (h0 0).trans (World.cell?_alloc_new ..)
 have c1 := (h0 1).trans (World.cell?_alloc_new ..)
 have c2 := (h0 2).trans (World.cell?_alloc_new ..)
 have c3 := (h0 3).trans (World.cell?_alloc_new ..)
 have d0 := (h1 0).trans (World.cell?_alloc_new ..)
 have d1 := (h1 1).trans (World.cell?_alloc_new ..)
 have d2 := (h1 2).trans (World.cell?_alloc_new ..)
 have d3 := (h1 3).trans (World.cell?_alloc_new ..)
 simp only [List.getElem?_toArray, List.getElem?_cons_zero, List.getElem?_cons_succ] at c0 c1 c2 c3 d0 d1 d2 d3
 have HV := zuy (hv.below hb)
 have HV' := zuy (hv'.below hb)
 unfold maxLen at hl
 clear hb h0 h1 hv hv' _hl'
 unfold advV
 by_cases hid : x.id = y.id
 case neg =>
  have q1 : (x.id == y.id) = false := by rw [zu2]; exact hid
  have HN : Hid (¬ x = y) := zuy (fun e => hid (by rw [e]))
  exact zvt
 have HID := zuy hid
 rw [← hid] at HB HV HV' c0 c1 c2 c3 d0 d1 d2 d3 ⊢
 clear hid
 have q1 : (x.id == x.id) = true := by simp
 by_cases hrev : x.rev = y.rev
 case neg =>
  have q2 : (x.rev != y.rev) = true := by simpa using hrev
  have HN : Hid (¬ x = y) := zuy (fun e => hrev (by rw [e]))
  exact zvt
 have HREV := zuy hrev
 rw [← hrev] at HB HV HV' c0 c1 c2 c3 d0 d1 d2 d3 ⊢
 clear hrev
 have q2 : (x.rev != x.rev) = false := by simp
 by_cases hsev : x.sev = y.sev
 case neg =>
  have q3 : (x.sev != y.sev) = true := by simpa using hsev
  have HN : Hid (¬ x = y) := zuy (fun e => hsev (by rw [e]))
  exact zvt
 have HSEV := zuy hsev
 rw [← hsev] at HB HV HV' c0 c1 c2 c3 d0 d1 d2 d3 ⊢
 clear hsev
 have q3 : (x.sev != x.sev) = false := by simp
 by_cases hlen : x.aff.length = y.aff.length
 case neg =>
  have q4 : ((x.aff.length : Int) != (y.aff.length : Int)) = true := by rw [bne_iff_ne]; omega
  have HN : Hid (¬ x = y) := zuy (fun e => hlen (by rw [e]))
  exact zvt
 have HEX : Hid (x.aff = y.aff -> x = y) := zuy (fun h => V.adv_ext HID.out HREV.out HSEV.out h)
 have HLEN := zuy hlen
 rw [← hlen] at HB HV HV' c0 c1 c2 c3 d0 d1 d2 d3 ⊢
 have q4 : ((x.aff.length : Int) != (x.aff.length : Int)) = false := by simp
 clear hlen
 go_enter Tryz.func29, Tryz.ntmps29
 go_wp2_with fail
 generalize (w.alloc (.cells #[.string ⟨x.id.toArray⟩, .int .i64 x.rev, .int .i64 x.sev, .slice pa x.aff.length pc] 41)).alloc (.cells #[.string ⟨x.id.toArray⟩, .int .i64 x.rev, .int .i64 x.sev, .slice pa' x.aff.length pc'] 41) = w0 at *
 clear c0 c1 c2 d0 d1 d2
 go_loopw [5] (fun iv W => ∃ k : Nat, k ≤ x.aff.length /\ iv = .int .i64 k /\ (∀ i, i < k -> x.aff[i]? = y.aff[i]?) /\ Below w0.heap.size w0 W) (fun iv _ => x.aff.length - (intOf iv).toNat)
 case atStart => exact ⟨0, Nat.zero_le _, rfl, fun i hi => by omega, zu1 _ _⟩
 case round =>
  obtain ⟨k, hk, rfl, hz, hbr⟩ := hrel
  have HZ := zuy hz
  have HBR := zuy hbr
  replace c3 := zb hbr c3
  replace d3 := zb hbr d3
  clear hbr hz
  by_cases hlt : k < x.aff.length
  ·have hlt2 : k < y.aff.length := by have := HLEN.out; omega
   obtain ⟨hwf, b, off, ua, uc, rfl, hb0, hx⟩ := HV.out.at k hlt
   obtain ⟨hwf', b', off', ua', uc', rfl, hb0', hy⟩ := HV'.out.at k hlt2
   have HNO : Hid (¬ x.aff[k] = y.aff[k] -> ¬ x = y) := zuy (fun h e => h (by subst e; rfl))
   have HYES : Hid (x.aff[k] = y.aff[k] -> ∀ i, i < k + 1 -> x.aff[i]? = y.aff[i]?) := zuy (fun hq i hi => by
     by_cases h : i < k
     · exact HZ.out i h
     · obtain rfl : i = k := by omega
       rw [List.getElem?_eq_getElem hlt, List.getElem?_eq_getElem hlt2, hq])
   have i1 : (0 : Int) ≤ (k : Int) := by omega
   have i2 : (k : Int) < (x.aff.length : Int) := by omega
   have wr1 : IntKind.i64.wrap ((k : Int) + 1) = (k : Int) + 1 := IntWalk.i64_in _ (by omega)
   have HA := zuy (hx.below HBR.out)
   have HA' := zuy (hy.below HBR.out)
   have HW := zuy hwf
   have HW' := zuy hwf'
   clear hx hy hwf hwf' HV HV' HZ
   generalize x.aff[k] = a at *
   generalize y.aff[k] = a2 at *
   obtain ⟨s2, n2, r2, i2⟩ := a2
   by_cases hs : a.sch = s2
   case neg =>
    have HN := zuy (HNO.out (fun e => hs (by rw [e])))
    have q1 : (a.sch != s2) = true := by simpa using hs
    clear HNO HYES hs
    go_wp2_with fail
    refine wp_region_held_drew (S := (fun W' => Below wr.heap.size wr W' /\ W'.cell? ⟨w.heap.size, 3, none⟩ = some (.slice (some ⟨b, off, none⟩) x.aff.length pc) /\ W'.cell? ⟨w.heap.size + 1, 3, none⟩ = some (.slice (some ⟨b', off', none⟩) x.aff.length pc') /\ W'.cell? ⟨b, off + k * 4, none⟩ = some (.int .i64 a.sch) /\ W'.cell? ⟨b, off + k * 4 + 1, none⟩ = some (.string ⟨a.name.toArray⟩) /\ W'.cell? ⟨b, off + k * 4 + 2, none⟩ = some (.int .i64 a.rs) /\ W'.cell? ⟨b, off + k * 4 + 3, none⟩ = some (.slice ua a.its.length uc) /\ W'.cell? ⟨b', off' + k * 4, none⟩ = some (.int .i64 s2) /\ W'.cell? ⟨b', off' + k * 4 + 1, none⟩ = some (.string ⟨n2.toArray⟩) /\ W'.cell? ⟨b', off' + k * 4 + 2, none⟩ = some (.int .i64 r2) /\ W'.cell? ⟨b', off' + k * 4 + 3, none⟩ = some (.slice ua' i2.length uc'))) (by kernel_rfl) (by (try dsimp only); exact ⟨(zu1 _ _).drew, zb (zu1 _ _).drew c3, zb (zu1 _ _).drew d3, zb (zu1 _ _).drew HA.out.c0, zb (zu1 _ _).drew HA.out.c1, zb (zu1 _ _).drew HA.out.c2, zb (zu1 _ _).drew HA.out.c3, zb (zu1 _ _).drew HA'.out.c0, zb (zu1 _ _).drew HA'.out.c1, zb (zu1 _ _).drew HA'.out.c2, zb (zu1 _ _).drew HA'.out.c3⟩) (fun hHeld => ?_)
    refine tk 0 ?_
    refine tk 1 ?_
    refine tk 2 ?_
    refine tk 3 ?_
    refine tk 4 ?_
    refine tk 5 ?_
    refine tk 6 ?_
    refine tk 7 ?_
    refine tk 8 ?_
    refine tk 9 ?_
    refine tk 10 ?_
    refine tk 11 ?_
    refine tk 12 ?_
    refine tk 13 ?_
    refine tu 14 ?_
    refine tu 15 ?_
    refine tu 16 ?_
    refine tu 17 ?_
    refine tu 18 ?_
    refine tu 19 ?_
    refine tu 20 ?_
    refine tu 21 ?_
    refine tu 22 ?_
    refine tu 23 ?_
    refine tu 24 ?_
    refine tu 25 ?_
    refine tu 26 ?_
    exact zvu
   subst hs
   by_cases hn : a.name = n2
   case neg =>
    have HN := zuy (HNO.out (fun e => hn (by rw [e])))
    have q1 : (a.name == n2) = false := by rw [zu2]; exact hn
    clear HNO HYES hn
    go_wp2_with fail
    refine wp_region_held_drew (S := (fun W' => Below wr.heap.size wr W' /\ W'.cell? ⟨w.heap.size, 3, none⟩ = some (.slice (some ⟨b, off, none⟩) x.aff.length pc) /\ W'.cell? ⟨w.heap.size + 1, 3, none⟩ = some (.slice (some ⟨b', off', none⟩) x.aff.length pc') /\ W'.cell? ⟨b, off + k * 4, none⟩ = some (.int .i64 a.sch) /\ W'.cell? ⟨b, off + k * 4 + 1, none⟩ = some (.string ⟨a.name.toArray⟩) /\ W'.cell? ⟨b, off + k * 4 + 2, none⟩ = some (.int .i64 a.rs) /\ W'.cell? ⟨b, off + k * 4 + 3, none⟩ = some (.slice ua a.its.length uc) /\ W'.cell? ⟨b', off' + k * 4, none⟩ = some (.int .i64 a.sch) /\ W'.cell? ⟨b', off' + k * 4 + 1, none⟩ = some (.string ⟨n2.toArray⟩) /\ W'.cell? ⟨b', off' + k * 4 + 2, none⟩ = some (.int .i64 r2) /\ W'.cell? ⟨b', off' + k * 4 + 3, none⟩ = some (.slice ua' i2.length uc'))) (by kernel_rfl) (by (try dsimp only); exact ⟨(zu1 _ _).drew, zb (zu1 _ _).drew c3, zb (zu1 _ _).drew d3, zb (zu1 _ _).drew HA.out.c0, zb (zu1 _ _).drew HA.out.c1, zb (zu1 _ _).drew HA.out.c2, zb (zu1 _ _).drew HA.out.c3, zb (zu1 _ _).drew HA'.out.c0, zb (zu1 _ _).drew HA'.out.c1, zb (zu1 _ _).drew HA'.out.c2, zb (zu1 _ _).drew HA'.out.c3⟩) (fun hHeld => ?_)
    refine tk 0 ?_
    refine tk 1 ?_
    refine tk 2 ?_
    refine tk 3 ?_
    refine tk 4 ?_
    refine tk 5 ?_
    refine tk 6 ?_
    refine tk 7 ?_
    refine tk 8 ?_
    refine tk 9 ?_
    refine tk 10 ?_
    refine tk 11 ?_
    refine tk 12 ?_
    refine tk 13 ?_
    refine tk 14 ?_
    refine tk 15 ?_
    refine tk 16 ?_
    refine tk 17 ?_
    refine tk 18 ?_
    refine tk 19 ?_
    refine tk 20 ?_
    refine tk 21 ?_
    refine tk 22 ?_
    refine tk 23 ?_
    refine tk 24 ?_
    refine tk 25 ?_
    refine tk 26 ?_
    exact zvu
   subst hn
   rcases hsp : zeh a.rs a.its r2 i2 with _ | _
   ·have HN := zuy (HNO.out (fun e => by
      have h1 : a.rs = r2 /\ a.its = i2 := by rw [e]; exact ⟨rfl, rfl⟩
      have h2 := zd8.2 h1
      rw [hsp] at h2
      cases h2))
    clear HNO HYES
    go_wp2_with fail
    refine wp_region_held_drew (S := (fun W' => Below wr.heap.size wr W' /\ W'.cell? ⟨w.heap.size, 3, none⟩ = some (.slice (some ⟨b, off, none⟩) x.aff.length pc) /\ W'.cell? ⟨w.heap.size + 1, 3, none⟩ = some (.slice (some ⟨b', off', none⟩) x.aff.length pc') /\ W'.cell? ⟨b, off + k * 4, none⟩ = some (.int .i64 a.sch) /\ W'.cell? ⟨b, off + k * 4 + 1, none⟩ = some (.string ⟨a.name.toArray⟩) /\ W'.cell? ⟨b, off + k * 4 + 2, none⟩ = some (.int .i64 a.rs) /\ W'.cell? ⟨b, off + k * 4 + 3, none⟩ = some (.slice ua a.its.length uc) /\ W'.cell? ⟨b', off' + k * 4, none⟩ = some (.int .i64 a.sch) /\ W'.cell? ⟨b', off' + k * 4 + 1, none⟩ = some (.string ⟨a.name.toArray⟩) /\ W'.cell? ⟨b', off' + k * 4 + 2, none⟩ = some (.int .i64 r2) /\ W'.cell? ⟨b', off' + k * 4 + 3, none⟩ = some (.slice ua' i2.length uc'))) (by kernel_rfl) (by (try dsimp only); exact ⟨(zu1 _ _).drew, zb (zu1 _ _).drew c3, zb (zu1 _ _).drew d3, zb (zu1 _ _).drew HA.out.c0, zb (zu1 _ _).drew HA.out.c1, zb (zu1 _ _).drew HA.out.c2, zb (zu1 _ _).drew HA.out.c3, zb (zu1 _ _).drew HA'.out.c0, zb (zu1 _ _).drew HA'.out.c1, zb (zu1 _ _).drew HA'.out.c2, zb (zu1 _ _).drew HA'.out.c3⟩) (fun hHeld => ?_)
    refine tk 0 ?_
    refine tk 1 ?_
    refine tk 2 ?_
    refine tk 3 ?_
    refine tk 4 ?_
    refine tk 5 ?_
    refine tk 6 ?_
    refine tk 7 ?_
    refine tk 8 ?_
    refine tk 9 ?_
    refine tk 10 ?_
    refine tk 11 ?_
    refine tk 12 ?_
    refine tk 13 ?_
    refine tk 14 ?_
    refine tk 15 ?_
    refine tk 16 ?_
    refine tk 17 ?_
    refine tk 18 ?_
    refine tk 19 ?_
    refine tk 20 ?_
    refine tk 21 ?_
    refine tk 22 ?_
    refine tk 23 ?_
    refine tk 24 ?_
    refine tk 25 ?_
    refine tk 26 ?_
    refine tk 27 ?_
    refine tk 28 ?_
    refine tk 29 ?_
    refine tk 30 ?_
    refine tk 31 ?_
    refine tk 32 ?_
    refine tk 33 ?_
    refine tk 34 ?_
    refine tk 35 ?_
    refine tk 36 ?_
    refine tk 37 ?_
    refine tk 38 ?_
    refine tk 39 ?_
    refine tk 40 ?_
    refine rd 41 fun K hK => ?_
    go_simp
    refine (zfj a.rs r2 (.slice ua a.its.length uc) (.slice ua' i2.length uc') a.its i2 _ (HA.out.its.below (show Below wr.heap.size wr _ from (by first | assumption | exact And.left (by assumption)))) (HA'.out.its.below (show Below wr.heap.size wr _ from (by first | assumption | exact And.left (by assumption)))) HW.out.len HW'.out.len).mono ?_
    rintro e wr41 ⟨rfl, hbr41⟩
    try dsimp only
    rw [hsp]
    refine hK.out _ _ ?_ (fun hHeld => nx ?_)
    ·exact zwx
    clear hK K
    refine tk 42 ?_
    refine tk 43 ?_
    refine wpAnyH_done (by kernel_rfl) ?_ _
    have HBZ := zuy (HBR.out.trans (hHeld.1.mono HBR.out.size))
    clear hHeld
    go_wp2
    go_ret
    exact ⟨⟨false, rfl, fun h => (by cases h), fun h => absurd h HN.out⟩, HB.out.trans (HBZ.out.mono HB.out.size)⟩
   ·have HY := zuy (HYES.out (by
      obtain ⟨h1, h2⟩ := zd8.1 hsp
      cases a
      simp_all))
    clear HNO HYES
    go_wp2_with fail
    refine wp_region_held_drew (S := (fun W' => Below wr.heap.size wr W' /\ W'.cell? ⟨w.heap.size, 3, none⟩ = some (.slice (some ⟨b, off, none⟩) x.aff.length pc) /\ W'.cell? ⟨w.heap.size + 1, 3, none⟩ = some (.slice (some ⟨b', off', none⟩) x.aff.length pc') /\ W'.cell? ⟨b, off + k * 4, none⟩ = some (.int .i64 a.sch) /\ W'.cell? ⟨b, off + k * 4 + 1, none⟩ = some (.string ⟨a.name.toArray⟩) /\ W'.cell? ⟨b, off + k * 4 + 2, none⟩ = some (.int .i64 a.rs) /\ W'.cell? ⟨b, off + k * 4 + 3, none⟩ = some (.slice ua a.its.length uc) /\ W'.cell? ⟨b', off' + k * 4, none⟩ = some (.int .i64 a.sch) /\ W'.cell? ⟨b', off' + k * 4 + 1, none⟩ = some (.string ⟨a.name.toArray⟩) /\ W'.cell? ⟨b', off' + k * 4 + 2, none⟩ = some (.int .i64 r2) /\ W'.cell? ⟨b', off' + k * 4 + 3, none⟩ = some (.slice ua' i2.length uc'))) (by kernel_rfl) (by (try dsimp only); exact ⟨(zu1 _ _).drew, zb (zu1 _ _).drew c3, zb (zu1 _ _).drew d3, zb (zu1 _ _).drew HA.out.c0, zb (zu1 _ _).drew HA.out.c1, zb (zu1 _ _).drew HA.out.c2, zb (zu1 _ _).drew HA.out.c3, zb (zu1 _ _).drew HA'.out.c0, zb (zu1 _ _).drew HA'.out.c1, zb (zu1 _ _).drew HA'.out.c2, zb (zu1 _ _).drew HA'.out.c3⟩) (fun hHeld => ?_)
    refine tk 0 ?_
    refine tk 1 ?_
    refine tk 2 ?_
    refine tk 3 ?_
    refine tk 4 ?_
    refine tk 5 ?_
    refine tk 6 ?_
    refine tk 7 ?_
    refine tk 8 ?_
    refine tk 9 ?_
    refine tk 10 ?_
    refine tk 11 ?_
    refine tk 12 ?_
    refine tk 13 ?_
    refine tk 14 ?_
    refine tk 15 ?_
    refine tk 16 ?_
    refine tk 17 ?_
    refine tk 18 ?_
    refine tk 19 ?_
    refine tk 20 ?_
    refine tk 21 ?_
    refine tk 22 ?_
    refine tk 23 ?_
    refine tk 24 ?_
    refine tk 25 ?_
    refine tk 26 ?_
    refine tk 27 ?_
    refine tk 28 ?_
    refine tk 29 ?_
    refine tk 30 ?_
    refine tk 31 ?_
    refine tk 32 ?_
    refine tk 33 ?_
    refine tk 34 ?_
    refine tk 35 ?_
    refine tk 36 ?_
    refine tk 37 ?_
    refine tk 38 ?_
    refine tk 39 ?_
    refine tk 40 ?_
    refine rd 41 fun K hK => ?_
    go_simp
    refine (zfj a.rs r2 (.slice ua a.its.length uc) (.slice ua' i2.length uc') a.its i2 _ (HA.out.its.below (show Below wr.heap.size wr _ from (by first | assumption | exact And.left (by assumption)))) (HA'.out.its.below (show Below wr.heap.size wr _ from (by first | assumption | exact And.left (by assumption)))) HW.out.len HW'.out.len).mono ?_
    rintro e wr41 ⟨rfl, hbr41⟩
    try dsimp only
    rw [hsp]
    refine hK.out _ _ ?_ (fun hHeld => nx ?_)
    ·exact zwx
    clear hK K
    refine tk 42 ?_
    refine tk 43 ?_
    refine wpAnyH_done (by kernel_rfl) ?_ _
    have HBZ := zuy (HBR.out.trans (hHeld.1.mono HBR.out.size))
    clear hHeld
    exact zw2
  ·obtain rfl : k = x.aff.length := by omega
   have HE : Hid (x = y) := zuy (HEX.out (List.ext_getElem? (fun i => by
     by_cases h : i < x.aff.length
     · exact HZ.out i h
     · rw [List.getElem?_eq_none (by omega), List.getElem?_eq_none (by have := HLEN.out; omega)])))
   go_wp2
   go_ret
   exact ⟨⟨true, rfl, fun _ => HE.out, fun _ => rfl⟩, HB.out.trans (HBR.out.mono HB.out.size)⟩
theorem zqr {o : Oper} {ev : Operand -> Value} {w : World} {x : Operand} {v : Value} {s : ByteArray} (ho : o.op = .convert 22 9 x) (hx : ev x = v) (h : (convert 22 9 v).run Tryz.prog w = .ok (.string s) w) : (execOp ev o).run Tryz.prog w = .ok (.value (.string s)) w := by
 unfold execOp
 simp only [ho, hx, Sem.run_bind, h, Result.andThen_ok, Sem.run_pure]
theorem V.enc_posV {x : V.Adv} (h : (V.encV x).2 = 0) : 0 < (V.encV x).1.length := by
 unfold V.encV at h ⊢
 split
 ·split
  ·exact V.doc_pos
  ·rename_i h1 h2
   rw [if_pos h1, if_neg h2] at h
   exact absurd h h2
 ·rename_i h1
  rw [if_neg h1] at h
  cases h
open Go.RowKit
theorem zpe (x y : V.Adv) (v v' : Value) (z : Bool) (w : World) (hv : Affs w v x.aff) (hv' : Affs w v' y.aff) (hl : x.aff.length ≤ maxLen) (hl' : y.aff.length ≤ maxLen) (hz : z = true ↔ x = y) :
  Calls Tryz.prog 29 #[advV x v, advV y v'] w fun e w' => e = .returned (.bool z) /\ Below w.heap.size w w' :=
 (zn7 x y v v' w hv hv' hl hl').mono fun _ _ ⟨⟨r, he, hr⟩, hb⟩ => ⟨by rw [he, show r = z from Bool.eq_iff_iff.2 (hr.trans hz.symm)], hb⟩
theorem zev (a : Option Addr) (m cap : Nat) (a' : Option Addr) (m' cap' : Nat) (w : World) (hm : zg w) (hp : zer w) (ht : Nums w a m) (hmc : m ≤ cap) (ht' : Nums w a' m') (hmc' : m' ≤ cap') :
  Calls Tryz.prog 10 #[.slice a m cap, .slice a' m' cap'] w fun e w' => e = .returned (.bool true) /\ Below w.heap.size w w' := by
 have HM := zuy hm
 have HP := zuy hp
 have HT := zuy (And.intro ht hmc)
 have HT' := zuy (And.intro ht' hmc')
 clear hm hp ht hmc ht' hmc'
 go_enter Tryz.func10, Tryz.ntmps10
 go_wp2_with fail
 refine (zmw a m cap 60 w HT.out.1 HT.out.2 (by decide)).mono ?_
 rintro e w1 ⟨rfl, ht1, hb1, hz1⟩
 have HT1 := zuy ht1
 have HB1 := zuy hb1
 clear ht1 hb1 hz1
 go_wp2_with fail
 refine (zg4 w.heap.size 0 w1 (HM.out.below HB1.out) HT1.out (by decide)).mono ?_
 rintro e w2 ⟨x, u, rfl, hx, hu, ht2, hg2⟩
 have HB2 := zuy (HB1.out.trans (zc5 hg2 (zu0 _) HB1.out.size))
 have HLX : Hid (x.id.length ≤ maxLen /\ x.aff.length ≤ maxLen) := zuy (by have := hx.idl; have := hx.len; unfold maxLen; omega)
 have HEX := zuy hx.encV
 obtain ⟨pa, pc, rfl⟩ := hu.slice
 have HU2 := zuy hu
 clear hx hu ht2 hg2 HT1 HB1
 unfold advV
 go_wp2_with fail
 refine (zmw a' m' cap' 60 w2 (HT'.out.1.below2A HB2.out) HT'.out.2 (by decide)).mono ?_
 rintro e w3 ⟨rfl, ht3, hb3, hz3⟩
 have HT3 := zuy ht3
 have HB3 := zuy hb3
 clear ht3 hb3 hz3
 go_wp2_with fail
 refine (zg4 w2.heap.size 0 w3 (HM.out.below (HB2.out.trans (HB3.out.mono HB2.out.size))) HT3.out (by decide)).mono ?_
 rintro e w4 ⟨y, u', rfl, hy, hu', ht4, hg4⟩
 have hb4 := HB3.out.trans (zc5 hg4 (zu0 _) HB3.out.size)
 have HB4 := zuz HB2 hb4
 have HLY : Hid (y.id.length ≤ maxLen /\ y.aff.length ≤ maxLen) := zuy (by have := hy.idl; have := hy.len; unfold maxLen; omega)
 have HEY := zuy hy.encV
 obtain ⟨pb, pd, rfl⟩ := hu'.slice
 have HX4 := zuy (HU2.out.below hb4)
 have HY4 := zuy hu'
 clear hy hu' ht4 hg4 hb4 HT3 HB3 HB2 HU2
 obtain ⟨hb5, h0, h1⟩ := zcr (w := w4) (.cells #[.string ⟨x.id.toArray⟩, .int .i64 x.rev, .int .i64 x.sev, .slice pa x.aff.length pc] 41) (.cells #[.string ⟨y.id.toArray⟩, .int .i64 y.rev, .int .i64 y.sev, .slice pb y.aff.length pd] 41)
 have c0 := (h0 0).trans (World.cell?_alloc_new ..)
 have c1 := (h0 1).trans (World.cell?_alloc_new ..)
 have c2 := (h0 2).trans (World.cell?_alloc_new ..)
 have c3 := (h0 3).trans (World.cell?_alloc_new ..)
 have d0 := (h1 0).trans (World.cell?_alloc_new ..)
 have d1 := (h1 1).trans (World.cell?_alloc_new ..)
 have d2 := (h1 2).trans (World.cell?_alloc_new ..)
 have d3 := (h1 3).trans (World.cell?_alloc_new ..)
 simp only [List.getElem?_toArray, List.getElem?_cons_zero, List.getElem?_cons_succ] at c0 c1 c2 c3 d0 d1 d2 d3
 have HB5 := zuz HB4 hb5
 have HX5 := zuy (HX4.out.below hb5)
 have HY5 := zuy (HY4.out.below hb5)
 have HLN := zuy (V.encV_len (x := x) (by rw [HEX.out]))
 have HLM := zuy (V.encV_len (x := y) (by rw [HEY.out]))
 obtain ⟨z, hz⟩ : ∃ z, ((V.encV x).1 == (V.encV y).1) = z := ⟨_, rfl⟩
 have HZ : Hid (((V.encV x).1 == (V.encV y).1) = z /\ (z = true ↔ x = y)) := zuy ⟨hz, by
   rw [← hz, beq_iff_eq]
   exact ⟨fun h => V.encV_inj (by rw [HEX.out]) (by rw [HEY.out]) h, fun h => by rw [h]⟩⟩
 have HPD : Hid (0 < (V.encV x).1.length /\ 0 < (V.encV y).1.length) := zuy ⟨V.enc_posV (by rw [HEX.out]), V.enc_posV (by rw [HEY.out])⟩
 clear h0 h1 hb5 hz HX4 HY4 HB4
 unfold advV
 go_wp2_with fail
 generalize (w4.alloc (.cells #[.string ⟨x.id.toArray⟩, .int .i64 x.rev, .int .i64 x.sev, .slice pa x.aff.length pc] 41)).alloc (.cells #[.string ⟨y.id.toArray⟩, .int .i64 y.rev, .int .i64 y.sev, .slice pb y.aff.length pd] 41) = w5 at *
 generalize w4.heap.size = X at *
 refine (vw x (.slice pa x.aff.length pc) w5 (HM.out.below HB5.out) (HP.out.below HB5.out) HX5.out HLX.out.1 HLX.out.2).mono ?_
 intro e w6 he
 obtain ⟨u6, N6, W6, rfl, hbuf⟩ := he.1 (by rw [HEX.out])
 have hb6 := he.2.2
 have HB6 := zuz HB5 hb6
 have HX6 := zuy (HX5.out.below hb6)
 have HY6 := zuy (HY5.out.below hb6)
 have HD6 := zuy hbuf.bytesInA
 replace c0 := zb hb6 c0
 replace c1 := zb hb6 c1
 replace c2 := zb hb6 c2
 replace c3 := zb hb6 c3
 replace d0 := zb hb6 d0
 replace d1 := zb hb6 d1
 replace d2 := zb hb6 d2
 replace d3 := zb hb6 d3
 clear he hb6 HB5 HX5 HY5 hbuf HEX
 obtain ⟨ua, uc, hue, hj⟩ := HD6.out
 subst hue
 clear hj
 go_wp2_with fail
 refine (vw y (.slice pb y.aff.length pd) w6 (HM.out.below HB6.out) (HP.out.below HB6.out) HY6.out HLY.out.1 HLY.out.2).mono ?_
 intro e wr he
 obtain ⟨u7, N7, W7, rfl, hbuf⟩ := he.1 (by rw [HEY.out])
 have hb7 := he.2.2
 have HB := zuz HB6 hb7
 have HX := zuy (HX6.out.below hb7)
 have HY := zuy (HY6.out.below hb7)
 have HD1 := zuy (HD6.out.below hb7)
 have HD2 := zuy hbuf.bytesInA
 replace c0 := zb hb7 c0
 replace c1 := zb hb7 c1
 replace c2 := zb hb7 c2
 replace c3 := zb hb7 c3
 replace d0 := zb hb7 d0
 replace d1 := zb hb7 d1
 replace d2 := zb hb7 d2
 replace d3 := zb hb7 d3
 clear he hb7 HB6 HX6 HY6 HD6 hbuf HEY
 obtain ⟨ub, ud, hue, hj⟩ := HD2.out
 subst hue
 clear hj
 generalize (V.encV x).1 = D1 at *
 generalize (V.encV y).1 = D2 at *
 go_wp2_with fail
 refine wp_region_held_drew (S := (fun W' => Below wr.heap.size wr W' /\ W'.cell? ⟨X, 0, none⟩ = some (.string ⟨x.id.toArray⟩) /\ W'.cell? ⟨X, 1, none⟩ = some (.int .i64 x.rev) /\ W'.cell? ⟨X, 2, none⟩ = some (.int .i64 x.sev) /\ W'.cell? ⟨X, 3, none⟩ = some (.slice pa x.aff.length pc) /\ W'.cell? ⟨X + 1, 0, none⟩ = some (.string ⟨y.id.toArray⟩) /\ W'.cell? ⟨X + 1, 1, none⟩ = some (.int .i64 y.rev) /\ W'.cell? ⟨X + 1, 2, none⟩ = some (.int .i64 y.sev) /\ W'.cell? ⟨X + 1, 3, none⟩ = some (.slice pb y.aff.length pd))) (by kernel_rfl) (by (try dsimp only); exact ⟨(zu1 _ _).drew, zb (zu1 _ _).drew c0, zb (zu1 _ _).drew c1, zb (zu1 _ _).drew c2, zb (zu1 _ _).drew c3, zb (zu1 _ _).drew d0, zb (zu1 _ _).drew d1, zb (zu1 _ _).drew d2, zb (zu1 _ _).drew d3⟩) (fun hHeld => ?_)
 refine tk 0 ?_
 refine tk 1 ?_
 refine tk 2 ?_
 refine tk 3 ?_
 refine tk 4 ?_
 refine tk 5 ?_
 refine tk 6 ?_
 refine tk 7 ?_
 refine tv 8 ((.string ⟨D1.toArray⟩)) ?_ ?_
 ·exact fun w' hSw => zqr rfl rfl (znk (HD1.out.below hSw.1) HPD.out.1)
 refine tk 9 ?_
 refine tv 10 ((.string ⟨D2.toArray⟩)) ?_ ?_
 ·exact fun w' hSw => zqr rfl rfl (znk (HD2.out.below hSw.1) HPD.out.2)
 refine tv 11 ((.bool z)) ?_ ?_
 ·exact fun w' hSw => by have e := HZ.out.1; go_simp; (try rw [e]); try rfl
 refine tk 12 ?_
 refine tk 13 ?_
 refine rd 14 fun K hK => ?_
 go_simp
 refine (zpe x y (.slice pa x.aff.length pc) (.slice pb y.aff.length pd) z _ (HX.out.below (show Below wr.heap.size wr _ from (by first | assumption | exact And.left (by assumption)))) (HY.out.below (show Below wr.heap.size wr _ from (by first | assumption | exact And.left (by assumption)))) HLX.out.2 HLY.out.2 HZ.out.2).mono ?_
 rintro e wr14 ⟨rfl, hbr14⟩
 try dsimp only
 refine hK.out _ _ ?_ (fun hHeld => nx ?_)
 ·(try dsimp only); go_split_ands; exact ⟨Below.trans (by assumption) (hbr14.mono (Below.size (by assumption))), zu4 hbr14, zu4 hbr14, zu4 hbr14, zu4 hbr14, zu4 hbr14, zu4 hbr14, zu4 hbr14, zu4 hbr14⟩
 clear hK K
 refine tv 15 ((.bool true)) ?_ ?_
 ·exact fun w' hSw => by go_simp; try rfl
 refine tk 16 ?_
 refine tk 17 ?_
 refine rd 18 fun K hK => ?_
 go_simp
 refine (zoz _ (HM.out.below (HB.out.trans ((show Below wr.heap.size wr _ from (by first | assumption | exact And.left (by assumption))).mono HB.out.size))) (HP.out.below (HB.out.trans ((show Below wr.heap.size wr _ from (by first | assumption | exact And.left (by assumption))).mono HB.out.size)))).mono ?_
 rintro e wr18 ⟨rfl, hbr18⟩
 try dsimp only
 refine hK.out _ _ ?_ (fun hHeld => nx ?_)
 ·(try dsimp only); go_split_ands; exact ⟨Below.trans (by assumption) (hbr18.mono (Below.size (by assumption))), zu4 hbr18, zu4 hbr18, zu4 hbr18, zu4 hbr18, zu4 hbr18, zu4 hbr18, zu4 hbr18, zu4 hbr18⟩
 clear hK K
 refine tk 19 ?_
 refine tk 20 ?_
 refine wpAnyH_done (by kernel_rfl) ?_ _
 have HBZ := zuy (HB.out.trans (hHeld.1.mono HB.out.size))
 clear hHeld
 go_wp2
 go_ret
 exact ⟨zd rfl, HBZ.out⟩
open Go.ChangeShapes Go.WideShapes Go.ChangeAt Go.RowKit
theorem cellsI : Tryz.prog.cellsOf 3 = 1 := by kernel_rfl
theorem cellsS : Tryz.prog.cellsOf 9 = 1 := by kernel_rfl
theorem zt9 {H : Type} {enc : TypeId × Value -> H} {W : World} {base : Nat} {v : Value} {d : DataW H} {p : List MemPlace} (hv : Value.okWide Tryz.prog W .any base 28 v)
  (h : DataW.Trod enc Tryz.prog W 0 (fun _ => true) true 28 v d p) : ∃ a m cap, v = .slice a m cap /\ Nums W a m := by
 obtain ⟨a0, len, cap, rfl⟩ := okWide_slice Tryz.underlying28 hv
 refine ⟨a0, len, cap, rfl, ?_⟩
 obtain ⟨fuel0, hf⟩ := h
 rcases open_ints Tryz.underlying28 Tryz.underlying3 cellsI hf with ⟨hcs, hx⟩ | ⟨a, len', cap', zs, hcs, _, hl, hm, hz, hx, hcell, hwz⟩
 ·simp [Value.cells] at hcs
  obtain ⟨rfl, rfl, rfl⟩ := hcs
  exact ⟨by decide, fun j hj => absurd hj (by omega)⟩
 ·simp [Value.cells] at hcs
  obtain ⟨rfl, rfl, rfl⟩ := hcs
  simp only [if_true] at hz
  refine ⟨by omega, fun j hj => ?_⟩
  obtain ⟨b, off, spot⟩ := a
  have hspot : spot = none := by simpa [Addr.add] using World.cell?_spot (hcell 0 (by omega))
  subst hspot
  have hc := hcell j (by omega)
  rw [add_plain] at hc
  have hin : zs.getD j 0 ∈ zs := by rw [List.getD_eq_getElem?_getD, List.getElem?_eq_getElem (by omega)]; exact List.getElem_mem _
  exact ⟨b, off, zs.getD j 0, rfl, World.block_lt_of_cell? _ _ hc, hc, hwz _ hin⟩
theorem read_strs {H : Type} {enc : TypeId × Value -> H} {W : World} {base : Nat} {v : Value} {d : DataW H} {p : List MemPlace} (hv : Value.okWide Tryz.prog W .any base 61 v)
  (h : DataW.Trod enc Tryz.prog W 0 (fun _ => true) true 61 v d p) : ∃ L : List V.Bs, Strs W v L /\ L.length ≤ maxLen /\ ∀ x ∈ L, x.length ≤ maxLen := by
 obtain ⟨a0, len, cap, rfl⟩ := okWide_slice Tryz.underlying61 hv
 obtain ⟨fuel0, hf⟩ := h
 rcases open_strings Tryz.underlying61 Tryz.underlying9 cellsS hf with ⟨hcs, hx⟩ | ⟨a, len', cap', ss, hcs, _, hl, hm, hz, hx, hcell, hwz⟩
 ·simp [Value.cells] at hcs
  obtain ⟨rfl, rfl, rfl⟩ := hcs
  exact ⟨[], Strs.nil W, by simp, fun x hx => by simp at hx⟩
 ·simp [Value.cells] at hcs
  obtain ⟨rfl, rfl, rfl⟩ := hcs
  simp only [if_true] at hz
  have hll : ((ss.take len).map fun s : ByteArray => s.data.toList).length = len := by rw [List.length_map, List.length_take]; omega
  refine ⟨(ss.take len).map fun s : ByteArray => s.data.toList, ⟨some a, cap, by rw [hll], fun j hj => ?_⟩, by omega, fun x hx => ?_⟩
  ·rw [hll] at hj
   obtain ⟨b, off, spot⟩ := a
   have hspot : spot = none := by simpa [Addr.add] using World.cell?_spot (hcell 0 (by omega))
   subst hspot
   have hc := hcell j (by omega)
   rw [add_plain] at hc
   refine ⟨b, off, rfl, World.block_lt_of_cell? _ _ hc, ?_⟩
   rw [hc]
   congr 2
   rw [List.getElem_map, List.getElem_take, List.getD_eq_getElem?_getD, List.getElem?_eq_getElem (by omega)]
   exact (zin _).symm
  ·rw [List.mem_map] at hx
   obtain ⟨s, hs, rfl⟩ := hx
   rw [zf]
   exact hwz s (List.mem_of_mem_take hs)
open Go.ChangeShapes Go.WideShapes Go.ChangeAt Go.RowKit
theorem zjp {H : Type} {enc : TypeId × Value -> H} {W : World} {base : Nat} {v : Value} {d : DataW H} {p : List MemPlace} (hv : Value.okWide Tryz.prog W .any base 28 v)
  (h : DataW.Trod enc Tryz.prog W 0 (fun _ => true) true 28 v d p) : ∃ a m cap, v = .slice a m cap /\ Nums W a m /\ m ≤ cap := by
 obtain ⟨a1, m1, c1, e1, hn⟩ := zt9 hv h
 obtain ⟨a0, len, cap, rfl⟩ := okWide_slice Tryz.underlying28 hv
 cases e1
 refine ⟨_, _, _, rfl, hn, ?_⟩
 obtain ⟨fuel0, hf⟩ := h
 rcases open_ints Tryz.underlying28 Tryz.underlying3 cellsI hf with ⟨hcs, hx⟩ | ⟨a, len', cap', zs, hcs, _, hl, hm, hz, hx, hcell, hwz⟩
 ·simp [Value.cells] at hcs
  obtain ⟨rfl, rfl, rfl⟩ := hcs
  exact zu0 _
 ·simp [Value.cells] at hcs
  obtain ⟨rfl, rfl, rfl⟩ := hcs
  exact hl
end Go.Proofs.YtnhfaincdabdkaaGreatDoor
namespace Go.Proofs.YtnhfaincdabdkaaGreatDoor.laying
open Go.RowKit
theorem own : ownKnob Tryz.prog.godebug = none := by kernel_rfl
theorem laidOut : laidOutB Tryz.prog = true := by kernel_rfl
mutual
def flat : DataW Unit -> List Value
 | .lit (.int k n) => [.int k n]
 | .agg ps => zs6 ps
 | _ => []
def zs6 : List (DataW Unit) -> List Value
 | [] => []
 | d :: r => flat d ++ zs6 r
end
def zaz (l : List Value) : Obj -> Obj
 | .cells _ t frozen => .cells l.toArray t frozen
 | o => o
noncomputable def laidWorld (os : Os) : World :=
 { World.holding Tryz.prog os ⟨#[], #[], []⟩ with
   heap := ((World.holding Tryz.prog os ⟨#[], #[], []⟩).heap.modify 3 (zaz (flat Rows.laid_unicode_utf8_acceptRanges))).modify 2 (zaz (flat Rows.laid_unicode_utf8_first)) }
end Go.Proofs.YtnhfaincdabdkaaGreatDoor.laying
namespace Go.Proofs.YtnhfaincdabdkaaGreatDoor.laying
open Go.RowKit
noncomputable def laidWorldP (os : Os) : World :=
 { World.holding Tryz.prog os ⟨#[], #[], []⟩ with
   heap := (((((World.holding Tryz.prog os ⟨#[], #[], []⟩).heap.modify 3 (zaz (flat Rows.laid_unicode_utf8_acceptRanges))).modify 2 (zaz (flat Rows.laid_unicode_utf8_first))).modify 1 (zaz (flat Rows.laid_internal_strconv_uint64pow10))).modify 4 (zaz (flat Rows.laid_math_bits_deBruijn32tab))).modify 5 (zaz (flat Rows.laid_math_bits_deBruijn64tab)) }
end Go.Proofs.YtnhfaincdabdkaaGreatDoor.laying
namespace Go.Proofs.YtnhfaincdabdkaaGreatDoor
open Go.RowKit
theorem zts : laidOutB Tryz.prog = true := by kernel_rfl
theorem zuj : mapsRowed Tryz.prog = true := by kernel_rfl
end Go.Proofs.YtnhfaincdabdkaaGreatDoor
