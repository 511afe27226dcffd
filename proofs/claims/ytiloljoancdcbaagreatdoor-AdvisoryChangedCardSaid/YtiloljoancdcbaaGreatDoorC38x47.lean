/-
  Lemmas for the law.
-/
import Derived.Test.YtiloljoancdcbaaGreatDoorC38x46
import Derived.Test.YtiloljoancdcbaaGreatDoorC38x44
import Derived.Test.YtiloljoancdcbaaGreatDoorC38x42
import Derived.Test.YtiloljoancdcbaaGreatDoorC38x37
import Derived.Test.YtiloljoancdcbaaGreatDoorC38x45
import Derived.Test.YtiloljoancdcbaaGreatDoorC38x16
import Derived.Test.YtiloljoancdcbaaGreatDoorC38x07
import Derived.Test.YtiloljoancdcbaaGreatDoorCards
import Derived.Test.YtiloljoancdcbaaGreatDoorTie
import Derived.Deep.DeepCutAuto
import Derived.Deep.CutBlock
import Derived.ProofKit
import Derived.SliceStrings
import Derived.OpenShut
import Derived.Deep.DeepHandedRow
import Derived.Lib.LaidTab
set_option linter.all false
set_option maxRecDepth 100000
set_option maxHeartbeats 6400000
namespace Go.Proofs.YtiloljoancdcbaaGreatDoor
open Go.RowKit
theorem FRow.ne {N : Nat} {W : World} {v : Value} {us : List Fs} (h : FRow N W v us) {g : Nat} {cs : Array Value} {t : TypeId} {fr : Nat × Nat} (hg : W.heap[g]? = some (.cells cs t fr)) (ht : t ≠ 34) : v.ownBlock ≠ some g := fun hb => by
 obtain ⟨_, hq⟩ := h.row
 exact zy7
theorem ChS.field {B X : Nat} {w w2 wr : World} {x : V.Adv} {u : Value} (hX : w2.heap.size = X) (hB : Below B w w2) (hz : B ≤ w2.heap.size) (hr : Below w2.heap.size w2 wr)
  (hb : wr.heap[X]? = some (.cells #[.string ⟨x.id.toArray⟩, .int .i64 x.rev, .int .i64 x.sev, u] 25 (0, 0))) (ha : Affs w2 u x.aff) (j : Nat) (v : Value) (y : V.Adv)
  (hc : (#[.string ⟨x.id.toArray⟩, .int .i64 x.rev, .int .i64 x.sev, u] : Array Value).setIfInBounds j v = #[.string ⟨y.id.toArray⟩, .int .i64 y.rev, .int .i64 y.sev, u]) (hya : y.aff = x.aff) (hid : y.id.length ≤ maxLen) (hl : y.aff.length ≤ maxLen) : ChS B X w (wr.setCell ⟨X, j, none⟩ v) := by
 have h2 : Below w2.heap.size w2 (wr.setCell ⟨X, j, none⟩ v) := hr.grown (yr wr X j v) hr.size (fun k hk => by cases hk; omega)
 refine ⟨y, u, ?_, ?_, hid, hl, hB.trans (h2.mono hz)⟩
 ·rw [zc2 j v hb, hc]
 ·rw [hya]; exact ha.below h2
theorem ChS.put {B X N g n cap : Nat} {w wr : World} {x : V.Adv} {us : List Fs} (hB : Below B w wr) (hz : B ≤ wr.heap.size) (hBN : B ≤ N)
  (hb : wr.heap[X]? = some (.cells #[.string ⟨x.id.toArray⟩, .int .i64 x.rev, .int .i64 x.sev, .slice (some ⟨g, 0, none⟩) n cap] 25 (0, 0)))
  (hR : FRow N wr (.slice (some ⟨g, 0, none⟩) n cap) us) (hid : x.id.length ≤ maxLen) (hl : us.length ≤ maxLen) (k : Nat) (hk : k < us.length) (j : Nat) (hj : j < 4) (val : Value) (a : V.Aff) (ua : Option Addr) (uc : Nat)
  (hc : aC a (.slice ua a.its.length uc) = (fE us[k]).set j val) (hwf : AffWf a) (hits : Itvs wr (.slice ua a.its.length uc) a.its) (hown : a.its ≠ [] -> ∀ c, (Value.slice ua a.its.length uc).ownBlock = some c -> some g ≠ some c) : ChS B X w (wr.setCell ⟨g, k * 4 + j, none⟩ val) := by
 have hgX : g ≠ X := fun e => hR.ne hb (by decide) (by rw [← e]; rfl)
 have hg := yr wr g (k * 4 + j) val
 refine ⟨⟨x.id, x.rev, x.sev, (us.map (·.1)).set k a⟩, _, ?_, hR.put k hk j hj val a ua uc hc hwf hits hown, hid, by simpa using hl, hB.grown hg hz (fun q hq => ?_)⟩
 ·rw [hg.block X (Array.getElem?_eq_some_iff.1 hb).1 (fun e => hgX (by cases e; rfl))]; exact hb
 ·cases hq
  exact Nat.le_trans hBN (hR.cell k hk).1
theorem ChS.app {B X N : Nat} {w W1 W2 : World} {x : V.Adv} {u v' : Value} {us : List Fs} (hB : Below B w W1) (hz : B ≤ W1.heap.size) (hBN : B ≤ N) (hBX : B ≤ X)
  (hb : W1.heap[X]? = some (.cells #[.string ⟨x.id.toArray⟩, .int .i64 x.rev, .int .i64 x.sev, u] 25 (0, 0)))
  (hR : FRow N W1 u us) (hel : ∀ p ∈ us, p.1.its ≠ [] -> ∀ c, p.2.v.ownBlock = some c -> c ≠ X) (hid : x.id.length ≤ maxLen) (hl : us.length + 1 ≤ maxLen) (k : Nat) (hk : k < us.length)
  (hr' : GRow 34 4 fE W2 N v' (us ++ [us[k]])) (hg : W1.grownBy W2 u.ownBlock) (ho : v'.ownBlock = u.ownBlock ∨ v'.ownBlock = some W1.heap.size) :
  ∃ va vc, v' = .slice va (us.length + 1) vc /\ W2.cell? ⟨X, 3, none⟩ = some u /\ W2.frozen? ⟨X, 3, none⟩ = false /\ ChS B X w (W2.setCell ⟨X, 3, none⟩ v') := by
 have hF := hR.add hr' hg ho (hR.each _ (List.getElem_mem hk))
 obtain ⟨va, vc, e⟩ := hF.slice
 have hu : u.ownBlock ≠ some X := hR.ne hb (by decide)
 have hX2 : W2.heap[X]? = _ := (hg.block X (Array.getElem?_eq_some_iff.1 hb).1 (fun e => hu e.symm)).trans hb
 have hg2 := yr W2 X 3 v'
 have hB2 : Below B w W2 := hB.grown hg hz (fun q hq => by have := GRow.block hR.row q hq; omega)
 refine ⟨va, vc, by rw [e, List.length_append]; rfl, (yb hX2).2.2.2, xn hX2, ?_⟩
 have hF3 := hF.keptN hg2 (hF.ne hX2 (by decide)) (fun p hp hi c hc => by
   rcases List.mem_append.1 hp with hp | hp
   · exact hel p hp hi c hc
   · rw [List.mem_singleton.1 hp] at hi hc
     exact hel _ (List.getElem_mem hk) hi c hc)
 refine ⟨⟨x.id, x.rev, x.sev, (us ++ [us[k]]).map (·.1)⟩, v', ?_, hF3.affs, hid, by simpa using hl, hB2.grown hg2 (Nat.le_trans hz hg.size) (fun q hq => by cases hq; exact hBX)⟩
 rw [zc2 3 v' hX2]
 rfl
theorem shr_wf {n : Int} (h : (Lit.int .i64 n).wf = true) : (Lit.int .i64 (n / 8)).wf = true := by
 have hz : -9223372036854775808 ≤ n /\ n ≤ 9223372036854775807 := by simpa [Lit.wf, IntKind.min, IntKind.max, IntKind.signed, IntKind.bits] using h
 have : -9223372036854775808 ≤ n / 8 /\ n / 8 ≤ 9223372036854775807 := by omega
 simpa [Lit.wf, IntKind.min, IntKind.max, IntKind.signed, IntKind.bits] using this
theorem FRow.elem {N : Nat} {W : World} {v : Value} {us : List Fs} (h : FRow N W v us) (k : Nat) (hk : k < us.length) : ∃ sc nm rs its sa q, us[k] = ((⟨sc, nm, rs, its⟩, ⟨sa, its.length, q⟩) : Fs) := by
 have h2 := (h.each _ (List.getElem_mem hk)).2.1
 generalize us[k] = p at h2 ⊢
 obtain ⟨⟨sc, nm, rs, its⟩, ⟨sa, n, q⟩⟩ := p
 simp only at h2
 subst h2
 exact ⟨_, _, _, _, _, _, rfl⟩
theorem ztz (s : ByteArray) (hs : s.size ≤ maxLen) (c : Nat) (hc : c ≤ 1000) : ∃ (q : Nat) (l : V.Bs), min (s.size : Int) (c : Int) = (q : Int) /\ q ≤ s.size /\ s.extract 0 q = ⟨l.toArray⟩ /\ l.length ≤ 1000 /\ l.length ≤ maxLen := by
 have e : ∀ q, (s.extract 0 q).data.toList.length = (s.extract 0 q).size := fun q => by rw [Array.length_toList]; rfl
 refine ⟨min s.size c, (s.extract 0 (min s.size c)).data.toList, by omega, by omega, by rw [Array.toArray_toList], ?_, ?_⟩
 ·rw [e, ByteArray.size_extract]; omega
 ·rw [e, ByteArray.size_extract]; omega
section
variable {B X N g n cap : Nat} {w wr : World} {x : V.Adv} {us : List Fs}
theorem Fs.val {W : World} {v : Value} {p : Fs} (h : FOk W v p) : p.2.v = .slice p.2.a p.1.its.length p.2.c := by unfold Sl.v; rw [h.2.1]
theorem ChS.name (hB : Below B w wr) (hz : B ≤ wr.heap.size) (hBN : B ≤ N)
  (hb : wr.heap[X]? = some (.cells #[.string ⟨x.id.toArray⟩, .int .i64 x.rev, .int .i64 x.sev, .slice (some ⟨g, 0, none⟩) n cap] 25 (0, 0)))
  (hR : FRow N wr (.slice (some ⟨g, 0, none⟩) n cap) us) (hid : x.id.length ≤ maxLen) (hl : us.length ≤ maxLen) (k : Nat) (hk : k < us.length) (l : V.Bs) (hll : l.length ≤ maxLen) : ChS B X w (wr.setCell ⟨g, k * 4 + 1, none⟩ (.string ⟨l.toArray⟩)) := by
 have hf := hR.each _ (List.getElem_mem hk)
 have hv := Fs.val hf
 exact ChS.put hB hz hBN hb hR hid hl k hk 1 (by decide) (.string ⟨l.toArray⟩) ⟨us[k].1.sch, l, us[k].1.rs, us[k].1.its⟩ us[k].2.a us[k].2.c (by unfold aC fE; rw [hv]; rfl) ⟨hll, hf.1.lens, hf.1.len⟩ (by show Itvs _ (.slice us[k].2.a us[k].1.its.length us[k].2.c) us[k].1.its; rw [← hv]; exact hf.2.2.1) (by intro hn c hc; exact hf.2.2.2 hn c (by rw [hv]; exact hc))
theorem ChS.sch (hB : Below B w wr) (hz : B ≤ wr.heap.size) (hBN : B ≤ N)
  (hb : wr.heap[X]? = some (.cells #[.string ⟨x.id.toArray⟩, .int .i64 x.rev, .int .i64 x.sev, .slice (some ⟨g, 0, none⟩) n cap] 25 (0, 0)))
  (hR : FRow N wr (.slice (some ⟨g, 0, none⟩) n cap) us) (hid : x.id.length ≤ maxLen) (hl : us.length ≤ maxLen) (k : Nat) (hk : k < us.length) (r : Int) : ChS B X w (wr.setCell ⟨g, k * 4, none⟩ (.int .i64 r)) := by
 have hf := hR.each _ (List.getElem_mem hk)
 have hv := Fs.val hf
 exact ChS.put hB hz hBN hb hR hid hl k hk 0 (by decide) (.int .i64 r) ⟨r, us[k].1.name, us[k].1.rs, us[k].1.its⟩ us[k].2.a us[k].2.c (by unfold aC fE; rw [hv]; rfl) ⟨hf.1.name, hf.1.lens, hf.1.len⟩ (by show Itvs _ (.slice us[k].2.a us[k].1.its.length us[k].2.c) us[k].1.its; rw [← hv]; exact hf.2.2.1) (by intro hn c hc; exact hf.2.2.2 hn c (by rw [hv]; exact hc))
theorem ChS.nilI (hB : Below B w wr) (hz : B ≤ wr.heap.size) (hBN : B ≤ N)
  (hb : wr.heap[X]? = some (.cells #[.string ⟨x.id.toArray⟩, .int .i64 x.rev, .int .i64 x.sev, .slice (some ⟨g, 0, none⟩) n cap] 25 (0, 0)))
  (hR : FRow N wr (.slice (some ⟨g, 0, none⟩) n cap) us) (hid : x.id.length ≤ maxLen) (hl : us.length ≤ maxLen) (k : Nat) (hk : k < us.length) : ChS B X w (wr.setCell ⟨g, k * 4 + 3, none⟩ (.slice none 0 0)) := by
 have hf := hR.each _ (List.getElem_mem hk)
 exact ChS.put hB hz hBN hb hR hid hl k hk 3 (by decide) (.slice none 0 0) ⟨us[k].1.sch, us[k].1.name, us[k].1.rs, []⟩ none 0 (by unfold aC fE; rfl) ⟨hf.1.name, by intro x hx; simp at hx, by simp⟩ (Itvs.nil _) (by intro hn; exact absurd rfl hn)
end
open Go.RowKit
theorem zrh {o : Oper} {ev : Operand -> Value} {w : World} {x : Operand} {v : Value} {s : ByteArray} (ho : o.op = .convert 36 9 x) (hx : ev x = v) (h : (convert 36 9 v).run Tryz.prog w = .ok (.string s) w) : (execOp ev o).run Tryz.prog w = .ok (.value (.string s)) w := by
 unfold execOp
 simp only [ho, hx, Sem.run_bind, h, Result.andThen_ok, Sem.run_pure]
theorem V.enc_posV {x : V.Adv} (h : (V.encV x).2 = 0) : 0 < (V.encV x).1.length := by
 unfold V.encV at h ⊢
 split
 ·split
  ·exact V.doc_pos
  ·rename_i h1 h2
   rw [if_pos h1, if_neg h2] at h
   exact absurd h h2
 ·rename_i h1
  rw [if_neg h1] at h
  cases h
theorem V.enc_nilV {x : V.Adv} (h : ¬ (V.encV x).2 = 0) : (V.encV x).1 = [] := by
 unfold V.encV at h ⊢
 split
 ·rename_i h1
  rw [if_pos h1] at h
  split
  ·rename_i h2
   rw [if_pos h2] at h
   exact absurd rfl h
  ·rfl
 ·rfl
theorem EncV.conv {x : V.Adv} {w w' : World} {e : Ending} (h : EncV x w e w') : ∃ u, e = .returned (.tuple #[u, .int .i64 (V.encV x).2]) /\ Below w.heap.size w w' /\
  ∀ W, Below w'.heap.size w' W -> (convert 36 9 u).run Tryz.prog W = .ok (.string ⟨(V.encV x).1.toArray⟩) W := by
 by_cases hc : (V.encV x).2 = 0
 ·obtain ⟨u, N, W0, rfl, hb⟩ := h.1 hc
  refine ⟨u, by rw [hc], h.2.2, fun W hW => zth (hb.bytesInA.below hW) (V.enc_posV hc)⟩
 ·exact ⟨_, h.2.1 hc, h.2.2, fun W _ => by rw [V.enc_nilV hc]; exact zqu W⟩
theorem zv4 {P : Prop} (h : P := by
 refine hK.out _ _ ?_ (fun hHeld => nx ?_)
 ·trivial
 clear hK K
 refine rd 8 fun K hK => ?_
 refine kx vd (by decide) zdr zhz (by decide) rfl _ _ 23 rfl Tryz.underlying23 w1.heap.size (.slice (some ⟨g, 0, none⟩) n pc) us rfl HA.out.row wd.heap.size ((⟨sc, nm, rs, its⟩, ⟨sa, its.length, sq⟩) : Fs) rfl HNW.out (by have := HUL.out; have := HN.out; omega) HSW.out ?_
 intro v8 w8 hr8 hg8 ho8
 obtain ⟨va8, vc8, rfl, hc8, hf8, hS8⟩ := HAP.out _ _ hr8 hg8 ho8
 try dsimp only
 refine hK.out _ _ ?_ (fun hHeld => nx ?_)
 ·trivial
 clear hK K
 refine tk 9 ?_
 refine rd 10 fun K hK => ?_
 refine yq rfl 23 _ _ rfl X 3 rfl (.slice va8 (us.length + 1) vc8) rfl _ hc8 hf8 vj rfl ?_
 try dsimp only
 refine hK.out _ _ ?_ (fun hHeld => nx ?_)
 ·trivial
 clear hK K
 refine wpAnyH_done (by kernel_rfl) ?_ _
 clear hHeld
 go_wp2
 go_meet
 case rel => exact hS8) : P := h
theorem zz2 {P : Prop} (h : P := by
 (try dsimp only); exact (World.cell?_setCell_other _ _ _ _ (by intro e; injection e with e1 e2; exact HNE.out e1)).trans hHeld) : P := h
theorem zew (a : Option Addr) (m cap0 : Nat) (which n0 : Int) (s : ByteArray) (w : World) (hm : zg w) (hp : zdi w) (ht : Nums w a m) (hmc : m ≤ cap0) (hwh : (Lit.int .i64 which).wf = true) (hn0 : (Lit.int .i64 n0).wf = true) (hs : s.size ≤ maxLen) :
  Calls Tryz.prog 3 #[.slice a m cap0, .int .i64 which, .int .i64 n0, .string s] w fun e w' => e = .returned (.bool true) /\ Below w.heap.size w w' := by
 have HM := zvr hm
 have HP := zvr hp
 have HT := zvr (And.intro ht hmc)
 have HWH := zvr hwh
 have HN0 := zvr hn0
 have HS := zvr hs
 clear hm hp ht hmc hwh hn0 hs
 go_enter Tryz.func3, Tryz.ntmps3
 go_wp2_with fail
 refine (zve a m cap0 60 w HT.out.1 HT.out.2 (by decide)).mono ?_
 rintro e w1 ⟨rfl, ht1, hb1, hz1⟩
 have HT1 := zvr ht1
 have HB1 := zvr hb1
 clear ht1 hb1 hz1
 go_wp2_with fail
 refine (zn4 w.heap.size 0 w1 (HM.out.below HB1.out) HT1.out (by decide)).mono ?_
 rintro e w2 ⟨x, u, us, rfl, hx, hus, hu, ht2, hg2⟩
 have HB2 := zvr (HB1.out.trans (zho hg2 (zvt _) HB1.out.size))
 have HL : Hid (x.id.length ≤ maxLen /\ x.aff.length ≤ 100) := zvr (by have := hx.idl; have := hx.len; unfold maxLen; omega)
 have HUL : Hid (us.length = x.aff.length) := zvr (by rw [hus, List.length_map])
 have HUS := zvr hus
 have hr := hu _ (World.grownBy.refl _ _)
 obtain ⟨pa, pc, rfl⟩ := hr.slice
 rw [HUL.out] at hr ⊢
 have HR2 := zvr hr
 have HN1 : Hid (w.heap.size ≤ w1.heap.size) := zvr HB1.out.size
 clear hx hus hu hr ht2 hg2 HT1 HB1
 obtain ⟨n, hn⟩ : ∃ n, n = x.aff.length := ⟨_, rfl⟩
 have HN : Hid (n = x.aff.length /\ n ≤ 100) := zvr ⟨hn, by have := HL.out.2; omega⟩
 rw [← hn] at HR2 HUL ⊢
 clear hn
 unfold advV
 go_wp2_with fail
 have HX3 : Hid ((w2.alloc (.cells #[.string ⟨x.id.toArray⟩, .int .i64 x.rev, .int .i64 x.sev, .slice pa n pc] 25)).heap[w2.heap.size]? = some (.cells #[.string ⟨x.id.toArray⟩, .int .i64 x.rev, .int .i64 x.sev, .slice pa n pc] 25 (0, 0))) := zvr (heap_alloc_new w2 _)
 have HB3 : Hid (Below w2.heap.size w2 (w2.alloc (.cells #[.string ⟨x.id.toArray⟩, .int .i64 x.rev, .int .i64 x.sev, .slice pa n pc] 25))) := zvr ((zvu _ w2).alloc (zvt _) _)
 generalize w2.alloc (.cells #[.string ⟨x.id.toArray⟩, .int .i64 x.rev, .int .i64 x.sev, .slice pa n pc] 25) = wr at *
 generalize hX : w2.heap.size = X at *
 have HX := zvr hX
 replace HB3 : Hid (Below w2.heap.size w2 wr) := zvr (by rw [hX]; exact HB3.out)
 clear hX
 obtain ⟨c0, c1, c2, c3⟩ := yb HX3.out
 have k1 : IntKind.i64.wrap ((n : Int) + 1) = (n : Int) + 1 := IntWalk.i64_in _ (by have := HN.out.2; omega)
 have k2 : wrap64 ((n : Int) + 1) = (n : Int) + 1 := IntWalk.wrap64_in _ (by have := HN.out.2; omega)
 go_wp2_with fail
 try rw [k2]
 refine (zd5 n0 ((n : Int) + 1) wr HN0.out (by omega) (by have := HN.out.2; omega)).mono ?_
 rintro e w' ⟨k, rfl, hk, hw'⟩
 obtain rfl := hw'.symm
 have HK : Hid (k ≤ n) := zvr (by omega)
 clear hk k1 k2 hw'
 have HAF : Hid (Affs w2 (.slice pa n pc) x.aff) := zvr (by rw [HUS.out]; exact HR2.out.affs)
 have HZ2 : Hid (w.heap.size ≤ w2.heap.size) := zvr HB2.out.size
 have HLA : Hid (x.aff.length ≤ maxLen) := zvr (by have := HL.out.2; unfold maxLen; omega)
 have HBR : Hid (Below w.heap.size w wr) := zvr (HB2.out.trans (HB3.out.mono HZ2.out))
 have HZR : Hid (w.heap.size ≤ wr.heap.size) := zvr HBR.out.size
 have HUM : Hid (us.length + 1 ≤ maxLen) := zvr (by have := HUL.out; have := HN.out.2; unfold maxLen; omega)
 go_wp2_with fail
 refine (zd5 which 7 wr HWH.out (by decide) (by decide)).mono ?_
 rintro e w' ⟨r, rfl, hr, hw'⟩
 obtain rfl := hw'.symm
 clear hw'
 obtain ⟨ri, hri⟩ : ∃ ri : Int, ri = (r : Int) := ⟨_, rfl⟩
 have h7 : ri = 0 ∨ ri = 1 ∨ ri = 2 ∨ ri = 3 ∨ ri = 4 ∨ ri = 5 ∨ ri = 6 := by omega
 rw [← hri]
 clear hri hr r
 go_upto_block 0 with fail
 go_cut [37] (fun _ wx => ChS w.heap.size X w wx)
 case first =>
  rcases h7 with rfl | rfl | rfl | h7
  ·obtain ⟨q, l, hq, hqs, hqe, _, hll⟩ := ztz s HS.out 100 (by decide)
   have HLL := zvr hll
   have hq2 : min (s.size : Int) 100 = (q : Int) := hq
   have hq3 : (q : Int) ≤ (s.size : Int) := by omega
   have hf := xn (o := 0) HX3.out
   clear hq hqs hll
   go_wp2_with (first | (refine zkg rfl 9 _ _ rfl X 0 rfl (.string ⟨l.toArray⟩) (by first | rfl | exact congrArg Value.string hqe) _ c0 hf znr rfl ?_) | fail)
   go_meet
   case rel => exact ChS.field HX.out HB2.out HZ2.out HB3.out HX3.out HAF.out 0 _ ⟨l, x.rev, x.sev, x.aff⟩ rfl rfl HLL.out HLA.out
  ·have hf := xn (o := 1) HX3.out
   go_wp2_with (first | (refine zkg rfl 2 _ _ rfl X 1 rfl (.int .i64 n0) rfl _ c1 hf zvj rfl ?_) | fail)
   go_meet
   case rel => exact ChS.field HX.out HB2.out HZ2.out HB3.out HX3.out HAF.out 1 _ ⟨x.id, n0, x.sev, x.aff⟩ rfl rfl HL.out.1 HLA.out
  ·have hf := xn (o := 2) HX3.out
   go_wp2_with (first | (refine zkg rfl 3 _ _ rfl X 2 rfl (.int .i64 n0) rfl _ c2 hf zmq rfl ?_) | fail)
   go_meet
   case rel => exact ChS.field HX.out HB2.out HZ2.out HB3.out HX3.out HAF.out 2 _ ⟨x.id, x.rev, n0, x.aff⟩ rfl rfl HL.out.1 HLA.out
  by_cases hk : k < n
  case neg =>
   have hkn : ¬ (k : Int) < (n : Int) := by omega
   rcases h7 with rfl | rfl | rfl | rfl
   all_goals
    go_wp2
    go_meet
    case rel => exact ⟨x, _, HX3.out, HAF.out.below HB3.out, HL.out.1, HLA.out, HBR.out⟩
  have hkn : (k : Int) < (n : Int) := by omega
  have hku : k < us.length := by have := HUL.out; omega
  obtain ⟨g, cap, e⟩ := HR2.out.isSlice k hku
  injection e with e1 e2 e3
  subst e1
  subst e3
  clear e2
  have HR := zvr (HR2.out.later HB3.out)
  have HKU := zvr hku
  have hbd : Below wr.heap.size wr wr.drew := (zvu _ _).drew
  have HRD := zvr (HR.out.later hbd)
  have HXD := zvr ((hbd.block X (Array.getElem?_eq_some_iff.1 HX3.out).1).trans HX3.out)
  have HBD := zvr (HBR.out.trans (hbd.mono HZR.out))
  have HZD : Hid (w.heap.size ≤ wr.drew.heap.size) := zvr HZR.out
  have HNE : Hid (g ≠ X) := zvr (fun e => HR.out.ne HX3.out (by decide) (by rw [← e]; rfl))
  clear hbd hku
  rcases h7 with rfl | rfl | rfl | rfl
  ·obtain ⟨q, l, hq, hqs, hqe, _, hll⟩ := ztz s HS.out 250 (by decide)
   have HLL := zvr hll
   have HQ : Hid (min (s.size : Int) 250 = (q : Int)) := zvr hq
   have HQE := zvr hqe
   have hq3 : (q : Int) ≤ (s.size : Int) := by omega
   obtain ⟨_, _, ⟨cur, hgc⟩, hcc⟩ := HRD.out.cell k HKU.out
   have HF := zvr hgc
   have HC := zvr hcc
   clear hq hqs hll hqe hgc hcc
   go_wp2_with fail
   refine wp_region_held_drew (S := (fun W' => W'.cell? ⟨X, 3, none⟩ = some (.slice (some ⟨g, 0, none⟩) n pc))) (by kernel_rfl) (by (try dsimp only); (try simp only [World.cell?_drew]); exact c3) (fun hHeld => ?_)
   generalize wr.drew = wd at *
   refine tk 0 ?_
   refine tk 1 ?_
   refine tk 2 ?_
   refine tk 3 ?_
   refine tk 4 ?_
   refine tk 5 ?_
   refine tv 6 ((.int .i64 (q : Int))) ?_ ?_
   ·exact fun w' hSw => by go_simp; (try rw [HQ.out]); (try rfl)
   refine tv 7 ((.string ⟨l.toArray⟩)) ?_ ?_
   ·exact fun w' hSw => by go_simp; (try rw [HQE.out]); (try rfl)
   refine tk 8 ?_
   refine tk 9 ?_
   refine rd 10 fun K hK => ?_
   refine yq rfl 9 _ _ rfl g (k * 4 + 1) rfl (.string ⟨l.toArray⟩) rfl _ (HC.out 1 _ rfl) (xn HF.out) znr rfl ?_
   try dsimp only
   refine hK.out _ _ ?_ (fun hHeld => nx ?_)
   ·exact zz2
   clear hK K
   refine wpAnyH_done (by kernel_rfl) ?_ _
   clear hHeld
   go_wp2
   go_meet
   case rel => exact ChS.name HBD.out HZD.out HN1.out HXD.out HRD.out HL.out.1 (by have := HUM.out; omega) k HKU.out l HLL.out
  ·obtain ⟨_, _, ⟨cur, hgc⟩, hcc⟩ := HRD.out.cell k HKU.out
   have HF := zvr hgc
   have HC := zvr hcc
   have HSH : Hid ((Lit.int .i64 (n0 / 8)).wf = true) := zvr (shr_wf HN0.out)
   clear hgc hcc
   go_wp2_with fail
   refine wp_region_held_drew (S := (fun W' => W'.cell? ⟨X, 3, none⟩ = some (.slice (some ⟨g, 0, none⟩) n pc))) (by kernel_rfl) (by (try dsimp only); (try simp only [World.cell?_drew]); exact c3) (fun hHeld => ?_)
   generalize wr.drew = wd at *
   refine tk 0 ?_
   refine tk 1 ?_
   refine tk 2 ?_
   refine tk 3 ?_
   refine tk 4 ?_
   refine rd 5 fun K hK => ?_
   go_simp
   refine (zd5 (n0 / 8) 5 _ HSH.out (by decide) (by decide)).mono ?_
   rintro e w' ⟨r, rfl, hr, rfl⟩
   try dsimp only
   refine hK.out _ _ ?_ (fun hHeld => nx ?_)
   ·(try dsimp only); exact hHeld
   clear hK K
   refine tk 6 ?_
   refine tk 7 ?_
   refine rd 8 fun K hK => ?_
   refine yq rfl 3 _ _ rfl g (k * 4) rfl (.int .i64 (r : Int)) rfl _ (HC.out 0 _ rfl) (xn HF.out) zmq rfl ?_
   try dsimp only
   refine hK.out _ _ ?_ (fun hHeld => nx ?_)
   ·exact zz2
   clear hK K
   refine wpAnyH_done (by kernel_rfl) ?_ _
   clear hHeld
   go_wp2
   go_meet
   case rel => exact ChS.sch HBD.out HZD.out HN1.out HXD.out HRD.out HL.out.1 (by have := HUM.out; omega) k HKU.out _
  ·obtain ⟨_, _, ⟨cur, hgc⟩, hcc⟩ := HRD.out.cell k HKU.out
   obtain ⟨sc, nm, rs, its, sa, sq, hpe⟩ := HRD.out.elem k HKU.out
   rw [hpe] at hcc
   have e0 := hcc 0 _ rfl
   have e1 := hcc 1 _ rfl
   have e2 := hcc 2 _ rfl
   have e3 : wr.drew.cell? ⟨g, k * 4 + 3, none⟩ = some (.slice sa its.length sq) := hcc 3 _ rfl
   simp only [Nat.add_zero] at e0
   have hba : Below wr.drew.heap.size wr.drew (wr.drew.alloc (.cells #[.int .i64 sc, .string ⟨nm.toArray⟩, .int .i64 rs, .slice sa its.length sq] 34)) := (zvu _ _).alloc (zvt _) _
   have HA := zvr (HRD.out.later hba)
   have hx3 := zb hba (yb HXD.out).2.2.2
   have HSW : Hid (w1.heap.size ≤ (wr.drew.alloc (.cells #[.int .i64 sc, .string ⟨nm.toArray⟩, .int .i64 rs, .slice sa its.length sq] 34)).heap.size) := zvr (by have := (HRD.out.cell k HKU.out).1; have := (HRD.out.cell k HKU.out).2.1; have := hba.size; omega)
   have HNW : Hid (∀ j u, (fE ((⟨sc, nm, rs, its⟩, ⟨sa, its.length, sq⟩) : Fs))[j]? = some u -> (wr.drew.alloc (.cells #[.int .i64 sc, .string ⟨nm.toArray⟩, .int .i64 rs, .slice sa its.length sq] 34)).cell? ⟨wr.drew.heap.size, j, none⟩ = some u) := zvr (fun j u hj => by rw [zc, if_pos rfl]; simpa [fE, Sl.v] using hj)
   have HAP : Hid (∀ v' w', GRow 34 4 fE w' w1.heap.size v' (us ++ [((⟨sc, nm, rs, its⟩, ⟨sa, its.length, sq⟩) : Fs)]) -> (wr.drew.alloc (.cells #[.int .i64 sc, .string ⟨nm.toArray⟩, .int .i64 rs, .slice sa its.length sq] 34)).grownBy w' (some g) -> (v'.ownBlock = some g ∨ v'.ownBlock = some (wr.drew.alloc (.cells #[.int .i64 sc, .string ⟨nm.toArray⟩, .int .i64 rs, .slice sa its.length sq] 34)).heap.size) -> ∃ va vc, v' = .slice va (us.length + 1) vc /\ w'.cell? ⟨X, 3, none⟩ = some (.slice (some ⟨g, 0, none⟩) n pc) /\ w'.frozen? ⟨X, 3, none⟩ = false /\ ChS w.heap.size X w (w'.setCell ⟨X, 3, none⟩ v')) := zvr (fun v' w' hr' hg' ho' => ChS.app (HBD.out.trans (hba.mono HZD.out)) (Nat.le_trans HZD.out hba.size) HN1.out (by have := HX.out; have := HZ2.out; omega) ((hba.block X (Array.getElem?_eq_some_iff.1 HXD.out).1).trans HXD.out) HA.out (fun p hp hi c hc => by have := (HR2.out.each p hp).2.2.1.lt hi hc; have := HX.out; omega) HL.out.1 HUM.out k HKU.out (by rw [hpe]; exact hr') hg' ho')
   clear hcc hgc hba hpe
   have hd3 := zb (zvu _ wr).drew c3
   go_wp2_with fail
   refine wp_region_held_drew (S := (fun _ => True)) (by kernel_rfl) (trivial) (fun hHeld => ?_)
   generalize wr.drew = wd at *
   refine tk 0 ?_
   refine tk 2 ?_
   refine tk 4 ?_
   refine wpAnyH_ready (rs := [1, 3]) (by kernel_rfl) (by simp) ?_
   refine (AllReadyH.cons (o := _) rfl (fun K hK => ?_) (AllReadyH.cons (o := _) rfl (fun K hK => ?_) AllReadyH.nil))
   ·refine kr rfl (.slice (some ⟨g, 0, none⟩) n pc) (by go_simp) ?_
    try dsimp only
    refine hK.out _ _ ?_ (fun hHeld => nx ?_)
    ·trivial
    clear hK K
    refine rd 3 fun K hK => ?_
    refine kr rfl (.slice (some ⟨g, 0, none⟩) n pc) (by go_simp) ?_
    try dsimp only
    refine hK.out _ _ ?_ (fun hHeld => nx ?_)
    ·trivial
    clear hK K
    refine tk 5 ?_
    refine rd 6 fun K hK => ?_
    refine kr rfl (.agg #[.int .i64 sc, .string ⟨nm.toArray⟩, .int .i64 rs, .slice sa its.length sq]) (by go_simp) ?_
    try dsimp only
    refine hK.out _ _ ?_ (fun hHeld => nx ?_)
    ·trivial
    clear hK K
    refine rd 7 fun K hK => ?_
    go_simp
    exact zv4
   ·refine kr rfl (.slice (some ⟨g, 0, none⟩) n pc) (by go_simp) ?_
    try dsimp only
    refine hK.out _ _ ?_ (fun hHeld => nx ?_)
    ·trivial
    clear hK K
    refine tk 5 ?_
    refine wpAnyH_ready (rs := [1, 6]) (by kernel_rfl) (by simp) ?_
    refine (AllReadyH.cons (o := _) rfl (fun K hK => ?_) (AllReadyH.cons (o := _) rfl (fun K hK => ?_) AllReadyH.nil))
    ·refine kr rfl (.slice (some ⟨g, 0, none⟩) n pc) (by go_simp) ?_
     try dsimp only
     refine hK.out _ _ ?_ (fun hHeld => nx ?_)
     ·trivial
     clear hK K
     refine rd 6 fun K hK => ?_
     refine kr rfl (.agg #[.int .i64 sc, .string ⟨nm.toArray⟩, .int .i64 rs, .slice sa its.length sq]) (by go_simp) ?_
     try dsimp only
     refine hK.out _ _ ?_ (fun hHeld => nx ?_)
     ·trivial
     clear hK K
     refine rd 7 fun K hK => ?_
     go_simp
     exact zv4
    ·refine kr rfl (.agg #[.int .i64 sc, .string ⟨nm.toArray⟩, .int .i64 rs, .slice sa its.length sq]) (by go_simp) ?_
     try dsimp only
     refine hK.out _ _ ?_ (fun hHeld => nx ?_)
     ·trivial
     clear hK K
     refine wpAnyH_ready (rs := [1, 7]) (by kernel_rfl) (by simp) ?_
     refine (AllReadyH.cons (o := _) rfl (fun K hK => ?_) (AllReadyH.cons (o := _) rfl (fun K hK => ?_) AllReadyH.nil))
     ·refine kr rfl (.slice (some ⟨g, 0, none⟩) n pc) (by go_simp) ?_
      try dsimp only
      refine hK.out _ _ ?_ (fun hHeld => nx ?_)
      ·trivial
      clear hK K
      refine rd 7 fun K hK => ?_
      go_simp
      exact zv4
     ·go_simp
      refine hK.out _ _ ?_ (fun hHeld => nx ?_)
      ·trivial
      clear hK K
      refine rd 1 fun K hK => ?_
      refine kr rfl (.slice (some ⟨g, 0, none⟩) n pc) (by go_simp) ?_
      try dsimp only
      exact zv4
  ·obtain ⟨_, _, ⟨cur, hgc⟩, hcc⟩ := HR.out.cell k HKU.out
   have h3 := hcc 3 _ rfl
   have hfg := xn (o := k * 4 + 3) hgc
   clear hgc hcc
   go_wp2_with (first | (refine zkg rfl 30 _ _ rfl g (k * 4 + 3) rfl (.slice none 0 0) rfl _ h3 hfg zr1 rfl ?_) | fail)
   go_meet
   case rel => exact ChS.nilI HBR.out HZR.out HN1.out HX3.out HR.out HL.out.1 (by have := HUM.out; omega) k HKU.out
 case rest =>
  clear h7 c0 c1 c2 c3 HX3 HB3 HR2 HUS HUL HN HK HS HWH HN0 HB2 HL HAF HZ2 HLA HBR HZR HUM HN1
  obtain ⟨x, vz, hz3, haz, hiz, hlz, HBW⟩ := hcut
  obtain ⟨pa, pc, rfl⟩ := haz.slice
  obtain ⟨c0, c1, c2, c3⟩ := yb hz3
  clear hz3
  have HL := zvr (And.intro hiz hlz)
  have HB2 := zvr HBW
  have HV2 := zvr haz
  clear HBW haz hiz hlz
  go_wp2_with fail
  refine (zb6 x (.slice pa x.aff.length pc) wc (HM.out.below HB2.out) (HP.out.below HB2.out) HV2.out HL.out.1 HL.out.2).mono ?_
  intro e w3 he
  obtain ⟨u3, rfl, hb3, hc3⟩ := he.conv
  have HB3 := zvs HB2 hb3
  have HV3 := zvr (HV2.out.below hb3)
  have HC3 := zvr hc3
  replace c0 := zb hb3 c0
  replace c1 := zb hb3 c1
  replace c2 := zb hb3 c2
  replace c3 := zb hb3 c3
  clear he hb3 hc3 HB2 HV2
  go_wp2_with fail
  refine (zlj x (.slice pa x.aff.length pc) w3 (HM.out.below HB3.out) (HP.out.below HB3.out) HV3.out HL.out.1 HL.out.2).mono ?_
  intro e wr he
  obtain ⟨u4, rfl, hb4, hc4⟩ := he.conv
  have HB := zvs HB3 hb4
  have HV := zvr (HV3.out.below hb4)
  have HB7 := zvr hb4
  have HC1 := HC3
  have HC2 := zvr hc4
  replace c0 := zb hb4 c0
  replace c1 := zb hb4 c1
  replace c2 := zb hb4 c2
  replace c3 := zb hb4 c3
  clear he hb4 hc4 HB3 HV3 HC3
  generalize (V.encV x).1 = D at *
  generalize (V.encV x).2 = c at *
  go_wp2_with fail
  refine wp_region_held_drew (S := (fun W' => Below wr.heap.size wr W' /\ W'.cell? ⟨X, 0, none⟩ = some (.string ⟨x.id.toArray⟩) /\ W'.cell? ⟨X, 1, none⟩ = some (.int .i64 x.rev) /\ W'.cell? ⟨X, 2, none⟩ = some (.int .i64 x.sev) /\ W'.cell? ⟨X, 3, none⟩ = some (.slice pa x.aff.length pc))) (by kernel_rfl) (by (try dsimp only); exact ⟨(zvu _ _).drew, zb (zvu _ _).drew c0, zb (zvu _ _).drew c1, zb (zvu _ _).drew c2, zb (zvu _ _).drew c3⟩) (fun hHeld => ?_)
  refine tk 0 ?_
  refine tk 2 ?_
  refine rd 1 fun K hK => ?_
  go_simp
  refine (za3 x (.slice pa x.aff.length pc) _ (HM.out.below (HB.out.trans ((show Below wr.heap.size wr _ from (by first | assumption | exact And.left (by assumption))).mono HB.out.size))) (HV.out.below (show Below wr.heap.size wr _ from (by first | assumption | exact And.left (by assumption)))) HL.out.1 HL.out.2).mono ?_
  rintro e wr1 ⟨rfl, hbr1⟩
  try dsimp only
  refine hK.out _ _ ?_ (fun hHeld => nx ?_)
  ·(try dsimp only); go_split_ands; exact ⟨Below.trans (by assumption) (hbr1.mono (Below.size (by assumption))), zvx hbr1, zvx hbr1, zvx hbr1, zvx hbr1⟩
  clear hK K
  refine rd 3 fun K hK => ?_
  go_simp
  refine (zez x (.slice pa x.aff.length pc) _ (HM.out.below (HB.out.trans ((show Below wr.heap.size wr _ from (by first | assumption | exact And.left (by assumption))).mono HB.out.size))) (HV.out.below (show Below wr.heap.size wr _ from (by first | assumption | exact And.left (by assumption)))) HL.out.1 HL.out.2).mono ?_
  rintro e wr3 ⟨rfl, hbr3⟩
  try dsimp only
  refine hK.out _ _ ?_ (fun hHeld => nx ?_)
  ·(try dsimp only); go_split_ands; exact ⟨Below.trans (by assumption) (hbr3.mono (Below.size (by assumption))), zvx hbr3, zvx hbr3, zvx hbr3, zvx hbr3⟩
  clear hK K
  refine tv 4 ((.bool true)) ?_ ?_
  ·exact fun w' hSw => by go_simp; try rfl
  refine tk 5 ?_
  refine tk 6 ?_
  refine tk 7 ?_
  refine tv 8 ((.bool true)) ?_ ?_
  ·exact fun w' hSw => by go_simp; try rfl
  refine tk 9 ?_
  refine tk 10 ?_
  refine tk 11 ?_
  refine tv 12 ((.string ⟨D.toArray⟩)) ?_ ?_
  ·exact fun w' hSw => zrh rfl rfl (HC1.out _ (HB7.out.trans (hSw.1.mono HB7.out.size)))
  refine tk 13 ?_
  refine tv 14 ((.string ⟨D.toArray⟩)) ?_ ?_
  ·exact fun w' hSw => zrh rfl rfl (HC2.out _ hSw.1)
  refine tv 15 ((.bool true)) ?_ ?_
  ·exact fun w' hSw => by go_simp; try rfl
  refine tk 16 ?_
  refine tk 17 ?_
  refine rd 18 fun K hK => ?_
  go_simp
  refine (zpq _ (HM.out.below (HB.out.trans ((show Below wr.heap.size wr _ from (by first | assumption | exact And.left (by assumption))).mono HB.out.size))) (HP.out.below (HB.out.trans ((show Below wr.heap.size wr _ from (by first | assumption | exact And.left (by assumption))).mono HB.out.size)))).mono ?_
  rintro e wr18 ⟨rfl, hbr18⟩
  try dsimp only
  refine hK.out _ _ ?_ (fun hHeld => nx ?_)
  ·(try dsimp only); go_split_ands; exact ⟨Below.trans (by assumption) (hbr18.mono (Below.size (by assumption))), zvx hbr18, zvx hbr18, zvx hbr18, zvx hbr18⟩
  clear hK K
  refine tk 19 ?_
  refine tk 20 ?_
  refine wpAnyH_done (by kernel_rfl) ?_ _
  have HBZ := zvr (HB.out.trans (hHeld.1.mono HB.out.size))
  clear hHeld
  go_wp2
  go_ret
  exact ⟨zd rfl, HBZ.out⟩
open Go.ChangeShapes Go.WideShapes Go.ChangeAt Go.RowKit
theorem cellsI : Tryz.prog.cellsOf 3 = 1 := by kernel_rfl
theorem cellsS : Tryz.prog.cellsOf 9 = 1 := by kernel_rfl
theorem zu1 {H : Type} {enc : TypeId × Value -> H} {W : World} {base : Nat} {v : Value} {d : DataW H} {p : List MemPlace} (hv : Value.okWide Tryz.prog W .any base 22 v)
  (h : DataW.Trod enc Tryz.prog W 0 (fun _ => true) true 22 v d p) : ∃ a m cap, v = .slice a m cap /\ Nums W a m := by
 obtain ⟨a0, len, cap, rfl⟩ := okWide_slice Tryz.underlying22 hv
 refine ⟨a0, len, cap, rfl, ?_⟩
 obtain ⟨fuel0, hf⟩ := h
 rcases open_ints Tryz.underlying22 Tryz.underlying3 cellsI hf with ⟨hcs, hx⟩ | ⟨a, len', cap', zs, hcs, _, hl, hm, hz, hx, hcell, hwz⟩
 ·simp [Value.cells] at hcs
  obtain ⟨rfl, rfl, rfl⟩ := hcs
  exact ⟨by decide, fun j hj => absurd hj (by omega)⟩
 ·simp [Value.cells] at hcs
  obtain ⟨rfl, rfl, rfl⟩ := hcs
  simp only [if_true] at hz
  refine ⟨by omega, fun j hj => ?_⟩
  obtain ⟨b, off, spot⟩ := a
  have hspot : spot = none := by simpa [Addr.add] using World.cell?_spot (hcell 0 (by omega))
  subst hspot
  have hc := hcell j (by omega)
  rw [add_plain] at hc
  have hin : zs.getD j 0 ∈ zs := by rw [List.getD_eq_getElem?_getD, List.getElem?_eq_getElem (by omega)]; exact List.getElem_mem _
  exact ⟨b, off, zs.getD j 0, rfl, World.block_lt_of_cell? _ _ hc, hc, hwz _ hin⟩
theorem read_strs {H : Type} {enc : TypeId × Value -> H} {W : World} {base : Nat} {v : Value} {d : DataW H} {p : List MemPlace} (hv : Value.okWide Tryz.prog W .any base 47 v)
  (h : DataW.Trod enc Tryz.prog W 0 (fun _ => true) true 47 v d p) : ∃ L : List V.Bs, Strs W v L /\ L.length ≤ maxLen /\ ∀ x ∈ L, x.length ≤ maxLen := by
 obtain ⟨a0, len, cap, rfl⟩ := okWide_slice Tryz.underlying47 hv
 obtain ⟨fuel0, hf⟩ := h
 rcases open_strings Tryz.underlying47 Tryz.underlying9 cellsS hf with ⟨hcs, hx⟩ | ⟨a, len', cap', ss, hcs, _, hl, hm, hz, hx, hcell, hwz⟩
 ·simp [Value.cells] at hcs
  obtain ⟨rfl, rfl, rfl⟩ := hcs
  exact ⟨[], Strs.nil W, by simp, fun x hx => by simp at hx⟩
 ·simp [Value.cells] at hcs
  obtain ⟨rfl, rfl, rfl⟩ := hcs
  simp only [if_true] at hz
  have hll : ((ss.take len).map fun s : ByteArray => s.data.toList).length = len := by rw [List.length_map, List.length_take]; omega
  refine ⟨(ss.take len).map fun s : ByteArray => s.data.toList, ⟨some a, cap, by rw [hll], fun j hj => ?_⟩, by omega, fun x hx => ?_⟩
  ·rw [hll] at hj
   obtain ⟨b, off, spot⟩ := a
   have hspot : spot = none := by simpa [Addr.add] using World.cell?_spot (hcell 0 (by omega))
   subst hspot
   have hc := hcell j (by omega)
   rw [add_plain] at hc
   refine ⟨b, off, rfl, World.block_lt_of_cell? _ _ hc, ?_⟩
   rw [hc]
   congr 2
   rw [List.getElem_map, List.getElem_take, List.getD_eq_getElem?_getD, List.getElem?_eq_getElem (by omega)]
   exact (zi9 _).symm
  ·rw [List.mem_map] at hx
   obtain ⟨s, hs, rfl⟩ := hx
   rw [zf]
   exact hwz s (List.mem_of_mem_take hs)
open Go.ChangeShapes Go.WideShapes Go.ChangeAt Go.RowKit
theorem zsd {H : Type} {enc : TypeId × Value -> H} {W : World} {base : Nat} {v : Value} {d : DataW H} {p : List MemPlace} (hv : Value.okWide Tryz.prog W .any base 22 v)
  (h : DataW.Trod enc Tryz.prog W 0 (fun _ => true) true 22 v d p) : ∃ a m cap, v = .slice a m cap /\ Nums W a m /\ m ≤ cap := by
 obtain ⟨a1, m1, c1, e1, hn⟩ := zu1 hv h
 obtain ⟨a0, len, cap, rfl⟩ := okWide_slice Tryz.underlying22 hv
 cases e1
 refine ⟨_, _, _, rfl, hn, ?_⟩
 obtain ⟨fuel0, hf⟩ := h
 rcases open_ints Tryz.underlying22 Tryz.underlying3 cellsI hf with ⟨hcs, hx⟩ | ⟨a, len', cap', zs, hcs, _, hl, hm, hz, hx, hcell, hwz⟩
 ·simp [Value.cells] at hcs
  obtain ⟨rfl, rfl, rfl⟩ := hcs
  exact zvt _
 ·simp [Value.cells] at hcs
  obtain ⟨rfl, rfl, rfl⟩ := hcs
  exact hl
end Go.Proofs.YtiloljoancdcbaaGreatDoor
namespace Go.Proofs.YtiloljoancdcbaaGreatDoor.laying
open Go.RowKit
theorem own : ownKnob Tryz.prog.godebug = none := by kernel_rfl
theorem laidOut : laidOutB Tryz.prog = true := by kernel_rfl
mutual
def flat : DataW Unit -> List Value
 | .lit (.int k n) => [.int k n]
 | .agg ps => zty ps
 | _ => []
def zty : List (DataW Unit) -> List Value
 | [] => []
 | d :: r => flat d ++ zty r
end
def zbo (l : List Value) : Obj -> Obj
 | .cells _ t frozen => .cells l.toArray t frozen
 | o => o
noncomputable def laidWorld (os : Os) : World :=
 { World.holding Tryz.prog os ⟨#[], #[], []⟩ with
   heap := ((World.holding Tryz.prog os ⟨#[], #[], []⟩).heap.modify 3 (zbo (flat Rows.laid_unicode_utf8_acceptRanges))).modify 2 (zbo (flat Rows.laid_unicode_utf8_first)) }
end Go.Proofs.YtiloljoancdcbaaGreatDoor.laying
