/-
  Lemmas for the law.
-/
import Derived.Test.YtbikeahmldobkaaGreatDoorC50x04
import Derived.Test.YtbikeahmldobkaaGreatDoorC50x01
import Derived.Test.YtbikeahmldobkaaGreatDoorC50x02
set_option linter.all false
set_option maxRecDepth 100000
set_option maxHeartbeats 2000000
namespace Go.Proofs.YtbikeahmldobkaaGreatDoor
open Go.RowKit Go.Shelf
attribute [local go_sem] Oper.semAt_some
theorem zzp {P : Prop} (h : P := by
 go_wp2_with fail
 refine (wh _ _).mono ?_
 rintro e w' ⟨rfl, rfl⟩
 simp only [HD.out]
 go_wp2
 go_ret
 exact ⟨zg (by rw [HK.out]; simp), rfl⟩) : P := h
theorem zha (c : UInt8) (w : World) :
  Calls Tryz.prog 238 #[.int .u8 c.toNat] w fun e w' => e = .returned (.bool (V.kind [45] c)) /\ w = w' := by
 have HK : Hid (V.kind [45] c = (V.letB c.toNat || V.digB c.toNat || ((c.toNat : Int) == 45))) := zwg (by
   unfold V.kind V.lett V.dig
   congr 1
   rw [Bool.eq_iff_iff]; simp [← UInt8.toNat_inj]; omega)
 generalize hn : (c.toNat : Int) = x at *
 clear hn
 rcases hD : V.digB x with _ | _
 ·have HD := zwg hD
  rcases hL : V.letB x with _ | _
  all_goals
   have HL := zwg hL
   rw [hD, hL] at HK
   clear hD hL
   go_enter Tryz.func238, Tryz.ntmps238
   go_wp2_with fail
   refine (wh _ _).mono ?_
   rintro e w' ⟨rfl, rfl⟩
   simp only [HD.out]
   go_wp2_with fail
   refine (zdf _ _).mono ?_
   rintro e w' ⟨rfl, rfl⟩
   simp only [HL.out]
   go_wp2
   all_goals
    go_ret
    exact ⟨zg (by rw [HK.out]; simp_all), rfl⟩
 ·have HD := zwg hD
  rw [hD] at HK
  clear hD
  go_enter Tryz.func238, Tryz.ntmps238
  exact zzp
theorem zfg (s : ByteArray) (w : World) (hs : s.size ≤ maxLen) :
  Calls Tryz.prog 235 #[.string s, .func (.func 238) #[] #[]] w fun e w' => e = .returned (.bool (V.only (V.kind [45]) s.data.toList)) /\ w = w' :=
 zgu s _ #[] (V.kind [45]) w hs (enters_of Tryz.func238 (by kernel_rfl) rfl) (fun c => zha c w)
theorem zw4 {P : Prop} (h : P := by
 rw [← hW0]; simp only [zh, World.size_alloc]; repeat (first | rw [if_pos (by omega)] | rw [if_neg (by omega)])
 rfl) : P := h
theorem zxy {P : Prop} (h : P := by
 rw [← hW0]; simp only [qt, World.size_alloc]; repeat (first | rw [if_pos (by omega)] | rw [if_neg (by omega)])
 rfl) : P := h
theorem zzm {P : Prop} (h : P := by
 rw [← hW0]
 exact (((((zwj _ w).alloc (zwi _) _).alloc (by simp) _).alloc (by simp; omega) _).alloc (by simp; omega) _).alloc (by simp; omega) _) : P := h
theorem z0l {P : Prop} (h : P := by
 exact ⟨KeepsOthers.refl _, zwj _ _, ⟨hc0, hc1, hf1, by rw [List.all_append, HA.out]; simp [HOK.out]⟩, hB⟩) : P := h
theorem zjy (s : ByteArray) (ex : Bool) (w : World) (hs : s.size ≤ maxLen) :
  CallsIn Fence.wide 6 Tryz.prog 232 #[.string s, .bool ex] w fun e w' => e = .returned (.bool (V.identifiers s.data.toList ex)) /\ Below w.heap.size w w' := by
 refine callsIn_of_wp_marks Tryz.func232 rfl trivial ?_ rfl
 simp only [Tryz.ntmps232, List.size_toArray, List.length_cons, List.length_nil, Nat.reduceAdd, Nat.reduceSub, Array.replicate_succ, Array.replicate_zero, List.push_toArray, List.append_toArray, List.nil_append, List.cons_append]
 gi_wp2_with fail
 refine ⟨trivial, (callsIn_wide.2 (zf7 _ _ _)).mono ?_⟩
 rintro e w' ⟨rfl, rfl⟩
 gi_wp2
 have g1 : Hid ((pcs 46 s).all (fun x => V.kh ex x.data.toList) = V.identifiers s.data.toList ex) := zwg (by
   unfold pcs V.identifiers; rw [List.all_map]; congr 1)
 obtain ⟨W0, hW0⟩ : ∃ W0, (((((w.alloc (.cells #[.bool ex] 4)).alloc (.cells #[.bool false] 4)).alloc (.cells #[.string s] 9)).alloc (.cells #[.string ⟨#[46]⟩] 9)).alloc (.cells #[.int .i64 0] 3)) = W0 := ⟨_, rfl⟩
 rw [hW0]
 have g6 : W0.heap.size = w.heap.size + 5 := by rw [← hW0]; simp
 have g5 : Below w.heap.size w W0 := by
  exact zzm
 have c0 : W0.cell? ⟨w.heap.size, 0, none⟩ = some (.bool ex) := by
  exact zw4
 have c1 : W0.cell? ⟨w.heap.size + 1, 0, none⟩ = some (.bool false) := by
  exact zw4
 have f1 : W0.frozen? ⟨w.heap.size + 1, 0, none⟩ = false := by
  exact zxy
 have c2 : W0.cell? ⟨w.heap.size + 1 + 1, 0, none⟩ = some (.string s) := by
  exact zw4
 have f2 : W0.frozen? ⟨w.heap.size + 1 + 1, 0, none⟩ = false := by
  exact zxy
 have c3 : W0.cell? ⟨w.heap.size + 1 + 1 + 1, 0, none⟩ = some (.string ⟨#[46]⟩) := by
  exact zw4
 have c4 : W0.cell? ⟨w.heap.size + 1 + 1 + 2, 0, none⟩ = some (.int .i64 0) := by
  exact zw4
 clear hW0
 refine zcl (b := w.heap.size + 1 + 1) rfl (by omega) (gf := 246)
  (lb := #[.pointer (some ⟨w.heap.size + 1 + 1 + 1, 0, none⟩), .pointer (some ⟨w.heap.size + 1 + 1, 0, none⟩), .pointer (some ⟨w.heap.size + 1 + 1 + 2, 0, none⟩)])
  rfl trivial (enters_of Tryz.func246 (by kernel_rfl) rfl) (by omega)
  (ze4 5 (by omega) (w.heap.size + 1 + 1) 46 s hs W0 (by omega) c2 f2 c3 c4) belowK_t (belowK_b (by omega)) (fun _ => rfl)
  (I := fun pre W => (W.cell? ⟨w.heap.size, 0, none⟩ = some (.bool ex) /\ W.cell? ⟨w.heap.size + 1, 0, none⟩ = some (.bool false) /\ W.frozen? ⟨w.heap.size + 1, 0, none⟩ = false /\ pre.all (fun x => V.kh ex x.data.toList) = true) /\ Below w.heap.size w W)
  (Ix := fun c pre W => (c = .ret /\ W.cell? ⟨w.heap.size + 1, 0, none⟩ = some (.bool false) /\ pre.all (fun x => V.kh ex x.data.toList) = false) /\ Below w.heap.size w W)
  (act := fun x => { tmps := #[.string s, .bool ex, undef, .pointer (some ⟨w.heap.size, 0, none⟩), .pointer (some ⟨w.heap.size + 1, 0, none⟩), .string x, .string s,
        .func (.func 246) #[] #[.pointer (some ⟨w.heap.size + 1 + 1 + 1, 0, none⟩), .pointer (some ⟨w.heap.size + 1 + 1, 0, none⟩), .pointer (some ⟨w.heap.size + 1 + 1 + 2, 0, none⟩)],
        .string x, undef, undef, undef, undef, undef, undef, undef, undef, undef, undef, undef, undef, undef], defers := [] })
  ⟨(OwnFrom.and (Own.from (fun s A B row hs hg hr => ⟨cell_kept hs.1 hg hr, cell_kept hs.2.1 hg hr, (frozen_kept hs.2.1 hg hr).trans hs.2.2.1, hs.2.2.2⟩) _) (ownFrom_below (zwi _) (by omega))),
   (fun c => OwnFrom.and (Own.from (fun s A B row hs hg hr => ⟨hs.1, cell_kept hs.2.1 hg hr, hs.2.2⟩) _) (ownFrom_below (zwi _) (by omega))),
   (fun s A v hs => ⟨⟨by rw [World.cell?_setCell_other _ _ _ _ (by simp)]; exact hs.1.1, by rw [World.cell?_setCell_other _ _ _ _ (by simp)]; exact hs.1.2.1, by rw [World.frozen?_setCell]; exact hs.1.2.2.1, hs.1.2.2.2⟩, hs.2.setCell (by show w.heap.size ≤ w.heap.size + 1 + 1; omega) _⟩), ?assign, ?body⟩ ⟨⟨c0, c1, f1, rfl⟩, g5⟩ ?done ?stop
 case assign =>
  intro l x W K hK
  gi_wp2
  exact hK
 case body =>
  rintro l pre x W ⟨⟨hc0, hc1, hf1, g0⟩, hB⟩ hx
  have HA := zwg g0
  clear g0
  have HOK : Hid (V.kh ex x.data.toList = (V.only (V.kind [45]) x.data.toList && !(V.digits x.data.toList && !V.numb x.data.toList ex))) := rfl
  rcases hk : V.only (V.kind [45]) x.data.toList with _ | _
  ·have HK := zwg hk
   rw [hk] at HOK
   clear hk
   gi_wp2_with fail
   refine ⟨trivial, (CallsIn.inRound l (callsIn_wide.2 (zfg x _ hx))).mono ?_⟩
   rintro e w' ⟨rfl, rfl⟩
   simp only [HK.out]
   gi_wp2
   refine ⟨trivial, ?_⟩
   gi_wp2
   all_goals first | (exfalso; rename_i h1 _; simp [undef] at h1; done) | (refine ⟨trivial, ?_⟩; gi_wp2; exact ⟨KeepsOthers.setCell _ _ _, ⟨rfl, World.cell?_setCell_same' _ _ _ (by rw [hc1]; rfl), by rw [List.all_append, HA.out]; simp [HOK.out]⟩, hB.setCell (p := ⟨w.heap.size + 1, 0, none⟩) (by show w.heap.size ≤ w.heap.size + 1; omega) _⟩)
  ·have HK := zwg hk
   rcases hd : V.digits x.data.toList with _ | _
   ·have HD := zwg hd
    rw [hk, hd] at HOK
    clear hk hd
    gi_wp2_with fail
    refine ⟨trivial, (CallsIn.inRound l (callsIn_wide.2 (zfg x _ hx))).mono ?_⟩
    rintro e w' ⟨rfl, rfl⟩
    simp only [HK.out]
    gi_wp2_with fail
    refine ⟨trivial, (CallsIn.inRound l (callsIn_wide.2 (yh x _ hx))).mono ?_⟩
    rintro e w' ⟨rfl, rfl⟩
    simp only [HD.out]
    gi_wp2
    refine ⟨trivial, ?_⟩
    gi_wp2
    exact z0l
   ·have HD := zwg hd
    rcases hn : V.numb x.data.toList ex with _ | _
    all_goals
     have HN := zwg hn
     rw [hk, hd, hn] at HOK
     clear hk hd hn
     gi_wp2_with fail
     refine ⟨trivial, (CallsIn.inRound l (callsIn_wide.2 (zfg x _ hx))).mono ?_⟩
     rintro e w' ⟨rfl, rfl⟩
     simp only [HK.out]
     gi_wp2_with fail
     refine ⟨trivial, (CallsIn.inRound l (callsIn_wide.2 (yh x _ hx))).mono ?_⟩
     rintro e w' ⟨rfl, rfl⟩
     simp only [HD.out]
     gi_wp2_with fail
     refine ⟨trivial, (CallsIn.inRound l (callsIn_wide.2 (ue x ex _ hx))).mono ?_⟩
     rintro e w' ⟨rfl, rfl⟩
     simp only [HN.out]
     gi_wp2
    ·exact ⟨KeepsOthers.setCell _ _ _, ⟨rfl, World.cell?_setCell_same' _ _ _ (by rw [hc1]; rfl), by rw [List.all_append, HA.out]; simp [HOK.out]⟩, hB.setCell (p := ⟨w.heap.size + 1, 0, none⟩) (by show w.heap.size ≤ w.heap.size + 1; omega) _⟩
    ·exact z0l
 case done =>
  rintro D ys W hD rfl ⟨⟨hc0, hc1, hf1, g0⟩, hB⟩ hK
  have HR : Hid (V.identifiers s.data.toList ex = true) := zwg (by rw [← g1.out]; exact g0)
  clear g0
  gi_wp2
  have g2 := (KeepsOthers.setCell W ⟨w.heap.size + 1, 0, none⟩ (.bool true)).same D _ hK rfl
  refine ⟨by simp, .inl ⟨_, _, rfl, run_takeDeferred g2, ?_⟩⟩
  have g3 := cell_kept (World.cell?_setCell_same' W ⟨w.heap.size + 1, 0, none⟩ (.bool true) (by rw [hc1]; rfl)) (grownBy_putObj' _ D (.deferred none)) (fun r e => by cases e; exact ⟨_, g2, rfl⟩)
  refine ⟨.bool true, ?_, by rw [HR.out], (hB.setCell (p := ⟨w.heap.size + 1, 0, none⟩) (by show w.heap.size ≤ w.heap.size + 1; omega) _).trans (belowK_b (w := w) (zwi _) _ D _ _ (by omega) g2 rfl rfl)⟩
  simp [results, Tryz.f232, go_sem, g3]
 case stop =>
  rintro D c pre W hD g4 ⟨⟨rfl, hc1, g0⟩, hB⟩ hK
  have HR : Hid (V.identifiers s.data.toList ex = false) := zwg (by
    rw [← g1.out]
    obtain ⟨r, hr⟩ := g4
    rw [← hr, List.all_append, g0]; rfl)
  clear g0
  gi_wp2
  refine ⟨by simp, .inl ⟨_, _, rfl, run_takeDeferred hK, ?_⟩⟩
  have g3 := cell_kept hc1 (grownBy_putObj' _ D (.deferred none)) (fun r e => by cases e; exact ⟨_, hK, rfl⟩)
  refine ⟨.bool false, ?_, by rw [HR.out], hB.trans (belowK_b (w := w) (zwi _) _ D _ _ (by omega) hK rfl rfl)⟩
  simp [results, Tryz.f232, go_sem, g3]
theorem zah (s : ByteArray) (ex : Bool) (w : World) (hs : s.size ≤ maxLen) :
  Calls Tryz.prog 232 #[.string s, .bool ex] w fun e w' => e = .returned (.bool (V.identifiers s.data.toList ex)) /\ Below w.heap.size w w' :=
 callsIn_wide.1 (zjy s ex w hs)
open Go.RowKit Go.Shelf
attribute [local go_sem] Oper.semAt_some
theorem zqv (s : ByteArray) (w : World) (hs : s.size ≤ maxLen) :
  CallsIn Fence.wide 6 Tryz.prog 265 #[.agg #[], .string s] w fun e w' => e = .returned (.bool (V.ze6 s.data.toList)) /\ Below w.heap.size w w' := by
 refine callsIn_of_wp_marks Tryz.func265 rfl trivial ?_ rfl
 simp only [Tryz.ntmps265, List.size_toArray, List.length_cons, List.length_nil, Nat.reduceAdd, Nat.reduceSub, Array.replicate_succ, Array.replicate_zero, List.push_toArray, List.append_toArray, List.nil_append, List.cons_append]
 gi_wp2_with fail
 refine ⟨trivial, (callsIn_wide.2 (zf7 _ _ _)).mono ?_⟩
 rintro e w' ⟨rfl, rfl⟩
 gi_wp2
 have g1 : Hid ((pcs 46 s).all (fun x => V.numb x.data.toList false) = V.ze6 s.data.toList) := zwg (by
   unfold pcs V.ze6; rw [List.all_map]; congr 1)
 obtain ⟨W0, hW0⟩ : ∃ W0, (((((w.alloc (.cells #[] 205)).alloc (.cells #[.bool false] 4)).alloc (.cells #[.string s] 9)).alloc (.cells #[.string ⟨#[46]⟩] 9)).alloc (.cells #[.int .i64 0] 3)) = W0 := ⟨_, rfl⟩
 rw [hW0]
 have g6 : W0.heap.size = w.heap.size + 5 := by rw [← hW0]; simp
 have g5 : Below w.heap.size w W0 := by
  exact zzm
 have c1 : W0.cell? ⟨w.heap.size + 1, 0, none⟩ = some (.bool false) := by
  exact zw4
 have f1 : W0.frozen? ⟨w.heap.size + 1, 0, none⟩ = false := by
  exact zxy
 have c2 : W0.cell? ⟨w.heap.size + 1 + 1, 0, none⟩ = some (.string s) := by
  exact zw4
 have f2 : W0.frozen? ⟨w.heap.size + 1 + 1, 0, none⟩ = false := by
  exact zxy
 have c3 : W0.cell? ⟨w.heap.size + 1 + 1 + 1, 0, none⟩ = some (.string ⟨#[46]⟩) := by
  exact zw4
 have c4 : W0.cell? ⟨w.heap.size + 1 + 1 + 2, 0, none⟩ = some (.int .i64 0) := by
  exact zw4
 clear hW0
 refine zcl (b := w.heap.size + 1 + 1) rfl (by omega) (gf := 246)
  (lb := #[.pointer (some ⟨w.heap.size + 1 + 1 + 1, 0, none⟩), .pointer (some ⟨w.heap.size + 1 + 1, 0, none⟩), .pointer (some ⟨w.heap.size + 1 + 1 + 2, 0, none⟩)])
  rfl trivial (enters_of Tryz.func246 (by kernel_rfl) rfl) (by omega)
  (ze4 5 (by omega) (w.heap.size + 1 + 1) 46 s hs W0 (by omega) c2 f2 c3 c4) belowK_t (belowK_b (by omega)) (fun _ => rfl)
  (I := fun pre W => (W.cell? ⟨w.heap.size + 1, 0, none⟩ = some (.bool false) /\ W.frozen? ⟨w.heap.size + 1, 0, none⟩ = false /\ pre.all (fun x => V.numb x.data.toList false) = true) /\ Below w.heap.size w W)
  (Ix := fun c pre W => (c = .ret /\ W.cell? ⟨w.heap.size + 1, 0, none⟩ = some (.bool false) /\ pre.all (fun x => V.numb x.data.toList false) = false) /\ Below w.heap.size w W)
  (act := fun x => { tmps := #[.agg #[], .string s, .pointer (some ⟨w.heap.size, 0, none⟩), undef, .pointer (some ⟨w.heap.size + 1, 0, none⟩), .string x, .string s,
        .func (.func 246) #[] #[.pointer (some ⟨w.heap.size + 1 + 1 + 1, 0, none⟩), .pointer (some ⟨w.heap.size + 1 + 1, 0, none⟩), .pointer (some ⟨w.heap.size + 1 + 1 + 2, 0, none⟩)],
        .string x, undef, undef, undef], defers := [] })
  ⟨(OwnFrom.and (Own.from (fun s A B row hs hg hr => ⟨cell_kept hs.1 hg hr, (frozen_kept hs.1 hg hr).trans hs.2.1, hs.2.2⟩) _) (ownFrom_below (zwi _) (by omega))),
   (fun c => OwnFrom.and (Own.from (fun s A B row hs hg hr => ⟨hs.1, cell_kept hs.2.1 hg hr, hs.2.2⟩) _) (ownFrom_below (zwi _) (by omega))),
   (fun s A v hs => ⟨⟨by rw [World.cell?_setCell_other _ _ _ _ (by simp)]; exact hs.1.1, by rw [World.frozen?_setCell]; exact hs.1.2.1, hs.1.2.2⟩, hs.2.setCell (by show w.heap.size ≤ w.heap.size + 1 + 1; omega) _⟩), ?assign, ?body⟩ ⟨⟨c1, f1, rfl⟩, g5⟩ ?done ?stop
 case assign =>
  intro l x W K hK
  gi_wp2
  exact hK
 case body =>
  rintro l pre x W ⟨⟨hc1, hf1, g0⟩, hB⟩ hx
  have HA := zwg g0
  clear g0
  rcases hn : V.numb x.data.toList false with _ | _
  all_goals
   have HN := zwg hn
   clear hn
   gi_wp2_with fail
   refine ⟨trivial, (CallsIn.inRound l (callsIn_wide.2 (ue x false _ hx))).mono ?_⟩
   rintro e w' ⟨rfl, rfl⟩
   simp only [HN.out]
   gi_wp2
  ·exact ⟨KeepsOthers.setCell _ _ _, ⟨rfl, World.cell?_setCell_same' _ _ _ (by rw [hc1]; rfl), by rw [List.all_append, HA.out]; simp [HN.out]⟩, hB.setCell (p := ⟨w.heap.size + 1, 0, none⟩) (by show w.heap.size ≤ w.heap.size + 1; omega) _⟩
  ·exact ⟨KeepsOthers.refl _, zwj _ _, ⟨hc1, hf1, by rw [List.all_append, HA.out]; simp [HN.out]⟩, hB⟩
 case done =>
  rintro D ys W hD rfl ⟨⟨hc1, hf1, g0⟩, hB⟩ hK
  have HR : Hid (V.ze6 s.data.toList = true) := zwg (by rw [← g1.out]; exact g0)
  clear g0
  gi_wp2
  have g2 := (KeepsOthers.setCell W ⟨w.heap.size + 1, 0, none⟩ (.bool true)).same D _ hK rfl
  refine ⟨by simp, .inl ⟨_, _, rfl, run_takeDeferred g2, ?_⟩⟩
  have g3 := cell_kept (World.cell?_setCell_same' W ⟨w.heap.size + 1, 0, none⟩ (.bool true) (by rw [hc1]; rfl)) (grownBy_putObj' _ D (.deferred none)) (fun r e => by cases e; exact ⟨_, g2, rfl⟩)
  refine ⟨.bool true, ?_, by rw [HR.out], (hB.setCell (p := ⟨w.heap.size + 1, 0, none⟩) (by show w.heap.size ≤ w.heap.size + 1; omega) _).trans (belowK_b (w := w) (zwi _) _ D _ _ (by omega) g2 rfl rfl)⟩
  simp [results, Tryz.f265, go_sem, g3]
 case stop =>
  rintro D c pre W hD g4 ⟨⟨rfl, hc1, g0⟩, hB⟩ hK
  have HR : Hid (V.ze6 s.data.toList = false) := zwg (by
    rw [← g1.out]
    obtain ⟨r, hr⟩ := g4
    rw [← hr, List.all_append, g0]; rfl)
  clear g0
  gi_wp2
  refine ⟨by simp, .inl ⟨_, _, rfl, run_takeDeferred hK, ?_⟩⟩
  have g3 := cell_kept hc1 (grownBy_putObj' _ D (.deferred none)) (fun r e => by cases e; exact ⟨_, hK, rfl⟩)
  refine ⟨.bool false, ?_, by rw [HR.out], hB.trans (belowK_b (w := w) (zwi _) _ D _ _ (by omega) hK rfl rfl)⟩
  simp [results, Tryz.f265, go_sem, g3]
theorem zn8 (s : ByteArray) (w : World) (hs : s.size ≤ maxLen) :
  Calls Tryz.prog 265 #[.agg #[], .string s] w fun e w' => e = .returned (.bool (V.ze6 s.data.toList)) /\ Below w.heap.size w w' :=
 callsIn_wide.1 (zqv s w hs)
end Go.Proofs.YtbikeahmldobkaaGreatDoor
