/-
  Lemmas for the law.
-/
import Derived.Test.YtbikeahmldobkaaGreatDoorC51x04
import Derived.Test.YtbikeahmldobkaaGreatDoorC51x02
import Derived.Test.YtbikeahmldobkaaGreatDoorC51x01
import Derived.OwnWalkIn
import Derived.TacticsInMore
import Derived.LoopNIn
import Derived.LoopIn
set_option linter.all false
set_option maxRecDepth 100000
set_option maxHeartbeats 2000000
namespace Go.Proofs.YtbikeahmldobkaaGreatDoor
open Go.RowKit Go.Shelf
attribute [local go_sem] Oper.semAt_some
def pcs (c : UInt8) (s : ByteArray) : List ByteArray := (V.zl c s.data.toList).map fun x => ⟨x.toArray⟩
theorem pcs_none {c : UInt8} {s : ByteArray} (h : c ∉ s.data.toList) : pcs c s = [s] := by
 unfold pcs; rw [V.zaf h]; simp
theorem zqd {c : UInt8} {s : ByteArray} {i : Nat} (h : Lib.indexByte s.data.toList c = i) : pcs c s = s.extract 0 i :: pcs c (s.extract (i + 1) s.size) /\ i < s.size := by
 have hm : c ∈ s.data.toList := by
  have := V.vp s.data.toList c
  rw [h] at this
  simpa using this.symm
 have hi : ((s.data.toList.takeWhile (· != c)).length) = i := by
  have h1 : Lib.index s.data.toList [c] = Lib.indexByte s.data.toList c := Lib.index_one s.data.toList c
  rw [V.index_one, if_pos hm, h] at h1
  omega
 have hlt := V.tw_lt hm
 rw [zh] at hlt
 refine ⟨?_, by omega⟩
 unfold pcs
 rw [V.ww hm, List.map_cons, hi, Lib.extract_to_end]
 congr 1
 apply yc
 rw [Lib.extract_data]
 have := V.zn2 s.data.toList (· != c)
 rw [hi] at this
 simp [this]
def strLen : Option Value -> Nat
 | some (.string s) => s.size
 | _ => 0
theorem zn3 (n : Nat) (hn : 1 ≤ n) (l bS : Nat) (c : UInt8) (s : ByteArray) (hs : s.size ≤ maxLen) (J Jx : List ByteArray -> World -> Prop)
  (hJ : ∀ s A v, J s A -> J s (A.setCell ⟨bS, 0, none⟩ v))
  (hY : ∀ pre x W, J pre W -> x.size ≤ maxLen -> YieldAt Fence.wide (n - 1) Tryz.prog l #[.string x] W fun e W' =>
    (e = .returned (.bool true) /\ J (pre ++ [x]) W' /\ Below (bS + 3) W W') ∨ (e = .returned (.bool false) /\ Jx (pre ++ [x]) W'))
  (W : World) (hS : W.cell? ⟨bS, 0, none⟩ = some (.string s)) (hF : W.frozen? ⟨bS, 0, none⟩ = false) (hP : W.cell? ⟨bS + 1, 0, none⟩ = some (.string ⟨#[c]⟩)) (hV : W.cell? ⟨bS + 2, 0, none⟩ = some (.int .i64 0)) (h0 : J [] W) :
  CallsIn Fence.wide n Tryz.prog 246 #[.func (.yield l) #[] #[], .pointer (some ⟨bS + 1, 0, none⟩), .pointer (some ⟨bS, 0, none⟩), .pointer (some ⟨bS + 2, 0, none⟩)] W fun e W' => (∃ v, e = .returned v) /\
   ((∃ ys, ys = pcs c s /\ J ys W') ∨ (∃ pre, pre <+: pcs c s /\ Jx pre W')) := by
 unfold maxLen at hs
 have HJ := zu8 hJ
 have HY := zu8 hY
 clear hJ hY
 refine callsIn_of_wp Tryz.func246 rfl trivial ?_ rfl
 simp only [Tryz.ntmps246, List.size_toArray, List.length_cons, List.length_nil, Nat.reduceAdd, Nat.reduceSub, Array.replicate_succ, Array.replicate_zero, List.push_toArray, List.append_toArray, List.nil_append, List.cons_append]
 gi_wp2
 gi_loopw [7] (fun _ wr => ∃ (pre : List ByteArray) (r : ByteArray), wr.cell? ⟨bS, 0, none⟩ = some (.string r) /\ wr.frozen? ⟨bS, 0, none⟩ = false /\ wr.cell? ⟨bS + 1, 0, none⟩ = some (.string ⟨#[c]⟩) /\ wr.cell? ⟨bS + 2, 0, none⟩ = some (.int .i64 0) /\ r.size ≤ 9223372036854775807 /\ pcs c s = pre ++ pcs c r /\ J pre wr)
  (fun _ wr => strLen (wr.cell? ⟨bS, 0, none⟩))
 case atStart => exact ⟨[], s, hS, hF, hP, hV, by omega, rfl, h0⟩
 case round =>
  obtain ⟨pre, r, hS, hF, hP, hV, hr, g4, hj⟩ := hrel
  have HPC := zu8 g4
  have g5 := zu8 hj
  clear g4 hj
  have g3 : (Lib.indexByte r.data.toList c = -1 /\ pcs c r = [r]) ∨ ∃ i : Nat, Lib.indexByte r.data.toList c = i /\ i < r.size /\ pcs c r = r.extract 0 i :: pcs c (r.extract (i + 1) r.size) := by
   have h1 := Lib.indexByte_ge r.data.toList c
   by_cases hm : Lib.indexByte r.data.toList c = -1
   ·refine .inl ⟨hm, pcs_none fun e => ?_⟩
    have := V.vp r.data.toList c
    rw [hm] at this
    simp [e] at this
   ·obtain ⟨i, hi⟩ := Int.eq_ofNat_of_zero_le (show 0 ≤ Lib.indexByte r.data.toList c by omega)
    exact .inr ⟨i, hi, (zqd hi).2, (zqd hi).1⟩
  rcases g3 with ⟨hi, hp⟩ | ⟨i, hi, hlt, hp⟩
  ·have HI := zu8 hi
   have HP := zu8 hp
   clear hi hp
   obtain ⟨fn, tmps, assign, body, hy, hR⟩ := HY.out pre r wr g5.out (by unfold maxLen; omega)
   gi_wp2_with fail
   refine ⟨trivial, (callsIn_wide.2 (Tryz.strings_Index_one r c _)).mono ?_⟩
   rintro e w' ⟨rfl, rfl⟩
   simp only [HI.out]
   gi_wp2
   refine hR.mono ?_
   rintro e W3 (⟨rfl, g2, g0⟩ | ⟨rfl, g1⟩)
   ·gi_wp2
    go_end0
    exact ⟨⟨_, rfl⟩, .inl ⟨_, rfl, by rw [HPC.out, HP.out]; exact g2⟩⟩
   ·gi_wp2
    go_end0
    exact ⟨⟨_, rfl⟩, .inr ⟨_, by rw [HPC.out, HP.out]; exact List.prefix_refl _, g1⟩⟩
  ·have HI := zu8 hi
   have HP := zu8 hp
   clear hi hp
   obtain ⟨fn, tmps, assign, body, hy, hR⟩ := HY.out pre (r.extract 0 i) wr g5.out (by unfold maxLen; simp [ByteArray.size_extract]; omega)
   gi_wp2_with fail
   refine ⟨trivial, (callsIn_wide.2 (Tryz.strings_Index_one r c _)).mono ?_⟩
   rintro e w' ⟨rfl, rfl⟩
   simp only [HI.out]
   gi_wp2
   refine hR.mono ?_
   rintro e W3 (⟨rfl, g2, g0⟩ | ⟨rfl, g1⟩)
   ·have g6 := (g0.cell (p := ⟨bS, 0, none⟩) (by show bS < bS + 3; omega)).trans hS
    have g7 := (g0.frozen (p := ⟨bS, 0, none⟩) (by show bS < bS + 3; omega)).trans hF
    have g8 := (g0.cell (p := ⟨bS + 1, 0, none⟩) (by show bS + 1 < bS + 3; omega)).trans hP
    have g9 := (g0.cell (p := ⟨bS + 2, 0, none⟩) (by show bS + 2 < bS + 3; omega)).trans hV
    gi_wp2
    go_roundw
    case rel =>
     refine ⟨pre ++ [r.extract 0 i], r.extract (i + 1) r.size, World.cell?_setCell_same _ _ _ g6, ?_, ?_, ?_, by simp [ByteArray.size_extract]; omega, by rw [HPC.out, HP.out]; simp, HJ.out _ _ _ g2⟩
     ·rw [World.frozen?_setCell]; exact g7
     ·rw [World.cell?_setCell_other _ _ _ _ (by simp)]; exact g8
     ·rw [World.cell?_setCell_other _ _ _ _ (by simp)]; exact g9
    case measure =>
     rw [World.cell?_setCell_same _ _ _ g6, hS]
     simp [strLen, ByteArray.size_extract]; omega
   ·gi_wp2
    refine bodyPost_ret (results_none rfl _ _ _) rfl ?_
    exact ⟨⟨_, rfl⟩, .inr ⟨_, by rw [HPC.out, HP.out]; exact ⟨pcs c (r.extract (i + 1) r.size), by simp⟩, g1⟩⟩
theorem zed (n : Nat) (hn : 1 ≤ n) (bS : Nat) (c : UInt8) (s : ByteArray) (hs : s.size ≤ maxLen) (w : World) (hb : bS + 2 < w.heap.size)
  (hS : w.cell? ⟨bS, 0, none⟩ = some (.string s)) (hF : w.frozen? ⟨bS, 0, none⟩ = false) (hP : w.cell? ⟨bS + 1, 0, none⟩ = some (.string ⟨#[c]⟩)) (hV : w.cell? ⟨bS + 2, 0, none⟩ = some (.int .i64 0)) :
  Hands Fence.wide n Tryz.prog 246 #[.pointer (some ⟨bS + 1, 0, none⟩), .pointer (some ⟨bS, 0, none⟩), .pointer (some ⟨bS + 2, 0, none⟩)] (fun x : ByteArray => #[.string x]) (Below (bS + 3)) (fun ys => ys = pcs c s) (fun pre => pre <+: pcs c s) (fun x => x.size ≤ maxLen) w bS := by
 intro l J Jx W hW hJ hY h0
 have hc := fun o => hW.cell (p := ⟨bS, o, none⟩) (show bS < w.heap.size by omega)
 have hc1 := fun o => hW.cell (p := ⟨bS + 1, o, none⟩) (show bS + 1 < w.heap.size by omega)
 have g0 := fun o => hW.cell (p := ⟨bS + 2, o, none⟩) (show bS + 2 < w.heap.size by omega)
 refine (zn3 n hn l bS c s hs J Jx hJ hY W ((hc 0).trans hS) ((hW.frozen (p := ⟨bS, 0, none⟩) (show bS < w.heap.size by omega)).trans hF) ((hc1 0).trans hP) ((g0 0).trans hV) h0)
theorem zfh (s sep : ByteArray) (w : World) :
  Calls Tryz.prog 237 #[.string s, .string sep] w fun e w' =>
   e = .returned (.func (.func 246) #[] #[.pointer (some ⟨w.heap.size + 1, 0, none⟩), .pointer (some ⟨w.heap.size, 0, none⟩), .pointer (some ⟨w.heap.size + 2, 0, none⟩)]) /\
   w' = ((w.alloc (.cells #[.string s] 9)).alloc (.cells #[.string sep] 9)).alloc (.cells #[.int .i64 0] 3) := by
 go_enter Tryz.func237, Tryz.ntmps237
 go_wp2
 go_ret
 exact ⟨rfl, rfl⟩
open Go.RowKit Go.Shelf
attribute [local go_sem] Oper.semAt_some
theorem zxx {P : Prop} (h : P := by
 go_wp2_with fail
 refine (vh _ _).mono ?_
 rintro e w' ⟨rfl, rfl⟩
 simp only [HD.out]
 go_wp2
 go_ret
 exact ⟨ze (by rw [HK.out]; simp), rfl⟩) : P := h
theorem zgc (c : UInt8) (w : World) :
  Calls Tryz.prog 238 #[.int .u8 c.toNat] w fun e w' => e = .returned (.bool (V.kind [45] c)) /\ w = w' := by
 have HK : Hid (V.kind [45] c = (V.letB c.toNat || V.digB c.toNat || ((c.toNat : Int) == 45))) := zu8 (by
   unfold V.kind V.lett V.dig
   congr 1
   rw [Bool.eq_iff_iff]; simp [← UInt8.toNat_inj]; omega)
 generalize hn : (c.toNat : Int) = x at *
 clear hn
 rcases hD : V.digB x with _ | _
 ·have HD := zu8 hD
  rcases hL : V.letB x with _ | _
  all_goals
   have HL := zu8 hL
   rw [hD, hL] at HK
   clear hD hL
   go_enter Tryz.func238, Tryz.ntmps238
   go_wp2_with fail
   refine (vh _ _).mono ?_
   rintro e w' ⟨rfl, rfl⟩
   simp only [HD.out]
   go_wp2_with fail
   refine (zcp _ _).mono ?_
   rintro e w' ⟨rfl, rfl⟩
   simp only [HL.out]
   go_wp2
   all_goals
    go_ret
    exact ⟨ze (by rw [HK.out]; simp_all), rfl⟩
 ·have HD := zu8 hD
  rw [hD] at HK
  clear hD
  go_enter Tryz.func238, Tryz.ntmps238
  exact zxx
theorem zeq (s : ByteArray) (w : World) (hs : s.size ≤ maxLen) :
  Calls Tryz.prog 235 #[.string s, .func (.func 238) #[] #[]] w fun e w' => e = .returned (.bool (V.only (V.kind [45]) s.data.toList)) /\ w = w' :=
 zfy s _ #[] (V.kind [45]) w hs (enters_of Tryz.func238 (by kernel_rfl) rfl) (fun c => zgc c w)
theorem zvs {P : Prop} (h : P := by
 rw [← hW0]; simp only [zg, World.size_alloc]; repeat (first | rw [if_pos (by omega)] | rw [if_neg (by omega)])
 rfl) : P := h
theorem zwh {P : Prop} (h : P := by
 rw [← hW0]; simp only [qr, World.size_alloc]; repeat (first | rw [if_pos (by omega)] | rw [if_neg (by omega)])
 rfl) : P := h
theorem zxv {P : Prop} (h : P := by
 rw [← hW0]
 exact (((((zvb _ w).alloc (zva _) _).alloc (by simp) _).alloc (by simp; omega) _).alloc (by simp; omega) _).alloc (by simp; omega) _) : P := h
theorem zyq {P : Prop} (h : P := by
 exact ⟨KeepsOthers.refl _, zvb _ _, ⟨hc0, hc1, hf1, by rw [List.all_append, HA.out]; simp [HOK.out]⟩, hB⟩) : P := h
theorem zi0 (s : ByteArray) (ex : Bool) (w : World) (hs : s.size ≤ maxLen) :
  CallsIn Fence.wide 6 Tryz.prog 232 #[.string s, .bool ex] w fun e w' => e = .returned (.bool (V.identifiers s.data.toList ex)) /\ Below w.heap.size w w' := by
 refine callsIn_of_wp_marks Tryz.func232 rfl trivial ?_ rfl
 simp only [Tryz.ntmps232, List.size_toArray, List.length_cons, List.length_nil, Nat.reduceAdd, Nat.reduceSub, Array.replicate_succ, Array.replicate_zero, List.push_toArray, List.append_toArray, List.nil_append, List.cons_append]
 gi_wp2_with fail
 refine ⟨trivial, (callsIn_wide.2 (zfh _ _ _)).mono ?_⟩
 rintro e w' ⟨rfl, rfl⟩
 gi_wp2
 have g1 : Hid ((pcs 46 s).all (fun x => V.ju ex x.data.toList) = V.identifiers s.data.toList ex) := zu8 (by
   unfold pcs V.identifiers; rw [List.all_map]; congr 1)
 obtain ⟨W0, hW0⟩ : ∃ W0, (((((w.alloc (.cells #[.bool ex] 4)).alloc (.cells #[.bool false] 4)).alloc (.cells #[.string s] 9)).alloc (.cells #[.string ⟨#[46]⟩] 9)).alloc (.cells #[.int .i64 0] 3)) = W0 := ⟨_, rfl⟩
 rw [hW0]
 have g6 : W0.heap.size = w.heap.size + 5 := by rw [← hW0]; simp
 have g5 : Below w.heap.size w W0 := by
  exact zxv
 have c0 : W0.cell? ⟨w.heap.size, 0, none⟩ = some (.bool ex) := by
  exact zvs
 have c1 : W0.cell? ⟨w.heap.size + 1, 0, none⟩ = some (.bool false) := by
  exact zvs
 have f1 : W0.frozen? ⟨w.heap.size + 1, 0, none⟩ = false := by
  exact zwh
 have c2 : W0.cell? ⟨w.heap.size + 1 + 1, 0, none⟩ = some (.string s) := by
  exact zvs
 have f2 : W0.frozen? ⟨w.heap.size + 1 + 1, 0, none⟩ = false := by
  exact zwh
 have c3 : W0.cell? ⟨w.heap.size + 1 + 1 + 1, 0, none⟩ = some (.string ⟨#[46]⟩) := by
  exact zvs
 have c4 : W0.cell? ⟨w.heap.size + 1 + 1 + 2, 0, none⟩ = some (.int .i64 0) := by
  exact zvs
 clear hW0
 refine zbw (b := w.heap.size + 1 + 1) rfl (by omega) (gf := 246)
  (lb := #[.pointer (some ⟨w.heap.size + 1 + 1 + 1, 0, none⟩), .pointer (some ⟨w.heap.size + 1 + 1, 0, none⟩), .pointer (some ⟨w.heap.size + 1 + 1 + 2, 0, none⟩)])
  rfl trivial (enters_of Tryz.func246 (by kernel_rfl) rfl) (by omega)
  (zed 5 (by omega) (w.heap.size + 1 + 1) 46 s hs W0 (by omega) c2 f2 c3 c4) belowK_t (belowK_b (by omega)) (fun _ => rfl)
  (I := fun pre W => (W.cell? ⟨w.heap.size, 0, none⟩ = some (.bool ex) /\ W.cell? ⟨w.heap.size + 1, 0, none⟩ = some (.bool false) /\ W.frozen? ⟨w.heap.size + 1, 0, none⟩ = false /\ pre.all (fun x => V.ju ex x.data.toList) = true) /\ Below w.heap.size w W)
  (Ix := fun c pre W => (c = .ret /\ W.cell? ⟨w.heap.size + 1, 0, none⟩ = some (.bool false) /\ pre.all (fun x => V.ju ex x.data.toList) = false) /\ Below w.heap.size w W)
  (act := fun x => { tmps := #[.string s, .bool ex, undef, .pointer (some ⟨w.heap.size, 0, none⟩), .pointer (some ⟨w.heap.size + 1, 0, none⟩), .string x, .string s,
        .func (.func 246) #[] #[.pointer (some ⟨w.heap.size + 1 + 1 + 1, 0, none⟩), .pointer (some ⟨w.heap.size + 1 + 1, 0, none⟩), .pointer (some ⟨w.heap.size + 1 + 1 + 2, 0, none⟩)],
        .string x, undef, undef, undef, undef, undef, undef, undef, undef, undef, undef, undef, undef, undef], defers := [] })
  ⟨(OwnFrom.and (Own.from (fun s A B row hs hg hr => ⟨cell_kept hs.1 hg hr, cell_kept hs.2.1 hg hr, (frozen_kept hs.2.1 hg hr).trans hs.2.2.1, hs.2.2.2⟩) _) (ownFrom_below (zva _) (by omega))),
   (fun c => OwnFrom.and (Own.from (fun s A B row hs hg hr => ⟨hs.1, cell_kept hs.2.1 hg hr, hs.2.2⟩) _) (ownFrom_below (zva _) (by omega))),
   (fun s A v hs => ⟨⟨by rw [World.cell?_setCell_other _ _ _ _ (by simp)]; exact hs.1.1, by rw [World.cell?_setCell_other _ _ _ _ (by simp)]; exact hs.1.2.1, by rw [World.frozen?_setCell]; exact hs.1.2.2.1, hs.1.2.2.2⟩, hs.2.setCell (by show w.heap.size ≤ w.heap.size + 1 + 1; omega) _⟩), ?assign, ?body⟩ ⟨⟨c0, c1, f1, rfl⟩, g5⟩ ?done ?stop
 case assign =>
  intro l x W K hK
  gi_wp2
  exact hK
 case body =>
  rintro l pre x W ⟨⟨hc0, hc1, hf1, g0⟩, hB⟩ hx
  have HA := zu8 g0
  clear g0
  have HOK : Hid (V.ju ex x.data.toList = (V.only (V.kind [45]) x.data.toList && !(V.digits x.data.toList && !V.numb x.data.toList ex))) := rfl
  rcases hk : V.only (V.kind [45]) x.data.toList with _ | _
  ·have HK := zu8 hk
   rw [hk] at HOK
   clear hk
   gi_wp2_with fail
   refine ⟨trivial, (CallsIn.inRound l (callsIn_wide.2 (zeq x _ hx))).mono ?_⟩
   rintro e w' ⟨rfl, rfl⟩
   simp only [HK.out]
   gi_wp2
   refine ⟨trivial, ?_⟩
   gi_wp2
   all_goals first | (exfalso; rename_i h1 _; simp [undef] at h1; done) | (refine ⟨trivial, ?_⟩; gi_wp2; exact ⟨KeepsOthers.setCell _ _ _, ⟨rfl, World.cell?_setCell_same' _ _ _ (by rw [hc1]; rfl), by rw [List.all_append, HA.out]; simp [HOK.out]⟩, hB.setCell (p := ⟨w.heap.size + 1, 0, none⟩) (by show w.heap.size ≤ w.heap.size + 1; omega) _⟩)
  ·have HK := zu8 hk
   rcases hd : V.digits x.data.toList with _ | _
   ·have HD := zu8 hd
    rw [hk, hd] at HOK
    clear hk hd
    gi_wp2_with fail
    refine ⟨trivial, (CallsIn.inRound l (callsIn_wide.2 (zeq x _ hx))).mono ?_⟩
    rintro e w' ⟨rfl, rfl⟩
    simp only [HK.out]
    gi_wp2_with fail
    refine ⟨trivial, (CallsIn.inRound l (callsIn_wide.2 (xt x _ hx))).mono ?_⟩
    rintro e w' ⟨rfl, rfl⟩
    simp only [HD.out]
    gi_wp2
    refine ⟨trivial, ?_⟩
    gi_wp2
    exact zyq
   ·have HD := zu8 hd
    rcases hn : V.numb x.data.toList ex with _ | _
    all_goals
     have HN := zu8 hn
     rw [hk, hd, hn] at HOK
     clear hk hd hn
     gi_wp2_with fail
     refine ⟨trivial, (CallsIn.inRound l (callsIn_wide.2 (zeq x _ hx))).mono ?_⟩
     rintro e w' ⟨rfl, rfl⟩
     simp only [HK.out]
     gi_wp2_with fail
     refine ⟨trivial, (CallsIn.inRound l (callsIn_wide.2 (xt x _ hx))).mono ?_⟩
     rintro e w' ⟨rfl, rfl⟩
     simp only [HD.out]
     gi_wp2_with fail
     refine ⟨trivial, (CallsIn.inRound l (callsIn_wide.2 (yn x ex _ hx))).mono ?_⟩
     rintro e w' ⟨rfl, rfl⟩
     simp only [HN.out]
     gi_wp2
    ·exact ⟨KeepsOthers.setCell _ _ _, ⟨rfl, World.cell?_setCell_same' _ _ _ (by rw [hc1]; rfl), by rw [List.all_append, HA.out]; simp [HOK.out]⟩, hB.setCell (p := ⟨w.heap.size + 1, 0, none⟩) (by show w.heap.size ≤ w.heap.size + 1; omega) _⟩
    ·exact zyq
 case done =>
  rintro D ys W hD rfl ⟨⟨hc0, hc1, hf1, g0⟩, hB⟩ hK
  have HR : Hid (V.identifiers s.data.toList ex = true) := zu8 (by rw [← g1.out]; exact g0)
  clear g0
  gi_wp2
  have g2 := (KeepsOthers.setCell W ⟨w.heap.size + 1, 0, none⟩ (.bool true)).same D _ hK rfl
  refine ⟨by simp, .inl ⟨_, _, rfl, run_takeDeferred g2, ?_⟩⟩
  have g3 := cell_kept (World.cell?_setCell_same' W ⟨w.heap.size + 1, 0, none⟩ (.bool true) (by rw [hc1]; rfl)) (grownBy_putObj' _ D (.deferred none)) (fun r e => by cases e; exact ⟨_, g2, rfl⟩)
  refine ⟨.bool true, ?_, by rw [HR.out], (hB.setCell (p := ⟨w.heap.size + 1, 0, none⟩) (by show w.heap.size ≤ w.heap.size + 1; omega) _).trans (belowK_b (w := w) (zva _) _ D _ _ (by omega) g2 rfl rfl)⟩
  simp [results, Tryz.f232, go_sem, g3]
 case stop =>
  rintro D c pre W hD g4 ⟨⟨rfl, hc1, g0⟩, hB⟩ hK
  have HR : Hid (V.identifiers s.data.toList ex = false) := zu8 (by
    rw [← g1.out]
    obtain ⟨r, hr⟩ := g4
    rw [← hr, List.all_append, g0]; rfl)
  clear g0
  gi_wp2
  refine ⟨by simp, .inl ⟨_, _, rfl, run_takeDeferred hK, ?_⟩⟩
  have g3 := cell_kept hc1 (grownBy_putObj' _ D (.deferred none)) (fun r e => by cases e; exact ⟨_, hK, rfl⟩)
  refine ⟨.bool false, ?_, by rw [HR.out], hB.trans (belowK_b (w := w) (zva _) _ D _ _ (by omega) hK rfl rfl)⟩
  simp [results, Tryz.f232, go_sem, g3]
theorem wl (s : ByteArray) (ex : Bool) (w : World) (hs : s.size ≤ maxLen) :
  Calls Tryz.prog 232 #[.string s, .bool ex] w fun e w' => e = .returned (.bool (V.identifiers s.data.toList ex)) /\ Below w.heap.size w w' :=
 callsIn_wide.1 (zi0 s ex w hs)
open Go.RowKit Go.Shelf
attribute [local go_sem] Oper.semAt_some
theorem zp0 (s : ByteArray) (w : World) (hs : s.size ≤ maxLen) :
  CallsIn Fence.wide 6 Tryz.prog 265 #[.agg #[], .string s] w fun e w' => e = .returned (.bool (V.zeh s.data.toList)) /\ Below w.heap.size w w' := by
 refine callsIn_of_wp_marks Tryz.func265 rfl trivial ?_ rfl
 simp only [Tryz.ntmps265, List.size_toArray, List.length_cons, List.length_nil, Nat.reduceAdd, Nat.reduceSub, Array.replicate_succ, Array.replicate_zero, List.push_toArray, List.append_toArray, List.nil_append, List.cons_append]
 gi_wp2_with fail
 refine ⟨trivial, (callsIn_wide.2 (zfh _ _ _)).mono ?_⟩
 rintro e w' ⟨rfl, rfl⟩
 gi_wp2
 have g1 : Hid ((pcs 46 s).all (fun x => V.numb x.data.toList false) = V.zeh s.data.toList) := zu8 (by
   unfold pcs V.zeh; rw [List.all_map]; congr 1)
 obtain ⟨W0, hW0⟩ : ∃ W0, (((((w.alloc (.cells #[] 205)).alloc (.cells #[.bool false] 4)).alloc (.cells #[.string s] 9)).alloc (.cells #[.string ⟨#[46]⟩] 9)).alloc (.cells #[.int .i64 0] 3)) = W0 := ⟨_, rfl⟩
 rw [hW0]
 have g6 : W0.heap.size = w.heap.size + 5 := by rw [← hW0]; simp
 have g5 : Below w.heap.size w W0 := by
  exact zxv
 have c1 : W0.cell? ⟨w.heap.size + 1, 0, none⟩ = some (.bool false) := by
  exact zvs
 have f1 : W0.frozen? ⟨w.heap.size + 1, 0, none⟩ = false := by
  exact zwh
 have c2 : W0.cell? ⟨w.heap.size + 1 + 1, 0, none⟩ = some (.string s) := by
  exact zvs
 have f2 : W0.frozen? ⟨w.heap.size + 1 + 1, 0, none⟩ = false := by
  exact zwh
 have c3 : W0.cell? ⟨w.heap.size + 1 + 1 + 1, 0, none⟩ = some (.string ⟨#[46]⟩) := by
  exact zvs
 have c4 : W0.cell? ⟨w.heap.size + 1 + 1 + 2, 0, none⟩ = some (.int .i64 0) := by
  exact zvs
 clear hW0
 refine zbw (b := w.heap.size + 1 + 1) rfl (by omega) (gf := 246)
  (lb := #[.pointer (some ⟨w.heap.size + 1 + 1 + 1, 0, none⟩), .pointer (some ⟨w.heap.size + 1 + 1, 0, none⟩), .pointer (some ⟨w.heap.size + 1 + 1 + 2, 0, none⟩)])
  rfl trivial (enters_of Tryz.func246 (by kernel_rfl) rfl) (by omega)
  (zed 5 (by omega) (w.heap.size + 1 + 1) 46 s hs W0 (by omega) c2 f2 c3 c4) belowK_t (belowK_b (by omega)) (fun _ => rfl)
  (I := fun pre W => (W.cell? ⟨w.heap.size + 1, 0, none⟩ = some (.bool false) /\ W.frozen? ⟨w.heap.size + 1, 0, none⟩ = false /\ pre.all (fun x => V.numb x.data.toList false) = true) /\ Below w.heap.size w W)
  (Ix := fun c pre W => (c = .ret /\ W.cell? ⟨w.heap.size + 1, 0, none⟩ = some (.bool false) /\ pre.all (fun x => V.numb x.data.toList false) = false) /\ Below w.heap.size w W)
  (act := fun x => { tmps := #[.agg #[], .string s, .pointer (some ⟨w.heap.size, 0, none⟩), undef, .pointer (some ⟨w.heap.size + 1, 0, none⟩), .string x, .string s,
        .func (.func 246) #[] #[.pointer (some ⟨w.heap.size + 1 + 1 + 1, 0, none⟩), .pointer (some ⟨w.heap.size + 1 + 1, 0, none⟩), .pointer (some ⟨w.heap.size + 1 + 1 + 2, 0, none⟩)],
        .string x, undef, undef, undef], defers := [] })
  ⟨(OwnFrom.and (Own.from (fun s A B row hs hg hr => ⟨cell_kept hs.1 hg hr, (frozen_kept hs.1 hg hr).trans hs.2.1, hs.2.2⟩) _) (ownFrom_below (zva _) (by omega))),
   (fun c => OwnFrom.and (Own.from (fun s A B row hs hg hr => ⟨hs.1, cell_kept hs.2.1 hg hr, hs.2.2⟩) _) (ownFrom_below (zva _) (by omega))),
   (fun s A v hs => ⟨⟨by rw [World.cell?_setCell_other _ _ _ _ (by simp)]; exact hs.1.1, by rw [World.frozen?_setCell]; exact hs.1.2.1, hs.1.2.2⟩, hs.2.setCell (by show w.heap.size ≤ w.heap.size + 1 + 1; omega) _⟩), ?assign, ?body⟩ ⟨⟨c1, f1, rfl⟩, g5⟩ ?done ?stop
 case assign =>
  intro l x W K hK
  gi_wp2
  exact hK
 case body =>
  rintro l pre x W ⟨⟨hc1, hf1, g0⟩, hB⟩ hx
  have HA := zu8 g0
  clear g0
  rcases hn : V.numb x.data.toList false with _ | _
  all_goals
   have HN := zu8 hn
   clear hn
   gi_wp2_with fail
   refine ⟨trivial, (CallsIn.inRound l (callsIn_wide.2 (yn x false _ hx))).mono ?_⟩
   rintro e w' ⟨rfl, rfl⟩
   simp only [HN.out]
   gi_wp2
  ·exact ⟨KeepsOthers.setCell _ _ _, ⟨rfl, World.cell?_setCell_same' _ _ _ (by rw [hc1]; rfl), by rw [List.all_append, HA.out]; simp [HN.out]⟩, hB.setCell (p := ⟨w.heap.size + 1, 0, none⟩) (by show w.heap.size ≤ w.heap.size + 1; omega) _⟩
  ·exact ⟨KeepsOthers.refl _, zvb _ _, ⟨hc1, hf1, by rw [List.all_append, HA.out]; simp [HN.out]⟩, hB⟩
 case done =>
  rintro D ys W hD rfl ⟨⟨hc1, hf1, g0⟩, hB⟩ hK
  have HR : Hid (V.zeh s.data.toList = true) := zu8 (by rw [← g1.out]; exact g0)
  clear g0
  gi_wp2
  have g2 := (KeepsOthers.setCell W ⟨w.heap.size + 1, 0, none⟩ (.bool true)).same D _ hK rfl
  refine ⟨by simp, .inl ⟨_, _, rfl, run_takeDeferred g2, ?_⟩⟩
  have g3 := cell_kept (World.cell?_setCell_same' W ⟨w.heap.size + 1, 0, none⟩ (.bool true) (by rw [hc1]; rfl)) (grownBy_putObj' _ D (.deferred none)) (fun r e => by cases e; exact ⟨_, g2, rfl⟩)
  refine ⟨.bool true, ?_, by rw [HR.out], (hB.setCell (p := ⟨w.heap.size + 1, 0, none⟩) (by show w.heap.size ≤ w.heap.size + 1; omega) _).trans (belowK_b (w := w) (zva _) _ D _ _ (by omega) g2 rfl rfl)⟩
  simp [results, Tryz.f265, go_sem, g3]
 case stop =>
  rintro D c pre W hD g4 ⟨⟨rfl, hc1, g0⟩, hB⟩ hK
  have HR : Hid (V.zeh s.data.toList = false) := zu8 (by
    rw [← g1.out]
    obtain ⟨r, hr⟩ := g4
    rw [← hr, List.all_append, g0]; rfl)
  clear g0
  gi_wp2
  refine ⟨by simp, .inl ⟨_, _, rfl, run_takeDeferred hK, ?_⟩⟩
  have g3 := cell_kept hc1 (grownBy_putObj' _ D (.deferred none)) (fun r e => by cases e; exact ⟨_, hK, rfl⟩)
  refine ⟨.bool false, ?_, by rw [HR.out], hB.trans (belowK_b (w := w) (zva _) _ D _ _ (by omega) hK rfl rfl)⟩
  simp [results, Tryz.f265, go_sem, g3]
theorem zne (s : ByteArray) (w : World) (hs : s.size ≤ maxLen) :
  Calls Tryz.prog 265 #[.agg #[], .string s] w fun e w' => e = .returned (.bool (V.zeh s.data.toList)) /\ Below w.heap.size w w' :=
 callsIn_wide.1 (zp0 s w hs)
end Go.Proofs.YtbikeahmldobkaaGreatDoor
