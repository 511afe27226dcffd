import Derived.Test.YtcfbkcapbbhmpaaGreatDoorC39x02
import Derived.Test.YtcfbkcapbbhmpaaGreatDoorC39x01
import Derived.OwnWalkIn
import Derived.TacticsInMore
import Derived.LoopNIn
import Derived.LoopIn
set_option linter.all false
set_option maxRecDepth 100000
set_option maxHeartbeats 2000000
namespace Go.Proofs.YtcfbkcapbbhmpaaGreatDoor
open Go.RowKit Go.Shelf
attribute [local go_sem] Oper.semAt_some
def pcs (c : UInt8) (s : ByteArray) : List ByteArray := (V.zd c s.data.toList).map fun x => ⟨x.toArray⟩
theorem pcs_none {c : UInt8} {s : ByteArray} (h : c ∉ s.data.toList) : pcs c s = [s] := by
 unfold pcs; rw [V.ka h]; simp
theorem zsm {c : UInt8} {s : ByteArray} {i : Nat} (h : Lib.indexByte s.data.toList c = i) : pcs c s = s.extract 0 i :: pcs c (s.extract (i + 1) s.size) /\ i < s.size := by
 have hm : c ∈ s.data.toList := by
  have := V.yg s.data.toList c
  rw [h] at this
  simpa using this.symm
 have hi : ((s.data.toList.takeWhile (· != c)).length) = i := by
  have h1 : Lib.index s.data.toList [c] = Lib.indexByte s.data.toList c := Lib.index_one s.data.toList c
  rw [V.index_one, if_pos hm, h] at h1
  omega
 have hlt := V.tw_lt hm
 rw [zf] at hlt
 refine ⟨?_, by omega⟩
 unfold pcs
 rw [V.vz hm, List.map_cons, hi, Lib.extract_to_end]
 congr 1
 apply jk
 rw [Lib.extract_data]
 have := V.zjy s.data.toList (· != c)
 rw [hi] at this
 simp [this]
def strLen : Option Value -> Nat
 | some (.string s) => s.size
 | _ => 0
theorem zqp (n : Nat) (hn : 1 ≤ n) (l bS : Nat) (c : UInt8) (s : ByteArray) (hs : s.size ≤ maxLen) (J Jx : List ByteArray -> World -> Prop)
  (hJ : ∀ s A v, J s A -> J s (A.setCell ⟨bS, 0, none⟩ v))
  (hY : ∀ pre x W, J pre W -> x.size ≤ maxLen -> YieldAt Fence.wide (n - 1) Tryz.prog l #[.string x] W fun e W' =>
    (e = .returned (.bool true) /\ J (pre ++ [x]) W' /\ Below (bS + 3) W W') ∨ (e = .returned (.bool false) /\ Jx (pre ++ [x]) W'))
  (W : World) (hS : W.cell? ⟨bS, 0, none⟩ = some (.string s)) (hF : W.frozen? ⟨bS, 0, none⟩ = false) (hP : W.cell? ⟨bS + 1, 0, none⟩ = some (.string ⟨#[c]⟩)) (hV : W.cell? ⟨bS + 2, 0, none⟩ = some (.int .i64 0)) (h0 : J [] W) :
  CallsIn Fence.wide n Tryz.prog 228 #[.func (.yield l) #[] #[], .pointer (some ⟨bS + 1, 0, none⟩), .pointer (some ⟨bS, 0, none⟩), .pointer (some ⟨bS + 2, 0, none⟩)] W fun e W' => (∃ v, e = .returned v) /\
   ((∃ ys, ys = pcs c s /\ J ys W') ∨ (∃ pre, pre <+: pcs c s /\ Jx pre W')) := by
 unfold maxLen at hs
 have HJ := zwe hJ
 have HY := zwe hY
 clear hJ hY
 refine callsIn_of_wp Tryz.func228 rfl trivial ?_ rfl
 simp only [Tryz.ntmps228, List.size_toArray, List.length_cons, List.length_nil, Nat.reduceAdd, Nat.reduceSub, Array.replicate_succ, Array.replicate_zero, List.push_toArray, List.append_toArray, List.nil_append, List.cons_append]
 gi_wp2
 gi_loopw [7] (fun _ wr => ∃ (pre : List ByteArray) (r : ByteArray), wr.cell? ⟨bS, 0, none⟩ = some (.string r) /\ wr.frozen? ⟨bS, 0, none⟩ = false /\ wr.cell? ⟨bS + 1, 0, none⟩ = some (.string ⟨#[c]⟩) /\ wr.cell? ⟨bS + 2, 0, none⟩ = some (.int .i64 0) /\ r.size ≤ 9223372036854775807 /\ pcs c s = pre ++ pcs c r /\ J pre wr)
  (fun _ wr => strLen (wr.cell? ⟨bS, 0, none⟩))
 case atStart => exact ⟨[], s, hS, hF, hP, hV, by omega, rfl, h0⟩
 case round =>
  obtain ⟨pre, r, hS, hF, hP, hV, hr, hpc, hj⟩ := hrel
  have HPC := zwe hpc
  have HJS := zwe hj
  clear hpc hj
  have hcase : (Lib.indexByte r.data.toList c = -1 /\ pcs c r = [r]) ∨ ∃ i : Nat, Lib.indexByte r.data.toList c = i /\ i < r.size /\ pcs c r = r.extract 0 i :: pcs c (r.extract (i + 1) r.size) := by
   have hge := Lib.indexByte_ge r.data.toList c
   by_cases hm : Lib.indexByte r.data.toList c = -1
   ·refine .inl ⟨hm, pcs_none fun e => ?_⟩
    have := V.yg r.data.toList c
    rw [hm] at this
    simp [e] at this
   ·obtain ⟨i, hi⟩ := Int.eq_ofNat_of_zero_le (show 0 ≤ Lib.indexByte r.data.toList c by omega)
    exact .inr ⟨i, hi, (zsm hi).2, (zsm hi).1⟩
  rcases hcase with ⟨hi, hp⟩ | ⟨i, hi, hlt, hp⟩
  ·have HI := zwe hi
   have HP := zwe hp
   clear hi hp
   obtain ⟨fn, tmps, assign, body, hy, hR⟩ := HY.out pre r wr HJS.out (by unfold maxLen; omega)
   gi_wp2_with fail
   refine ⟨trivial, (callsIn_wide.2 (Tryz.strings_Index_one r c _)).mono ?_⟩
   rintro e w' ⟨rfl, rfl⟩
   simp only [HI.out]
   gi_wp2
   refine hR.mono ?_
   rintro e W3 (⟨rfl, hJ3, hk3⟩ | ⟨rfl, hJx3⟩)
   ·gi_wp2
    go_end0
    exact ⟨⟨_, rfl⟩, .inl ⟨_, rfl, by rw [HPC.out, HP.out]; exact hJ3⟩⟩
   ·gi_wp2
    go_end0
    exact ⟨⟨_, rfl⟩, .inr ⟨_, by rw [HPC.out, HP.out]; exact List.prefix_refl _, hJx3⟩⟩
  ·have HI := zwe hi
   have HP := zwe hp
   clear hi hp
   obtain ⟨fn, tmps, assign, body, hy, hR⟩ := HY.out pre (r.extract 0 i) wr HJS.out (by unfold maxLen; simp [ByteArray.size_extract]; omega)
   gi_wp2_with fail
   refine ⟨trivial, (callsIn_wide.2 (Tryz.strings_Index_one r c _)).mono ?_⟩
   rintro e w' ⟨rfl, rfl⟩
   simp only [HI.out]
   gi_wp2
   refine hR.mono ?_
   rintro e W3 (⟨rfl, hJ3, hk3⟩ | ⟨rfl, hJx3⟩)
   ·have hS3 := (hk3.cell (p := ⟨bS, 0, none⟩) (by show bS < bS + 3; omega)).trans hS
    have hF3 := (hk3.frozen (p := ⟨bS, 0, none⟩) (by show bS < bS + 3; omega)).trans hF
    have hP3 := (hk3.cell (p := ⟨bS + 1, 0, none⟩) (by show bS + 1 < bS + 3; omega)).trans hP
    have hV3 := (hk3.cell (p := ⟨bS + 2, 0, none⟩) (by show bS + 2 < bS + 3; omega)).trans hV
    gi_wp2
    go_roundw
    case rel =>
     refine ⟨pre ++ [r.extract 0 i], r.extract (i + 1) r.size, World.cell?_setCell_same _ _ _ hS3, ?_, ?_, ?_, by simp [ByteArray.size_extract]; omega, by rw [HPC.out, HP.out]; simp, HJ.out _ _ _ hJ3⟩
     ·rw [World.frozen?_setCell]; exact hF3
     ·rw [World.cell?_setCell_other _ _ _ _ (by simp)]; exact hP3
     ·rw [World.cell?_setCell_other _ _ _ _ (by simp)]; exact hV3
    case measure =>
     rw [World.cell?_setCell_same _ _ _ hS3, hS]
     simp [strLen, ByteArray.size_extract]; omega
   ·gi_wp2
    refine bodyPost_ret (results_none rfl _ _ _) rfl ?_
    exact ⟨⟨_, rfl⟩, .inr ⟨_, by rw [HPC.out, HP.out]; exact ⟨pcs c (r.extract (i + 1) r.size), by simp⟩, hJx3⟩⟩
theorem zfi (n : Nat) (hn : 1 ≤ n) (bS : Nat) (c : UInt8) (s : ByteArray) (hs : s.size ≤ maxLen) (w : World) (hb : bS + 2 < w.heap.size)
  (hS : w.cell? ⟨bS, 0, none⟩ = some (.string s)) (hF : w.frozen? ⟨bS, 0, none⟩ = false) (hP : w.cell? ⟨bS + 1, 0, none⟩ = some (.string ⟨#[c]⟩)) (hV : w.cell? ⟨bS + 2, 0, none⟩ = some (.int .i64 0)) :
  Hands Fence.wide n Tryz.prog 228 #[.pointer (some ⟨bS + 1, 0, none⟩), .pointer (some ⟨bS, 0, none⟩), .pointer (some ⟨bS + 2, 0, none⟩)] (fun x : ByteArray => #[.string x]) (Below (bS + 3)) (fun ys => ys = pcs c s) (fun pre => pre <+: pcs c s) (fun x => x.size ≤ maxLen) w bS := by
 intro l J Jx W hW hJ hY h0
 have hc := fun o => hW.cell (p := ⟨bS, o, none⟩) (show bS < w.heap.size by omega)
 have hc1 := fun o => hW.cell (p := ⟨bS + 1, o, none⟩) (show bS + 1 < w.heap.size by omega)
 have hc2 := fun o => hW.cell (p := ⟨bS + 2, o, none⟩) (show bS + 2 < w.heap.size by omega)
 refine (zqp n hn l bS c s hs J Jx hJ hY W ((hc 0).trans hS) ((hW.frozen (p := ⟨bS, 0, none⟩) (show bS < w.heap.size by omega)).trans hF) ((hc1 0).trans hP) ((hc2 0).trans hV) h0)
theorem zgp (s sep : ByteArray) (w : World) :
  Calls Tryz.prog 219 #[.string s, .string sep] w fun e w' =>
   e = .returned (.func (.func 228) #[] #[.pointer (some ⟨w.heap.size + 1, 0, none⟩), .pointer (some ⟨w.heap.size, 0, none⟩), .pointer (some ⟨w.heap.size + 2, 0, none⟩)]) /\
   w' = ((w.alloc (.cells #[.string s] 9)).alloc (.cells #[.string sep] 9)).alloc (.cells #[.int .i64 0] 3) := by
 go_enter Tryz.func219, Tryz.ntmps219
 go_wp2
 go_ret
 exact ⟨rfl, rfl⟩
open Go.RowKit Go.Shelf
attribute [local go_sem] Oper.semAt_some
theorem z0w {P : Prop} (h : P := by
 go_wp2_with fail
 refine (zak _ _).mono ?_
 rintro e w' ⟨rfl, rfl⟩
 simp only [HD.out]
 go_wp2
 go_ret
 exact ⟨zc (by rw [HK.out]; simp), rfl⟩) : P := h
theorem zhn (c : UInt8) (w : World) :
  Calls Tryz.prog 220 #[.int .u8 c.toNat] w fun e w' => e = .returned (.bool (V.kind [45] c)) /\ w = w' := by
 have HK : Hid (V.kind [45] c = (V.letB c.toNat || V.digB c.toNat || ((c.toNat : Int) == 45))) := zwe (by
   unfold V.kind V.lett V.dig
   congr 1
   rw [Bool.eq_iff_iff]; simp [← UInt8.toNat_inj]; omega)
 generalize hn : (c.toNat : Int) = x at *
 clear hn
 rcases hD : V.digB x with _ | _
 ·have HD := zwe hD
  rcases hL : V.letB x with _ | _
  all_goals
   have HL := zwe hL
   rw [hD, hL] at HK
   clear hD hL
   go_enter Tryz.func220, Tryz.ntmps220
   go_wp2_with fail
   refine (zak _ _).mono ?_
   rintro e w' ⟨rfl, rfl⟩
   simp only [HD.out]
   go_wp2_with fail
   refine (zdn _ _).mono ?_
   rintro e w' ⟨rfl, rfl⟩
   simp only [HL.out]
   go_wp2
   all_goals
    go_ret
    exact ⟨zc (by rw [HK.out]; simp_all), rfl⟩
 ·have HD := zwe hD
  rw [hD] at HK
  clear hD
  go_enter Tryz.func220, Tryz.ntmps220
  exact z0w
theorem zfz (s : ByteArray) (w : World) (hs : s.size ≤ maxLen) :
  Calls Tryz.prog 217 #[.string s, .func (.func 220) #[] #[]] w fun e w' => e = .returned (.bool (V.only (V.kind [45]) s.data.toList)) /\ w = w' :=
 zg7 s _ #[] (V.kind [45]) w hs (enters_of Tryz.func220 (by kernel_rfl) rfl) (fun c => zhn c w)
theorem zxs {P : Prop} (h : P := by
 rw [← hW0]; simp only [ze, World.size_alloc]; repeat (first | rw [if_pos (by omega)] | rw [if_neg (by omega)])
 rfl) : P := h
theorem zy2 {P : Prop} (h : P := by
 rw [← hW0]; simp only [zz, World.size_alloc]; repeat (first | rw [if_pos (by omega)] | rw [if_neg (by omega)])
 rfl) : P := h
theorem z0u {P : Prop} (h : P := by
 rw [← hW0]
 exact (((((zwh _ w).alloc (zwg _) _).alloc (by simp) _).alloc (by simp; omega) _).alloc (by simp; omega) _).alloc (by simp; omega) _) : P := h
theorem z1v {P : Prop} (h : P := by
 exact ⟨KeepsOthers.refl _, zwh _ _, ⟨hc0, hc1, hf1, by rw [List.all_append, HA.out]; simp [HOK.out]⟩, hB⟩) : P := h
theorem zk9 (s : ByteArray) (ex : Bool) (w : World) (hs : s.size ≤ maxLen) :
  CallsIn Fence.wide 6 Tryz.prog 214 #[.string s, .bool ex] w fun e w' => e = .returned (.bool (V.identifiers s.data.toList ex)) /\ Below w.heap.size w w' := by
 refine callsIn_of_wp_marks Tryz.func214 rfl trivial ?_ rfl
 simp only [Tryz.ntmps214, List.size_toArray, List.length_cons, List.length_nil, Nat.reduceAdd, Nat.reduceSub, Array.replicate_succ, Array.replicate_zero, List.push_toArray, List.append_toArray, List.nil_append, List.cons_append]
 gi_wp2_with fail
 refine ⟨trivial, (callsIn_wide.2 (zgp _ _ _)).mono ?_⟩
 rintro e w' ⟨rfl, rfl⟩
 gi_wp2
 have hPcs : Hid ((pcs 46 s).all (fun x => V.km ex x.data.toList) = V.identifiers s.data.toList ex) := zwe (by
   unfold pcs V.identifiers; rw [List.all_map]; congr 1)
 obtain ⟨W0, hW0⟩ : ∃ W0, (((((w.alloc (.cells #[.bool ex] 4)).alloc (.cells #[.bool false] 4)).alloc (.cells #[.string s] 9)).alloc (.cells #[.string ⟨#[46]⟩] 9)).alloc (.cells #[.int .i64 0] 3)) = W0 := ⟨_, rfl⟩
 rw [hW0]
 have hsz : W0.heap.size = w.heap.size + 5 := by rw [← hW0]; simp
 have hB0 : Below w.heap.size w W0 := by
  exact z0u
 have c0 : W0.cell? ⟨w.heap.size, 0, none⟩ = some (.bool ex) := by
  exact zxs
 have c1 : W0.cell? ⟨w.heap.size + 1, 0, none⟩ = some (.bool false) := by
  exact zxs
 have f1 : W0.frozen? ⟨w.heap.size + 1, 0, none⟩ = false := by
  exact zy2
 have c2 : W0.cell? ⟨w.heap.size + 1 + 1, 0, none⟩ = some (.string s) := by
  exact zxs
 have f2 : W0.frozen? ⟨w.heap.size + 1 + 1, 0, none⟩ = false := by
  exact zy2
 have c3 : W0.cell? ⟨w.heap.size + 1 + 1 + 1, 0, none⟩ = some (.string ⟨#[46]⟩) := by
  exact zxs
 have c4 : W0.cell? ⟨w.heap.size + 1 + 1 + 2, 0, none⟩ = some (.int .i64 0) := by
  exact zxs
 clear hW0
 refine zc0 (b := w.heap.size + 1 + 1) rfl (by omega) (gf := 228)
  (lb := #[.pointer (some ⟨w.heap.size + 1 + 1 + 1, 0, none⟩), .pointer (some ⟨w.heap.size + 1 + 1, 0, none⟩), .pointer (some ⟨w.heap.size + 1 + 1 + 2, 0, none⟩)])
  rfl trivial (enters_of Tryz.func228 (by kernel_rfl) rfl) (by omega)
  (zfi 5 (by omega) (w.heap.size + 1 + 1) 46 s hs W0 (by omega) c2 f2 c3 c4) belowK_t (belowK_b (by omega)) (fun _ => rfl)
  (I := fun pre W => (W.cell? ⟨w.heap.size, 0, none⟩ = some (.bool ex) /\ W.cell? ⟨w.heap.size + 1, 0, none⟩ = some (.bool false) /\ W.frozen? ⟨w.heap.size + 1, 0, none⟩ = false /\ pre.all (fun x => V.km ex x.data.toList) = true) /\ Below w.heap.size w W)
  (Ix := fun c pre W => (c = .ret /\ W.cell? ⟨w.heap.size + 1, 0, none⟩ = some (.bool false) /\ pre.all (fun x => V.km ex x.data.toList) = false) /\ Below w.heap.size w W)
  (act := fun x => { tmps := #[.string s, .bool ex, undef, .pointer (some ⟨w.heap.size, 0, none⟩), .pointer (some ⟨w.heap.size + 1, 0, none⟩), .string x, .string s,
        .func (.func 228) #[] #[.pointer (some ⟨w.heap.size + 1 + 1 + 1, 0, none⟩), .pointer (some ⟨w.heap.size + 1 + 1, 0, none⟩), .pointer (some ⟨w.heap.size + 1 + 1 + 2, 0, none⟩)],
        .string x, undef, undef, undef, undef, undef, undef, undef, undef, undef, undef, undef, undef, undef], defers := [] })
  ⟨(OwnFrom.and (Own.from (fun s A B row hs hg hr => ⟨cell_kept hs.1 hg hr, cell_kept hs.2.1 hg hr, (frozen_kept hs.2.1 hg hr).trans hs.2.2.1, hs.2.2.2⟩) _) (ownFrom_below (zwg _) (by omega))),
   (fun c => OwnFrom.and (Own.from (fun s A B row hs hg hr => ⟨hs.1, cell_kept hs.2.1 hg hr, hs.2.2⟩) _) (ownFrom_below (zwg _) (by omega))),
   (fun s A v hs => ⟨⟨by rw [World.cell?_setCell_other _ _ _ _ (by simp)]; exact hs.1.1, by rw [World.cell?_setCell_other _ _ _ _ (by simp)]; exact hs.1.2.1, by rw [World.frozen?_setCell]; exact hs.1.2.2.1, hs.1.2.2.2⟩, hs.2.setCell (by show w.heap.size ≤ w.heap.size + 1 + 1; omega) _⟩), ?assign, ?body⟩ ⟨⟨c0, c1, f1, rfl⟩, hB0⟩ ?done ?stop
 case assign =>
  intro l x W K hK
  gi_wp2
  exact hK
 case body =>
  rintro l pre x W ⟨⟨hc0, hc1, hf1, hall⟩, hB⟩ hx
  have HA := zwe hall
  clear hall
  have HOK : Hid (V.km ex x.data.toList = (V.only (V.kind [45]) x.data.toList && !(V.digits x.data.toList && !V.numb x.data.toList ex))) := rfl
  rcases hk : V.only (V.kind [45]) x.data.toList with _ | _
  ·have HK := zwe hk
   rw [hk] at HOK
   clear hk
   gi_wp2_with fail
   refine ⟨trivial, (CallsIn.inRound l (callsIn_wide.2 (zfz x _ hx))).mono ?_⟩
   rintro e w' ⟨rfl, rfl⟩
   simp only [HK.out]
   gi_wp2
   refine ⟨trivial, ?_⟩
   gi_wp2
   all_goals first | (exfalso; rename_i h1 _; simp [undef] at h1; done) | (refine ⟨trivial, ?_⟩; gi_wp2; exact ⟨KeepsOthers.setCell _ _ _, ⟨rfl, World.cell?_setCell_same' _ _ _ (by rw [hc1]; rfl), by rw [List.all_append, HA.out]; simp [HOK.out]⟩, hB.setCell (p := ⟨w.heap.size + 1, 0, none⟩) (by show w.heap.size ≤ w.heap.size + 1; omega) _⟩)
  ·have HK := zwe hk
   rcases hd : V.digits x.data.toList with _ | _
   ·have HD := zwe hd
    rw [hk, hd] at HOK
    clear hk hd
    gi_wp2_with fail
    refine ⟨trivial, (CallsIn.inRound l (callsIn_wide.2 (zfz x _ hx))).mono ?_⟩
    rintro e w' ⟨rfl, rfl⟩
    simp only [HK.out]
    gi_wp2_with fail
    refine ⟨trivial, (CallsIn.inRound l (callsIn_wide.2 (yx x _ hx))).mono ?_⟩
    rintro e w' ⟨rfl, rfl⟩
    simp only [HD.out]
    gi_wp2
    refine ⟨trivial, ?_⟩
    gi_wp2
    exact z1v
   ·have HD := zwe hd
    rcases hn : V.numb x.data.toList ex with _ | _
    all_goals
     have HN := zwe hn
     rw [hk, hd, hn] at HOK
     clear hk hd hn
     gi_wp2_with fail
     refine ⟨trivial, (CallsIn.inRound l (callsIn_wide.2 (zfz x _ hx))).mono ?_⟩
     rintro e w' ⟨rfl, rfl⟩
     simp only [HK.out]
     gi_wp2_with fail
     refine ⟨trivial, (CallsIn.inRound l (callsIn_wide.2 (yx x _ hx))).mono ?_⟩
     rintro e w' ⟨rfl, rfl⟩
     simp only [HD.out]
     gi_wp2_with fail
     refine ⟨trivial, (CallsIn.inRound l (callsIn_wide.2 (vj x ex _ hx))).mono ?_⟩
     rintro e w' ⟨rfl, rfl⟩
     simp only [HN.out]
     gi_wp2
    ·exact ⟨KeepsOthers.setCell _ _ _, ⟨rfl, World.cell?_setCell_same' _ _ _ (by rw [hc1]; rfl), by rw [List.all_append, HA.out]; simp [HOK.out]⟩, hB.setCell (p := ⟨w.heap.size + 1, 0, none⟩) (by show w.heap.size ≤ w.heap.size + 1; omega) _⟩
    ·exact z1v
 case done =>
  rintro D ys W hD rfl ⟨⟨hc0, hc1, hf1, hall⟩, hB⟩ hK
  have HR : Hid (V.identifiers s.data.toList ex = true) := zwe (by rw [← hPcs.out]; exact hall)
  clear hall
  gi_wp2
  have hK' := (KeepsOthers.setCell W ⟨w.heap.size + 1, 0, none⟩ (.bool true)).same D _ hK rfl
  refine ⟨by simp, .inl ⟨_, _, rfl, run_takeDeferred hK', ?_⟩⟩
  have hc5 := cell_kept (World.cell?_setCell_same' W ⟨w.heap.size + 1, 0, none⟩ (.bool true) (by rw [hc1]; rfl)) (grownBy_putObj' _ D (.deferred none)) (fun r e => by cases e; exact ⟨_, hK', rfl⟩)
  refine ⟨.bool true, ?_, by rw [HR.out], (hB.setCell (p := ⟨w.heap.size + 1, 0, none⟩) (by show w.heap.size ≤ w.heap.size + 1; omega) _).trans (belowK_b (w := w) (zwg _) _ D _ _ (by omega) hK' rfl rfl)⟩
  simp [results, Tryz.f214, go_sem, hc5]
 case stop =>
  rintro D c pre W hD hpre ⟨⟨rfl, hc1, hall⟩, hB⟩ hK
  have HR : Hid (V.identifiers s.data.toList ex = false) := zwe (by
    rw [← hPcs.out]
    obtain ⟨r, hr⟩ := hpre
    rw [← hr, List.all_append, hall]; rfl)
  clear hall
  gi_wp2
  refine ⟨by simp, .inl ⟨_, _, rfl, run_takeDeferred hK, ?_⟩⟩
  have hc5 := cell_kept hc1 (grownBy_putObj' _ D (.deferred none)) (fun r e => by cases e; exact ⟨_, hK, rfl⟩)
  refine ⟨.bool false, ?_, by rw [HR.out], hB.trans (belowK_b (w := w) (zwg _) _ D _ _ (by omega) hK rfl rfl)⟩
  simp [results, Tryz.f214, go_sem, hc5]
theorem za2 (s : ByteArray) (ex : Bool) (w : World) (hs : s.size ≤ maxLen) :
  Calls Tryz.prog 214 #[.string s, .bool ex] w fun e w' => e = .returned (.bool (V.identifiers s.data.toList ex)) /\ Below w.heap.size w w' :=
 callsIn_wide.1 (zk9 s ex w hs)
open Go.RowKit Go.Shelf
attribute [local go_sem] Oper.semAt_some
theorem zsf (s : ByteArray) (w : World) (hs : s.size ≤ maxLen) :
  CallsIn Fence.wide 6 Tryz.prog 247 #[.agg #[], .string s] w fun e w' => e = .returned (.bool (V.zfl s.data.toList)) /\ Below w.heap.size w w' := by
 refine callsIn_of_wp_marks Tryz.func247 rfl trivial ?_ rfl
 simp only [Tryz.ntmps247, List.size_toArray, List.length_cons, List.length_nil, Nat.reduceAdd, Nat.reduceSub, Array.replicate_succ, Array.replicate_zero, List.push_toArray, List.append_toArray, List.nil_append, List.cons_append]
 gi_wp2_with fail
 refine ⟨trivial, (callsIn_wide.2 (zgp _ _ _)).mono ?_⟩
 rintro e w' ⟨rfl, rfl⟩
 gi_wp2
 have hPcs : Hid ((pcs 46 s).all (fun x => V.numb x.data.toList false) = V.zfl s.data.toList) := zwe (by
   unfold pcs V.zfl; rw [List.all_map]; congr 1)
 obtain ⟨W0, hW0⟩ : ∃ W0, (((((w.alloc (.cells #[] 185)).alloc (.cells #[.bool false] 4)).alloc (.cells #[.string s] 9)).alloc (.cells #[.string ⟨#[46]⟩] 9)).alloc (.cells #[.int .i64 0] 3)) = W0 := ⟨_, rfl⟩
 rw [hW0]
 have hsz : W0.heap.size = w.heap.size + 5 := by rw [← hW0]; simp
 have hB0 : Below w.heap.size w W0 := by
  exact z0u
 have c1 : W0.cell? ⟨w.heap.size + 1, 0, none⟩ = some (.bool false) := by
  exact zxs
 have f1 : W0.frozen? ⟨w.heap.size + 1, 0, none⟩ = false := by
  exact zy2
 have c2 : W0.cell? ⟨w.heap.size + 1 + 1, 0, none⟩ = some (.string s) := by
  exact zxs
 have f2 : W0.frozen? ⟨w.heap.size + 1 + 1, 0, none⟩ = false := by
  exact zy2
 have c3 : W0.cell? ⟨w.heap.size + 1 + 1 + 1, 0, none⟩ = some (.string ⟨#[46]⟩) := by
  exact zxs
 have c4 : W0.cell? ⟨w.heap.size + 1 + 1 + 2, 0, none⟩ = some (.int .i64 0) := by
  exact zxs
 clear hW0
 refine zc0 (b := w.heap.size + 1 + 1) rfl (by omega) (gf := 228)
  (lb := #[.pointer (some ⟨w.heap.size + 1 + 1 + 1, 0, none⟩), .pointer (some ⟨w.heap.size + 1 + 1, 0, none⟩), .pointer (some ⟨w.heap.size + 1 + 1 + 2, 0, none⟩)])
  rfl trivial (enters_of Tryz.func228 (by kernel_rfl) rfl) (by omega)
  (zfi 5 (by omega) (w.heap.size + 1 + 1) 46 s hs W0 (by omega) c2 f2 c3 c4) belowK_t (belowK_b (by omega)) (fun _ => rfl)
  (I := fun pre W => (W.cell? ⟨w.heap.size + 1, 0, none⟩ = some (.bool false) /\ W.frozen? ⟨w.heap.size + 1, 0, none⟩ = false /\ pre.all (fun x => V.numb x.data.toList false) = true) /\ Below w.heap.size w W)
  (Ix := fun c pre W => (c = .ret /\ W.cell? ⟨w.heap.size + 1, 0, none⟩ = some (.bool false) /\ pre.all (fun x => V.numb x.data.toList false) = false) /\ Below w.heap.size w W)
  (act := fun x => { tmps := #[.agg #[], .string s, .pointer (some ⟨w.heap.size, 0, none⟩), undef, .pointer (some ⟨w.heap.size + 1, 0, none⟩), .string x, .string s,
        .func (.func 228) #[] #[.pointer (some ⟨w.heap.size + 1 + 1 + 1, 0, none⟩), .pointer (some ⟨w.heap.size + 1 + 1, 0, none⟩), .pointer (some ⟨w.heap.size + 1 + 1 + 2, 0, none⟩)],
        .string x, undef, undef, undef], defers := [] })
  ⟨(OwnFrom.and (Own.from (fun s A B row hs hg hr => ⟨cell_kept hs.1 hg hr, (frozen_kept hs.1 hg hr).trans hs.2.1, hs.2.2⟩) _) (ownFrom_below (zwg _) (by omega))),
   (fun c => OwnFrom.and (Own.from (fun s A B row hs hg hr => ⟨hs.1, cell_kept hs.2.1 hg hr, hs.2.2⟩) _) (ownFrom_below (zwg _) (by omega))),
   (fun s A v hs => ⟨⟨by rw [World.cell?_setCell_other _ _ _ _ (by simp)]; exact hs.1.1, by rw [World.frozen?_setCell]; exact hs.1.2.1, hs.1.2.2⟩, hs.2.setCell (by show w.heap.size ≤ w.heap.size + 1 + 1; omega) _⟩), ?assign, ?body⟩ ⟨⟨c1, f1, rfl⟩, hB0⟩ ?done ?stop
 case assign =>
  intro l x W K hK
  gi_wp2
  exact hK
 case body =>
  rintro l pre x W ⟨⟨hc1, hf1, hall⟩, hB⟩ hx
  have HA := zwe hall
  clear hall
  rcases hn : V.numb x.data.toList false with _ | _
  all_goals
   have HN := zwe hn
   clear hn
   gi_wp2_with fail
   refine ⟨trivial, (CallsIn.inRound l (callsIn_wide.2 (vj x false _ hx))).mono ?_⟩
   rintro e w' ⟨rfl, rfl⟩
   simp only [HN.out]
   gi_wp2
  ·exact ⟨KeepsOthers.setCell _ _ _, ⟨rfl, World.cell?_setCell_same' _ _ _ (by rw [hc1]; rfl), by rw [List.all_append, HA.out]; simp [HN.out]⟩, hB.setCell (p := ⟨w.heap.size + 1, 0, none⟩) (by show w.heap.size ≤ w.heap.size + 1; omega) _⟩
  ·exact ⟨KeepsOthers.refl _, zwh _ _, ⟨hc1, hf1, by rw [List.all_append, HA.out]; simp [HN.out]⟩, hB⟩
 case done =>
  rintro D ys W hD rfl ⟨⟨hc1, hf1, hall⟩, hB⟩ hK
  have HR : Hid (V.zfl s.data.toList = true) := zwe (by rw [← hPcs.out]; exact hall)
  clear hall
  gi_wp2
  have hK' := (KeepsOthers.setCell W ⟨w.heap.size + 1, 0, none⟩ (.bool true)).same D _ hK rfl
  refine ⟨by simp, .inl ⟨_, _, rfl, run_takeDeferred hK', ?_⟩⟩
  have hc5 := cell_kept (World.cell?_setCell_same' W ⟨w.heap.size + 1, 0, none⟩ (.bool true) (by rw [hc1]; rfl)) (grownBy_putObj' _ D (.deferred none)) (fun r e => by cases e; exact ⟨_, hK', rfl⟩)
  refine ⟨.bool true, ?_, by rw [HR.out], (hB.setCell (p := ⟨w.heap.size + 1, 0, none⟩) (by show w.heap.size ≤ w.heap.size + 1; omega) _).trans (belowK_b (w := w) (zwg _) _ D _ _ (by omega) hK' rfl rfl)⟩
  simp [results, Tryz.f247, go_sem, hc5]
 case stop =>
  rintro D c pre W hD hpre ⟨⟨rfl, hc1, hall⟩, hB⟩ hK
  have HR : Hid (V.zfl s.data.toList = false) := zwe (by
    rw [← hPcs.out]
    obtain ⟨r, hr⟩ := hpre
    rw [← hr, List.all_append, hall]; rfl)
  clear hall
  gi_wp2
  refine ⟨by simp, .inl ⟨_, _, rfl, run_takeDeferred hK, ?_⟩⟩
  have hc5 := cell_kept hc1 (grownBy_putObj' _ D (.deferred none)) (fun r e => by cases e; exact ⟨_, hK, rfl⟩)
  refine ⟨.bool false, ?_, by rw [HR.out], hB.trans (belowK_b (w := w) (zwg _) _ D _ _ (by omega) hK rfl rfl)⟩
  simp [results, Tryz.f247, go_sem, hc5]
theorem zp0 (s : ByteArray) (w : World) (hs : s.size ≤ maxLen) :
  Calls Tryz.prog 247 #[.agg #[], .string s] w fun e w' => e = .returned (.bool (V.zfl s.data.toList)) /\ Below w.heap.size w w' :=
 callsIn_wide.1 (zsf s w hs)
end Go.Proofs.YtcfbkcapbbhmpaaGreatDoor
