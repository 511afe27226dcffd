/-
  Lemmas for the law.
-/
import Derived.Test.YtiloljoancdcbaaGreatDoorC38x32
import Derived.Test.YtiloljoancdcbaaGreatDoorC38x33
import Derived.Test.YtiloljoancdcbaaGreatDoorC38x17
set_option linter.all false
set_option maxRecDepth 100000
set_option maxHeartbeats 1600000
namespace Go.Proofs.YtiloljoancdcbaaGreatDoor
open Go.RowKit
namespace V
def parP (n : Int) (s : Bs) : Int × List Itv × Int := match xr n s with | (some l, c) => (n, l, c) | (none, c) => (0, [], c)
theorem zhf {n : Int} {s : Bs} (h : scheme n = false) : parP n s = (0, [], 14) := by unfold parP xr; rw [h]; rfl
theorem zmy {n : Int} {s : Bs} (h : scheme n = true) (hl : ¬ s.length ≤ 8192) : parP n s = (0, [], 3) := by unfold parP xr; rw [if_pos h, if_neg hl]
theorem zmp {n : Int} {s : Bs} (h : scheme n = true) (hl : s.length ≤ 8192) (ha : xx n (Lib.split s orT) = none) : parP n s = (0, [], 2) := by unfold parP xr; rw [if_pos h, if_pos hl, ha]
theorem zjo {n : Int} {s : Bs} {xs : List (List Itv)} (h : scheme n = true) (hl : s.length ≤ 8192) (ha : xx n (Lib.split s orT) = some xs) (hu : qu n [] xs = none) : parP n s = (0, [], 3) := by
 unfold parP xr; rw [if_pos h, if_pos hl, ha]; simp only [hu]
theorem ztt {n : Int} {s : Bs} {xs : List (List Itv)} {l : List Itv} (h : scheme n = true) (hl : s.length ≤ 8192) (ha : xx n (Lib.split s orT) = some xs) (hu : qu n [] xs = some l) : parP n s = (n, l, 0) := by
 unfold parP xr; rw [if_pos h, if_pos hl, ha]; simp only [hu]
theorem zvd {n : Int} {s : Bs} {l : List Itv} (h : xr n s = (some l, 0)) : parP n s = (n, l, 0) := by unfold parP; rw [h]
def zbp (n : Int) (P : List Bs) (k : Nat) (xs : List (List Itv)) : Prop := xx n P = match xx n (P.drop k) with | none => none | some ys => some (xs ++ ys)
theorem zhc (n : Int) (P : List Bs) : zbp n P 0 [] := by
 unfold zbp
 rw [List.drop_zero]
 cases xx n P <;> rfl
theorem zhn {n : Int} {P : List Bs} {k : Nat} {xs : List (List Itv)} (h : zbp n P k xs) (hk : k < P.length) (ha : altP n P[k] = none) : xx n P = none := by
 unfold zbp at h
 rw [h, List.drop_eq_getElem_cons hk, xx, ha]
theorem zhj {n : Int} {P : List Bs} {k : Nat} {xs : List (List Itv)} {x : List Itv} (h : zbp n P k xs) (hk : k < P.length) (ha : altP n P[k] = some x) : zbp n P (k + 1) (xs ++ [x]) := by
 unfold zbp at h ⊢
 rw [h, List.drop_eq_getElem_cons hk, xx, ha]
 cases xx n (P.drop (k + 1)) with
 | none => rfl
 | some ys => simp
theorem zi4 {n : Int} {P : List Bs} {xs : List (List Itv)} (h : zbp n P P.length xs) : xx n P = some xs := by
 unfold zbp at h
 rw [h, List.drop_length]
 simp [xx]
theorem zll {n : Int} {acc : List Itv} {xs : List (List Itv)} {k : Nat} (hk : k < xs.length) : qu n acc (xs.drop k) = if (opL n orF acc xs[k]).length ≤ 32 then qu n (opL n orF acc xs[k]) (xs.drop (k + 1)) else none := by
 rw [List.drop_eq_getElem_cons hk, qu]
end V
theorem zh1 (s : ByteArray) (w : World) (hm : zg w) (hs : s.size < 4294967281) :
  Calls Tryz.prog 63 #[.string s, .string ⟨#[32, 124, 124, 32]⟩] w fun e w' =>
   e = .returned (.slice (some ⟨w.heap.size, 0, none⟩) (Lib.split s.data.toList V.orT).length (Lib.split s.data.toList V.orT).length) /\ w' = w.alloc (.cells (strCells (Lib.split s.data.toList V.orT)) 9) := by
 obtain ⟨m, hm⟩ := hm
 have hsp : (Lib.splitB ⟨#[32, 124, 124, 32]⟩ 0 (Lib.countB s ⟨#[32, 124, 124, 32]⟩) s).map (·.data.toList) = Lib.split s.data.toList V.orT := by
  rw [Lib.splitB_data]; rfl
 have hlen := Lib.splitB_all ⟨#[32, 124, 124, 32]⟩ (by decide) 0 _ s rfl
 have hl : (Lib.split s.data.toList V.orT).length = Lib.countB s ⟨#[32, 124, 124, 32]⟩ + 1 := by rw [← hsp, List.length_map, hlen]
 have hcs : strCells (Lib.split s.data.toList V.orT) = ((Lib.splitB ⟨#[32, 124, 124, 32]⟩ 0 (Lib.countB s ⟨#[32, 124, 124, 32]⟩) s).map Value.string).toArray := by
  unfold strCells
  rw [← hsp, List.map_map]
  congr 1
 refine (Tryz.strings_Split s ⟨#[32, 124, 124, 32]⟩ m w hs hm (by decide)).mono ?_
 rintro e w' ⟨rfl, rfl⟩
 rw [hl, hcs]
 exact ⟨rfl, rfl⟩
theorem zg1 (sep : V.Bs) : ∀ (k : Nat) (s x : V.Bs), x ∈ Lib.splitK sep 0 k s -> x.length ≤ s.length
 | 0, s, x, h => by rw [Lib.splitK, List.mem_singleton] at h; rw [h]; exact zvt _
 | k + 1, s, x, h => by
  rw [Lib.splitK] at h
  split at h
  ·rw [List.mem_singleton] at h; rw [h]; exact zvt _
  ·rcases List.mem_cons.1 h with rfl | h
   ·rw [List.length_take]; omega
   ·have := zg1 sep k _ x h
    rw [List.length_drop] at this
    omega
theorem zky (sep : V.Bs) : ∀ (k : Nat) (s : V.Bs), (Lib.splitK sep 0 k s).length ≤ k + 1
 | 0, s => by rw [Lib.splitK]; simp
 | k + 1, s => by
  rw [Lib.splitK]
  split
  ·simp
  ·have := zky sep k (s.drop ((Lib.index s sep).toNat + sep.length))
   rw [List.length_cons]
   omega
theorem zhe (s : V.Bs) : (Lib.split s V.orT).length ≤ s.length + 2 := by
 unfold Lib.split
 have h1 := zky V.orT (Lib.count s V.orT) s
 have h2 := Lib.count_le s V.orT
 omega
theorem zdp {α : Type} {enc : α -> List Value} {k : Nat} {T : TypeId} {ops : Array Oper} {rest : List Oper} {o : Oper} {a : Act} {w : World} {Q : Exit -> Act -> World -> Prop} (hk : ∀ x, (enc x).length = k) (hk0 : 0 < k) (h1c : ∀ x, ∀ u ∈ enc x, u.oneCell' = true) {bytes : Nat} (hi : xt T k bytes) (hby : bytes ≤ 1000) (hgd : o.guard = none) (s x : Operand) (S : TypeId)
  (ho : o.op = .call { callee := .builtin .append, args := #[s, x], argTypes := #[S, S] }) (hu : Tryz.prog.underlying S = some (.slice T))
  (N : Nat) (v : Value) (l : List α) (hs : a.eval s = v) (hown : GRow T k enc w N v l) (b : Nat) (c : α) (hx : a.eval x = .slice (some ⟨b, 0, none⟩) 1 1) (hr : ∀ j u, (enc c)[j]? = some u -> w.cell? ⟨b, j, none⟩ = some u) (hl : l.length ≤ 1000000) (hN : N ≤ w.heap.size)
  (h : ∀ v' w', GRow T k enc w' N v' (l ++ [c]) -> w.grownBy w' v.ownBlock -> (v'.ownBlock = v.ownBlock ∨ v'.ownBlock = some w.heap.size) -> wpList Tryz.prog ops Q rest (a.put o.dst v') w') : wpList Tryz.prog ops Q (o :: rest) a w := by
 obtain ⟨ie, z, hie, hz, h1, h2, h3⟩ := hi
 refine wpList_append_own_at w hgd s x S ho N T ie z k bytes hu hie hz h1 h2 h3 hk0 v l.length (l.flatMap enc) hs hown ⟨b, 0, none⟩ 1 1 (enc c) hx (by rw [hk]; omega) ?_ (h1c c) (by unfold maxLen; omega) ?_ hN ?_
 ·intro j u hj
  rw [Addr.add_mid, Nat.zero_add]
  exact hr j u hj
 ·have : (l.length + 1) * bytes ≤ 1000001 * 1000 := Nat.mul_le_mul (by omega) hby
  omega
 ·intro v' w' ho' hg _ hob
  refine h v' w' ?_ hg hob
  exact z0f
theorem ztg : xt 32 2 32 := by
 have h : (match Tryz.prog.info? 32 with | some i => i.size == 2 && (i.bytes == 32 && (match i.zero with | some z => z.cells.size == 2 | none => false)) | none => false) = true := by kernel_rfl
 unfold xt
 cases hq : Tryz.prog.info? 32 with
 | none => rw [hq] at h; cases h
 | some i =>
  exact zwa
structure Sl where
 a : Option Addr
 n : Nat
 c : Nat
def Sl.v (s : Sl) : Value := .slice s.a s.n s.c
def slE (n : Int) (s : Sl) : List Value := [.int .i64 n, s.v]
theorem zit (n : Int) (s : Sl) : (slE n s).length = 2 := rfl
theorem zt4 (n : Int) (s : Sl) : ∀ u ∈ slE n s, u.oneCell' = true := by
 intro u hu
 simp [slE] at hu
 rcases hu with rfl | rfl <;> rfl
theorem Itvs.lt {w : World} {u : Value} {l : List V.Itv} (h : Itvs w u l) (hl : l ≠ []) {c : Nat} (hc : u.ownBlock = some c) : c < w.heap.size := by
 exact zzp
theorem Itvs.grown {w w' : World} {u : Value} {l : List V.Itv} {row : Option Nat} (h : Itvs w u l) (hg : w.grownBy w' row) (hs : l ≠ [] -> ∀ c, u.ownBlock = some c -> row ≠ some c) : Itvs w' u l := by
 obtain ⟨a, cap, rfl, hx⟩ := h
 refine ⟨a, cap, rfl, fun j hj => ?_⟩
 obtain ⟨b, off, rfl, hlt, h0, h1, h2, h3⟩ := hx j hj
 have hne : l ≠ [] := fun e => by rw [e] at hj; simp at hj
 have hb : row ≠ some b := hs hne b rfl
 have hk := fun o v (g : w.cell? ⟨b, o, none⟩ = some v) => hg.cell g (fun e => hb e.symm)
 exact ⟨b, off, rfl, Nat.lt_of_lt_of_le hlt hg.size, hk _ _ h0, hk _ _ h1, hk _ _ h2, hk _ _ h3⟩
structure SetRow (n : Int) (N : Nat) (w : World) (v : Value) (us : List Sl) (xs : List (List V.Itv)) : Prop where
 row : GRow 32 2 (slE n) w N v us
 len : us.length = xs.length
 each : ∀ j (h : j < us.length) (h' : j < xs.length), Itvs w us[j].v xs[j] /\ (xs[j] ≠ [] -> ∀ c, us[j].v.ownBlock = some c -> v.ownBlock ≠ some c)
theorem SetRow.nil (n : Int) (N : Nat) (w : World) : SetRow n N w (.slice none 0 0) [] [] := ⟨GRow.nil _ _, rfl, fun j h => by simp at h⟩
theorem SetRow.later {n : Int} {N : Nat} {w w' : World} {v : Value} {us : List Sl} {xs : List (List V.Itv)} (h : SetRow n N w v us xs) (hb : Below w.heap.size w w') : SetRow n N w' v us xs :=
 ⟨GRow.below h.row hb, h.len, fun j hj hj' => ⟨(h.each j hj hj').1.below hb, (h.each j hj hj').2⟩⟩
theorem SetRow.add {n : Int} {N : Nat} {w w' : World} {v v' : Value} {us : List Sl} {xs : List (List V.Itv)} {u : Sl} {x : List V.Itv} (h : SetRow n N w v us xs) (hr : GRow 32 2 (slE n) w' N v' (us ++ [u])) (hg : w.grownBy w' v.ownBlock) (ho : v'.ownBlock = v.ownBlock ∨ v'.ownBlock = some w.heap.size)
  (hu : Itvs w u.v x) (hs : x ≠ [] -> ∀ c, u.v.ownBlock = some c -> v.ownBlock ≠ some c) : SetRow n N w' v' (us ++ [u]) (xs ++ [x]) := by
 have one : ∀ (q : Value) (y : List V.Itv), Itvs w q y -> (y ≠ [] -> ∀ c, q.ownBlock = some c -> v.ownBlock ≠ some c) -> Itvs w' q y /\ (y ≠ [] -> ∀ c, q.ownBlock = some c -> v'.ownBlock ≠ some c) := fun q y hq hn => by
  exact zzb
 refine ⟨hr, by rw [List.length_append, List.length_append, h.len]; rfl, fun j hj hj' => ?_⟩
 by_cases e : j < us.length
 ·have e2 : j < xs.length := by rw [← h.len]; exact e
  exact z0h
 ·have ej : j = us.length := by rw [List.length_append, List.length_singleton] at hj; omega
  subst ej
  have e1 : (us ++ [u])[us.length] = u := by simp
  have e2 : (xs ++ [x])[us.length]'hj' = x := by simp [h.len]
  rw [e1, e2]
  exact one _ _ hu hs
theorem zsg (v : Value) (l : List V.Itv) (w : World) (hv : Itvs w v l) (hl : l.length ≤ 100000) :
  Calls Tryz.prog 127 #[v] w fun e w' => ∃ u, e = .returned u /\ Itvs w' u l /\ (∀ c, u.ownBlock = some c -> w.heap.size ≤ c) /\ Below w.heap.size w w' := by
 have q24 : ∀ (w : World) (a : Option Addr) (n c n' c' : Nat), (binOp .eql 30 (.slice a n c) (.slice none n' c')).run Tryz.prog w = .ok (.bool a.isNone) w := fun w a n c n' c' => Lib.run_eql_slice_nil w _ _ a n c n' c' Tryz.underlying30
 have HV := zvr hv
 obtain ⟨a, cap, rfl, hat⟩ := hv
 rcases a with _ | ad
 ·have hn : l = [] := by
   cases l with
   | nil => rfl
   | cons c r =>
    obtain ⟨b, off, e, _⟩ := hat 0 (by simp)
    cases e
  clear hat
  subst hn
  go_enter Tryz.func127, Tryz.ntmps127
  go_wp2
  go_ret
  exact ⟨_, rfl, Itvs.nil _, (fun c hc => by cases hc), zvu _ _⟩
 ·have HNEWS : Hid (∀ W, Below w.heap.size w W -> ∀ j u, (l.flatMap itvE)[j]? = some u -> W.cell? (ad.add j) = some u) := zvr (by
    intro W hB j u hju
    have hlen := (List.getElem?_eq_some_iff.1 hju).1
    rw [zcs wl] at hlen
    have hq : j / 4 < l.length := by omega
    have hsum : j = j / 4 * 4 + j % 4 := by omega
    obtain ⟨b, off, e, hlt, h0, h1, h2, h3⟩ := hat (j / 4) hq
    cases e
    rw [hsum, zfx wl (j / 4) hq (j % 4) (by omega)] at hju
    rw [Addr.add_mid]
    have h4 : j % 4 = 0 ∨ j % 4 = 1 ∨ j % 4 = 2 ∨ j % 4 = 3 := by omega
    have hk := fun o v (g : w.cell? ⟨b, o, none⟩ = some v) => (hB.cell (p := ⟨b, o, none⟩) hlt).trans g
    rcases h4 with e | e | e | e <;> rw [e] at hju <;> rw [show off + j = off + j / 4 * 4 + j % 4 by omega, e, ← hju]
    · exact hk _ _ h0
    · exact hk _ _ h1
    · exact hk _ _ h2
    · exact hk _ _ h3)
  have HONE : Hid (∀ u ∈ l.flatMap itvE, u.oneCell' = true) := zvr (by
    intro u hu
    obtain ⟨c, hc, huc⟩ := List.mem_flatMap.1 hu
    exact zca c u huc)
  have HLEN := zvr (zcs wl l)
  clear hat
  obtain ⟨ie, z, hi, hz, h1, h2, h3⟩ := zeh
  go_enter Tryz.func127, Tryz.ntmps127
  go_wp2_with (at_builtin; refine wpList_append_own _ rfl _ _ 30 rfl w.heap.size 87 ie z 4 48 Tryz.underlying30 hi hz h1 h2 h3 (by decide) _ 0 [] rfl (World.ownsRow_made w #[] 0 (zvt _) (Nat.zero_le _) rfl) ad l.length cap (l.flatMap itvE) rfl HLEN.out (HNEWS.out _ ((zvu _ w).alloc (zvt _) _)) HONE.out (by unfold maxLen; omega) (by omega) (by simp) ?_)
  intro v' w1 hown hgrow _
  go_wp2
  go_ret
  have hrow : zfs w1 w.heap.size v' l := by
   unfold zfs GRow
   simpa using hown
  refine ⟨v', rfl, hrow.itvs, GRow.block hrow, ?_⟩
  exact ((zvu _ w).alloc (zvt _) _).grown hgrow (by simp) (by intro k hk; simp [Value.ownBlock] at hk; omega)
open Go.RowKit
theorem ui : (Tryz.prog.info? 34).map (·.size) = some 4 := by kernel_rfl
theorem jb : (Tryz.prog.info? 25).map (·.size) = some 4 := by kernel_rfl
theorem xg {ops : Array Oper} {rest : List Oper} {o : Oper} {a : Act} {w : World} {Q : Exit -> Act -> World -> Prop} (hgd : o.guard = none) {T : TypeId} (hT : (Tryz.prog.info? T).map (·.size) = some 4) (x y : Operand) (ho : o.op = .store T x y)
  (g : Nat) (old : Array Value) (t : TypeId) (hg : w.heap[g]? = some (.cells old t (0, 0))) (hx : a.eval x = .pointer (some ⟨g, 0, none⟩)) (c0 c1 c2 c3 : Value) (h1 : c0.oneCell' = true /\ c1.oneCell' = true /\ c2.oneCell' = true /\ c3.oneCell' = true) (hy : a.eval y = .agg #[c0, c1, c2, c3]) (h4 : old.size = 4)
  (h : wpList Tryz.prog ops Q rest (a.put o.dst undef) (w.setRow g #[c0, c1, c2, c3])) : wpList Tryz.prog ops Q (o :: rest) a w :=
 wpList_store_row hgd _ x y ho g _ hx hy t old hg (by rw [hT]; rfl) (by rw [h4]; rfl) (by simp [h1.1, h1.2.1, h1.2.2.1, h1.2.2.2]) h
theorem zg8 {ops : Array Oper} {o : Oper} {a : Act} {w : World} {K : Act -> World -> Prop} {Q : Exit -> Act -> World -> Prop} {E : Prop} (hgd : o.guard = none) {T : TypeId} (hT : (Tryz.prog.info? T).map (·.size) = some 4) (x y : Operand) (ho : o.op = .store T x y)
  (g : Nat) (old : Array Value) (t : TypeId) (hg : w.heap[g]? = some (.cells old t (0, 0))) (hx : a.eval x = .pointer (some ⟨g, 0, none⟩)) (c0 c1 c2 c3 : Value) (h1 : c0.oneCell' = true /\ c1.oneCell' = true /\ c2.oneCell' = true /\ c3.oneCell' = true) (hy : a.eval y = .agg #[c0, c1, c2, c3]) (h4 : old.size = 4)
  (h : K (a.put o.dst undef) (w.setRow g #[c0, c1, c2, c3])) :
  if Region.wanted o (yielded ops a.tmps) = true then Oper.wp Tryz.prog o a w K Q else E := by
 rw [if_pos (by simp [Region.wanted, hgd])]
 exact wp_store_row _ x y ho g _ hx hy t old hg (by rw [hT]; rfl) (by rw [h4]; rfl) (by simp [h1.1, h1.2.1, h1.2.2.1, h1.2.2.2]) h
theorem zdw {T : TypeId} {fs : Array Field} (hu : Tryz.prog.underlying T = some (.struct fs)) (hT : (Tryz.prog.info? T).map (·.size) = some 4) {w : World} {g : Nat} {t : TypeId} {c0 c1 c2 c3 : Value} (hg : w.heap[g]? = some (.cells #[c0, c1, c2, c3] t (0, 0))) : (loadVar T ⟨g, 0, none⟩).run Tryz.prog w = .ok (.agg #[c0, c1, c2, c3]) w :=
 run_loadVar_row _ _ _ _ _ (0, 0) _ hg hu rfl (by rw [hT]; rfl)
theorem yb {w : World} {g : Nat} {t : TypeId} {c0 c1 c2 c3 : Value} (hg : w.heap[g]? = some (.cells #[c0, c1, c2, c3] t (0, 0))) : w.cell? ⟨g, 0, none⟩ = some c0 /\ w.cell? ⟨g, 1, none⟩ = some c1 /\ w.cell? ⟨g, 2, none⟩ = some c2 /\ w.cell? ⟨g, 3, none⟩ = some c3 := by
 refine ⟨?_, ?_, ?_, ?_⟩ <;> (rw [cell_of_row w g _ _ _ _ hg]; rfl)
theorem je {w W : World} (h : Below w.heap.size w W) (g : Nat) (cs : Array Value) (hg : w.heap.size ≤ g) (hlt : g < W.heap.size) : Below w.heap.size w (W.setRow g cs) :=
 h.trans (zho (qg W g cs) hg (by omega))
theorem Itvs.row {w w' : World} {u : Value} {l : List V.Itv} {g : Nat} (h : Itvs w u l) (hg : w.grownBy w' (some g)) (hne : ∀ c, u.ownBlock = some c -> c ≠ g) : Itvs w' u l :=
 h.grown hg (fun _ c hc e => hne c hc (Option.some.inj e).symm)
abbrev Fs := V.Aff × Sl
def fE (p : Fs) : List Value := [.int .i64 p.1.sch, .string ⟨p.1.name.toArray⟩, .int .i64 p.1.rs, p.2.v]
theorem vd (p : Fs) : (fE p).length = 4 := rfl
theorem zdr (p : Fs) : ∀ u ∈ fE p, u.oneCell' = true := by
 intro u hu
 simp [fE] at hu
 rcases hu with rfl | rfl | rfl | rfl <;> rfl
theorem zhz : xt 34 4 56 := by
 have h : (match Tryz.prog.info? 34 with | some i => i.size == 4 && (i.bytes == 56 && (match i.zero with | some z => z.cells.size == 4 | none => false)) | none => false) = true := by kernel_rfl
 unfold xt
 cases hq : Tryz.prog.info? 34 with
 | none => rw [hq] at h; cases h
 | some i =>
  exact zwa
def FOk (w : World) (v : Value) (p : Fs) : Prop := AffWf p.1 /\ p.2.n = p.1.its.length /\ Itvs w p.2.v p.1.its /\ (p.1.its ≠ [] -> ∀ c, p.2.v.ownBlock = some c -> v.ownBlock ≠ some c)
structure FRow (N : Nat) (w : World) (v : Value) (us : List Fs) : Prop where
 row : GRow 34 4 fE w N v us
 each : ∀ p ∈ us, FOk w v p
theorem FRow.nil (N : Nat) (w : World) : FRow N w (.slice none 0 0) [] := ⟨GRow.nil _ _, fun p hp => by simp at hp⟩
theorem FRow.later {N : Nat} {w w' : World} {v : Value} {us : List Fs} (h : FRow N w v us) (hb : Below w.heap.size w w') : FRow N w' v us :=
 ⟨GRow.below h.row hb, fun p hp => ⟨(h.each p hp).1, (h.each p hp).2.1, (h.each p hp).2.2.1.below hb, (h.each p hp).2.2.2⟩⟩
theorem FRow.weaken {N M : Nat} {w : World} {v : Value} {us : List Fs} (h : FRow N w v us) (hle : M ≤ N) : FRow M w v us := ⟨GRow.weaken h.row hle, h.each⟩
theorem zxs {P : Prop} (h : P := by
 obtain ⟨hx, hq⟩ := h.row
 refine ⟨hx, ?_⟩
 rcases hq with hq | ⟨b, cap, cur, rfl, hb, hgg, rest⟩
 ·exact .inl hq
 ·refine .inr ⟨b, cap, cur, rfl, hb, ?_, rest⟩
  rw [hg.block b (Array.getElem?_eq_some_iff.1 hgg).1 (fun e => hr (by rw [← e]; rfl))]
  exact hgg) : P := h
theorem FRow.kept {N : Nat} {w w' : World} {v : Value} {us : List Fs} {g : Nat} (h : FRow N w v us) (hg : w.grownBy w' (some g)) (hr : v.ownBlock ≠ some g) (he : ∀ p ∈ us, ∀ c, p.2.v.ownBlock = some c -> c ≠ g) : FRow N w' v us := by
 refine ⟨?_, fun p hp => ⟨(h.each p hp).1, (h.each p hp).2.1, (h.each p hp).2.2.1.row hg (he p hp), (h.each p hp).2.2.2⟩⟩
 exact zxs
theorem FRow.add {N : Nat} {w w' : World} {v v' : Value} {us : List Fs} {p : Fs} (h : FRow N w v us) (hr : GRow 34 4 fE w' N v' (us ++ [p])) (hg : w.grownBy w' v.ownBlock) (ho : v'.ownBlock = v.ownBlock ∨ v'.ownBlock = some w.heap.size)
  (hp : FOk w v p) : FRow N w' v' (us ++ [p]) := by
 have one : ∀ q, FOk w v q -> FOk w' v' q := fun q hq => by
  refine ⟨hq.1, hq.2.1, hq.2.2.1.grown hg hq.2.2.2, fun hy c hc => ?_⟩
  rcases ho with e | e
  ·rw [e]; exact hq.2.2.2 hy c hc
  ·rw [e]
   intro g
   have := hq.2.2.1.lt hy hc
   cases g
   omega
 refine ⟨hr, fun q hq => ?_⟩
 rcases List.mem_append.1 hq with hq | hq
 ·exact one q (h.each q hq)
 ·rw [List.mem_singleton.1 hq]; exact one p hp
theorem FRow.affs {N : Nat} {w : World} {v : Value} {us : List Fs} (h : FRow N w v us) : Affs w v (us.map (·.1)) := by
 obtain ⟨a, cap, rfl⟩ := GRow.slice h.row
 refine ⟨a, cap, by simp, fun j hj => ?_⟩
 have hj' : j < us.length := by simpa using hj
 obtain ⟨g, cap2, e, hN, hg, hc⟩ := GRow.at vd h.row j hj'
 cases e
 obtain ⟨hw, hn, hi, _⟩ := h.each us[j] (List.getElem_mem hj')
 have e1 : (us.map (·.1))[j] = us[j].1 := by simp
 rw [e1]
 have hv : us[j].2.v = .slice us[j].2.a us[j].1.its.length us[j].2.c := by unfold Sl.v; rw [hn]
 refine ⟨hw, g, 0, us[j].2.a, us[j].2.c, rfl, hg, ?_⟩
 have k := fun i u (q : (fE us[j])[i]? = some u) => hc i u q
 refine ⟨?_, ?_, ?_, ?_, by rw [← hv]; exact hi⟩
 ·have := k 0 _ rfl; simpa using this
 ·have := k 1 _ rfl; simpa using this
 ·have := k 2 _ rfl; simpa using this
 ·have := k 3 _ rfl; rw [← hv]; simpa using this
theorem FRow.slice {N : Nat} {w : World} {v : Value} {us : List Fs} (h : FRow N w v us) : ∃ a cap, v = .slice a us.length cap := GRow.slice h.row
structure VInv (V0 : World) (N0 O : Nat) (i r s : Value) (v : Value) (us : List Fs) (W : World) : Prop where
 row : FRow O W v us
 inv : W.heap[O]? = some (.cells #[i, r, s, v] 25 (0, 0))
 zero : W.heap[N0]? = some (.cells #[.string ⟨#[]⟩, .int .i64 0, .int .i64 0, .slice none 0 0] 25 (0, 0))
 own : ∀ p ∈ us, ∀ c, p.2.v.ownBlock = some c -> O < c
 old : Below O V0 W
 base : N0 + 1 ≤ O
namespace VInv
variable {V0 : World} {N0 O : Nat} {i r s : Value} {v : Value} {us : List Fs} {W W' : World}
theorem lt (h : VInv V0 N0 O i r s v us W) : O < W.heap.size := (Array.getElem?_eq_some_iff.1 h.inv).1
theorem call (h : VInv V0 N0 O i r s v us W) (hb : Below W.heap.size W W') : VInv V0 N0 O i r s v us W' := by
 have hlt := h.lt
 exact ⟨h.row.later hb, (hb.block O hlt).trans h.inv, (hb.block _ (by have := h.base; omega)).trans h.zero, h.own, h.old.trans (hb.mono (by omega)), h.base⟩
theorem alloc (h : VInv V0 N0 O i r s v us W) (o : Obj) : VInv V0 N0 O i r s v us (W.alloc o) := h.call ((zvu _ W).alloc (zvt _) o)
theorem _root_.Go.Proofs.YtiloljoancdcbaaGreatDoor.zy7 {P : Prop} (h : P := by
 rcases hq with ⟨rfl, _⟩ | ⟨b, cap, cur, rfl, _, hgg, _⟩
 ·cases hb
 ·simp [Value.ownBlock] at hb
  subst hb
  rw [hgg] at hg
  cases hg
  exact ht rfl) : P := h
theorem rowNe (h : VInv V0 N0 O i r s v us W) {g : Nat} {cs : Array Value} {t : TypeId} {fr : Nat × Nat} (hg : W.heap[g]? = some (.cells cs t fr)) (ht : t ≠ 34) : v.ownBlock ≠ some g := fun hb => by
 obtain ⟨_, hq⟩ := h.row.row
 exact zy7
theorem append (h : VInv V0 N0 O i r s v us W) {v' : Value} {p : Fs} (hr : FRow O W' v' (us ++ [p])) (hg : W.grownBy W' v.ownBlock) (hp : ∀ c, p.2.v.ownBlock = some c -> O < c) : VInv V0 N0 O i r s v' (us ++ [p]) (W'.setCell ⟨O, 3, none⟩ v') := by
 have hblk := GRow.block h.row.row
 have hl : ∀ k, k < W.heap.size -> v.ownBlock ≠ some k -> W'.heap[k]? = W.heap[k]? := fun k hk hb => hg.block k hk (fun e => hb e.symm)
 have hi : W'.heap[O]? = _ := (hl O (Array.getElem?_eq_some_iff.1 h.inv).1 (h.rowNe h.inv (by decide))).trans h.inv
 have hz : W'.heap[N0]? = _ := (hl _ (Array.getElem?_eq_some_iff.1 h.zero).1 (h.rowNe h.zero (by decide))).trans h.zero
 have hg2 := yr W' O 3 v'
 have hl2 : ∀ k, k < W'.heap.size -> k ≠ O -> (W'.setCell ⟨O, 3, none⟩ v').heap[k]? = W'.heap[k]? := fun k hk hb => hg2.block k hk (fun e => by cases e; exact hb rfl)
 have hown : ∀ q ∈ us ++ [p], ∀ c, q.2.v.ownBlock = some c -> O < c := fun q hq c hc => by
  rcases List.mem_append.1 hq with hq | hq
  ·exact h.own q hq c hc
  ·rw [List.mem_singleton.1 hq] at hc; exact hp c hc
 have hrn : v'.ownBlock ≠ some O := fun hb => by
  obtain ⟨_, hq⟩ := hr.row
  rcases hq with ⟨e, _⟩ | ⟨b, cap, cur, e, _, hgg, _⟩
  ·rw [e] at hb; cases hb
  ·rw [e] at hb
   simp [Value.ownBlock] at hb
   subst hb
   rw [hgg] at hi
   cases hi
 refine ⟨hr.kept hg2 hrn (fun q hq c hc => by have := hown q hq c hc; omega), ?_, ?_, hown, ?_, h.base⟩
 ·rw [zc2 _ _ hi]; rfl
 ·rw [hl2 _ (Array.getElem?_eq_some_iff.1 hz).1 (by have := h.base; omega)]; exact hz
 ·have hsz := h.lt
  have hbs := h.base
  refine (h.old.trans ⟨hg.os, hg.tape, hg.output, hg.size, fun k hk => hl k (by omega) (fun e => by have := hblk k e; omega)⟩).trans ⟨hg2.os, hg2.tape, hg2.output, hg2.size, fun k hk => hl2 k (by have := hg.size; omega) (by omega)⟩
theorem invKept (h : VInv V0 N0 O i r s v us W) (hg : W.grownBy W' v.ownBlock) : W'.heap[O]? = some (.cells #[i, r, s, v] 25 (0, 0)) :=
 (hg.block O (Array.getElem?_eq_some_iff.1 h.inv).1 (fun e => h.rowNe h.inv (by decide) e.symm)).trans h.inv
end VInv
theorem vj : (Tryz.prog.info? 23).map (·.size) = some 1 := by kernel_rfl
open Go.RowKit
namespace V
def vg (s : Bs) : Bool := s.all fun c => decide (48 ≤ c.toNat) && decide (c.toNat ≤ 57)
def valD (s : Bs) : Nat := s.foldl (fun n c => 10 * n + (c.toNat - 48)) 0
def numP (s : Bs) : Int × Bool := if 1 ≤ s.length /\ s.length ≤ 13 /\ ¬ (1 < s.length /\ s.head? = some 48) /\ vg s = true /\ valD s ≤ 1099511627776 then ((valD s : Nat), true) else (0, false)
theorem zna {s : Bs} {k : Nat} (h : k < s.length) : valD (s.take (k + 1)) = 10 * valD (s.take k) + (s[k].toNat - 48) := by
 unfold valD
 rw [List.take_succ_eq_append_getElem h, List.foldl_append]
 rfl
theorem zti {s : Bs} (hd : vg s = true) : ∀ k, k ≤ s.length -> valD (s.take k) < 10 ^ k
 | 0, _ => by simp [valD]
 | k + 1, h => by
  rw [zna (by omega), Nat.pow_succ]
  have h1 := zti hd k (by omega)
  unfold vg at hd
  rw [List.all_eq_true] at hd
  have h2 := hd _ (List.getElem_mem (show k < s.length by omega))
  simp at h2
  omega
theorem zqm {s : Bs} {k : Nat} (h : k < s.length) : vg (s.take (k + 1)) = (vg (s.take k) && (decide (48 ≤ s[k].toNat) && decide (s[k].toNat ≤ 57))) := by
 unfold vg
 rw [List.take_succ_eq_append_getElem h, List.all_append]
 simp
theorem zur {s : Bs} {k : Nat} (h : k < s.length) (hd : s[k].toNat < 48 ∨ 57 < s[k].toNat) : vg s = false := by
 unfold vg
 rw [List.all_eq_false]
 exact ⟨_, List.getElem_mem h, by simp; omega⟩
theorem zrn {s : Bs} (h : s.length = 0 ∨ 13 < s.length ∨ (1 < s.length /\ s.head? = some 48)) : numP s = (0, false) := by
 unfold numP
 rw [if_neg]
 rintro ⟨h1, h2, h3, _⟩
 rcases h with h | h | h
 ·omega
 ·omega
 ·exact h3 h
theorem zuy {s : Bs} (h1 : 1 ≤ s.length) (h2 : s.length ≤ 13) (h3 : ¬ (1 < s.length /\ s.head? = some 48)) : numP s = if vg s = true /\ valD s ≤ 1099511627776 then (((valD s : Nat) : Int), true) else (0, false) := by
 unfold numP
 by_cases hd : vg s = true /\ valD s ≤ 1099511627776
 ·rw [if_pos hd, if_pos ⟨h1, h2, h3, hd.1, hd.2⟩]
 ·rw [if_neg hd, if_neg (fun e => hd ⟨e.2.2.2.1, e.2.2.2.2⟩)]
end V
theorem zza {P : Prop} (h : P := by
 go_enter Tryz.func68, Tryz.ntmps68
 go_wp2
 go_ret2
 exact ⟨by rw [HP.out]; rfl, rfl⟩) : P := h
theorem zzr {P : Prop} (h : P := by
 go_wp2
 go_ret2
 exact ⟨by rw [HP.out]; rfl, rfl⟩) : P := h
theorem zbt (s : ByteArray) (w : World) (hs : s.size ≤ maxLen) : Calls Tryz.prog 68 #[.string s] w fun e w' => e = .returned (.tuple #[.int .i64 (V.numP s.data.toList).1, .bool (V.numP s.data.toList).2]) /\ w' = w := by
 have hl := zf s
 unfold maxLen at hs
 by_cases h0 : s.size = 0
 ·have hs0 : s = ⟨#[]⟩ := jw (by rw [List.length_eq_zero_iff.1 (by omega : s.data.toList.length = 0)])
  subst hs0
  go_enter Tryz.func68, Tryz.ntmps68
  go_wp2
  go_ret2
  exact ⟨rfl, rfl⟩
 have q1 : ¬ (s.size : Int) < 1 := by omega
 have h00 : 0 < s.size := by omega
 have he0 : s.data.toList[0]'(by omega) = s[0] := by simp; rfl
 have hhead : s.data.toList.head? = some (s[0]) := by rw [← he0, List.head?_eq_getElem?, List.getElem?_eq_getElem]
 obtain ⟨c0, hc0⟩ : ∃ c0, c0 = s[0] := ⟨_, rfl⟩
 rw [← hc0] at hhead
 have HC0 := zvr hc0
 clear he0 hc0
 by_cases h13 : 13 < s.size
 ·have HP := zvr (V.zrn (s := s.data.toList) (.inr (.inl (by omega))))
  have q2 : (13 : Int) < (s.size : Int) := by omega
  clear hl
  exact zza
 have q2 : ¬ (13 : Int) < (s.size : Int) := by omega
 by_cases hz : 1 < s.size /\ c0 = 48
 ·have HP := zvr (V.zrn (s := s.data.toList) (.inr (.inr ⟨by omega, by rw [hhead, hz.2]⟩)))
  have q3 : (1 : Int) < (s.size : Int) := by omega
  have q4 : s[0] = 48 := by rw [← HC0.out]; exact hz.2
  clear hl hhead hz
  exact zza
 have HG := zvr (V.zuy (s := s.data.toList) (by omega) (by omega) (fun e => hz ⟨by omega, by rw [hhead] at e; exact Option.some.inj e.2⟩))
 have hsz13 : s.size ≤ 13 := by omega
 have hcase : (¬ (1 : Int) < (s.size : Int) /\ s[0] = 48) ∨ (¬ (1 : Int) < (s.size : Int) /\ (¬ ((s[0].toNat : Int) = 48) /\ ((s[0].toNat : Int) == 48) = false)) ∨ ((1 : Int) < (s.size : Int) /\ (¬ ((s[0].toNat : Int) = 48) /\ ((s[0].toNat : Int) == 48) = false)) := by
  have hne : ¬ s[0] = 48 -> (¬ ((s[0].toNat : Int) = 48) /\ ((s[0].toNat : Int) == 48) = false) := fun h => by
   have : ¬ ((s[0].toNat : Int) = 48) := fun e => h (by apply UInt8.toNat_inj.1; have : s[0].toNat = 48 := by omega
                                                        rw [this]; rfl)
   exact ⟨this, by rw [zvv]; exact this⟩
  by_cases h1 : 1 < s.size
  ·exact .inr (.inr ⟨by omega, hne (fun e => hz ⟨h1, by rw [HC0.out]; exact e⟩)⟩)
  ·by_cases h2 : s[0] = 48
   ·exact .inl ⟨by omega, h2⟩
   ·exact .inr (.inl ⟨by omega, hne h2⟩)
 have hse : s.toList.isEmpty = false := by
  rw [Lib.toList_data]
  cases hq : s.data.toList with
  | nil => rw [hq] at hl; exact absurd hl.symm h0
  | cons c r => rfl
 clear hz hhead
 rcases hcase with ⟨q3, q4⟩ | ⟨q3, q4, q5⟩ | ⟨q3, q4, q5⟩
 all_goals
  go_enter Tryz.func68, Tryz.ntmps68
  go_wp2
  go_loop [4, 5] (fun nv iv => ∃ k : Nat, k ≤ s.size /\ iv = .int .i64 k /\ nv = .int .i64 ((V.valD (s.data.toList.take k) : Nat) : Int) /\ V.vg (s.data.toList.take k) = true) (fun _ iv => s.size - (intOf iv).toNat)
  case atStart => exact ⟨0, Nat.zero_le _, rfl, rfl, rfl⟩
  case round =>
   obtain ⟨k, hk, rfl, rfl, hd⟩ := hrel
   have HD := zvr hd
   clear hd
   by_cases hlt : k < s.size
   ·have he : s.data.toList[k]'(by omega) = s[k] := by simp; rfl
    have HST := zvr (V.zna (s := s.data.toList) (k := k) (by omega))
    have HDT := zvr (V.zqm (s := s.data.toList) (k := k) (by omega))
    have HNO := zvr (V.zur (s := s.data.toList) (k := k) (by omega))
    have hb : V.valD (s.data.toList.take k) < 10000000000000 := by
     have h1 := V.zti (s := s.data.toList.take k) HD.out k (by rw [List.length_take]; omega)
     rw [List.take_take, Nat.min_self] at h1
     have h2 : 10 ^ k ≤ 10 ^ 13 := Nat.pow_le_pow_right (by decide) (by omega)
     omega
    rw [he] at HST HDT HNO
    have hs1 : (0 : Int) ≤ (k : Int) := by omega
    have hs2 : (k : Int) < (s.size : Int) := by omega
    obtain ⟨N, hN⟩ : ∃ N, N = V.valD (s.data.toList.take k) := ⟨_, rfl⟩
    rw [← hN] at HST hb ⊢
    clear hN he
    by_cases hdg : s[k].toNat < 48 ∨ 57 < s[k].toNat
    ·have HP : Hid (V.numP s.data.toList = (0, false)) := zvr (by rw [HG.out, if_neg (fun e => by rw [HNO.out hdg] at e; cases e.1)])
     rcases hdg with hdg | hdg
     ·have q6 : (s[k].toNat : Int) < 48 := by omega
      exact zzr
     ·have q6 : ¬ (s[k].toNat : Int) < 48 := by omega
      have q7 : (57 : Int) < (s[k].toNat : Int) := by omega
      exact zzr
    ·have q6 : ¬ (s[k].toNat : Int) < 48 := by omega
     have q7 : ¬ (57 : Int) < (s[k].toNat : Int) := by omega
     have w1 : IntKind.i64.wrap (10 * (N : Int)) = 10 * (N : Int) := by unfold IntKind.wrap; simp [IntKind.signed, IntKind.bits]; omega
     have w2 : IntKind.u8.wrap ((s[k].toNat : Int) - 48) = (s[k].toNat : Int) - 48 := by unfold IntKind.wrap; simp [IntKind.signed, IntKind.bits]; omega
     have w3 : IntKind.i64.wrap ((s[k].toNat : Int) - 48) = (s[k].toNat : Int) - 48 := by unfold IntKind.wrap; simp [IntKind.signed, IntKind.bits]; omega
     have w4 : IntKind.i64.wrap (10 * (N : Int) + ((s[k].toNat : Int) - 48)) = 10 * (N : Int) + ((s[k].toNat : Int) - 48) := by unfold IntKind.wrap; simp [IntKind.signed, IntKind.bits]; omega
     have HN2 : Hid ((V.vg (s.data.toList.take (k + 1)) = true) /\ 10 * (N : Int) + ((s[k].toNat : Int) - 48) = ((V.valD (s.data.toList.take (k + 1)) : Nat) : Int)) := zvr ⟨by rw [HDT.out, HD.out]; simp; omega, by rw [HST.out]; omega⟩
     go_wp2
     go_round
     case rel => exact ⟨k + 1, by omega, by go_num, congrArg (Value.int .i64) HN2.out.2, HN2.out.1⟩
     case measure => simp [intOf]; omega
   ·obtain rfl : k = s.size := by omega
    have ht : s.data.toList.take s.size = s.data.toList := List.take_of_length_le (by omega)
    rw [ht] at HD ⊢
    by_cases hmx : V.valD s.data.toList ≤ 1099511627776
    ·have HP : Hid (V.numP s.data.toList = (((V.valD s.data.toList : Nat) : Int), true)) := zvr (by rw [HG.out, if_pos ⟨HD.out, hmx⟩])
     have q8 : ¬ (1099511627776 : Int) < ((V.valD s.data.toList : Nat) : Int) := by omega
     clear hl ht
     exact zzr
    ·have HP : Hid (V.numP s.data.toList = (0, false)) := zvr (by rw [HG.out, if_neg (fun e => hmx e.2)])
     have q8 : (1099511627776 : Int) < ((V.valD s.data.toList : Nat) : Int) := by omega
     clear hl ht
     exact zzr
end Go.Proofs.YtiloljoancdcbaaGreatDoor
