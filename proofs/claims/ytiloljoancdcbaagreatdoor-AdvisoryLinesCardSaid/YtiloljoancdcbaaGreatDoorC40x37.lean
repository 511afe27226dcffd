/-
  Lemmas for the law.
-/
import Derived.Test.YtiloljoancdcbaaGreatDoorC40x36
import Derived.Test.YtiloljoancdcbaaGreatDoorC40x23
set_option linter.all false
set_option maxRecDepth 100000
namespace Go.Proofs.YtiloljoancdcbaaGreatDoor
open Go.RowKit
namespace V
def parP (n : Int) (s : Bs) : Int × List Itv × Int := match yy n s with | (some l, c) => (n, l, c) | (none, c) => (0, [], c)
theorem zhy {n : Int} {s : Bs} (h : scheme n = false) : parP n s = (0, [], 14) := by unfold parP yy; rw [h]; rfl
theorem zni {n : Int} {s : Bs} (h : scheme n = true) (hl : ¬ s.length ≤ 8192) : parP n s = (0, [], 3) := by unfold parP yy; rw [if_pos h, if_neg hl]
theorem zm9 {n : Int} {s : Bs} (h : scheme n = true) (hl : s.length ≤ 8192) (ha : xt n (Lib.split s orT) = none) : parP n s = (0, [], 2) := by unfold parP yy; rw [if_pos h, if_pos hl, ha]
theorem zj8 {n : Int} {s : Bs} {xs : List (List Itv)} (h : scheme n = true) (hl : s.length ≤ 8192) (ha : xt n (Lib.split s orT) = some xs) (hu : ja n [] xs = none) : parP n s = (0, [], 3) := by
 unfold parP yy; rw [if_pos h, if_pos hl, ha]; simp only [hu]
theorem ztz {n : Int} {s : Bs} {xs : List (List Itv)} {l : List Itv} (h : scheme n = true) (hl : s.length ≤ 8192) (ha : xt n (Lib.split s orT) = some xs) (hu : ja n [] xs = some l) : parP n s = (n, l, 0) := by
 unfold parP yy; rw [if_pos h, if_pos hl, ha]; simp only [hu]
theorem zvc {n : Int} {s : Bs} {l : List Itv} (h : yy n s = (some l, 0)) : parP n s = (n, l, 0) := by unfold parP; rw [h]
def zbo (n : Int) (P : List Bs) (k : Nat) (xs : List (List Itv)) : Prop := xt n P = match xt n (P.drop k) with | none => none | some ys => some (xs ++ ys)
theorem zhu (n : Int) (P : List Bs) : zbo n P 0 [] := by
 unfold zbo
 rw [List.drop_zero]
 cases xt n P <;> rfl
theorem zh8 {n : Int} {P : List Bs} {k : Nat} {xs : List (List Itv)} (h : zbo n P k xs) (hk : k < P.length) (ha : altP n P[k] = none) : xt n P = none := by
 unfold zbo at h
 rw [h, List.drop_eq_getElem_cons hk, xt, ha]
theorem zh4 {n : Int} {P : List Bs} {k : Nat} {xs : List (List Itv)} {x : List Itv} (h : zbo n P k xs) (hk : k < P.length) (ha : altP n P[k] = some x) : zbo n P (k + 1) (xs ++ [x]) := by
 unfold zbo at h ⊢
 rw [h, List.drop_eq_getElem_cons hk, xt, ha]
 cases xt n (P.drop (k + 1)) with
 | none => rfl
 | some ys => simp
theorem zjn {n : Int} {P : List Bs} {xs : List (List Itv)} (h : zbo n P P.length xs) : xt n P = some xs := by
 unfold zbo at h
 rw [h, List.drop_length]
 simp [xt]
theorem zl3 {n : Int} {acc : List Itv} {xs : List (List Itv)} {k : Nat} (hk : k < xs.length) : ja n acc (xs.drop k) = if (opL n orF acc xs[k]).length ≤ 32 then ja n (opL n orF acc xs[k]) (xs.drop (k + 1)) else none := by
 rw [List.drop_eq_getElem_cons hk, ja]
end V
theorem zik (s : ByteArray) (w : World) (hm : zg w) (hs : s.size < 4294967281) :
  Calls Tryz.prog 63 #[.string s, .string ⟨#[32, 124, 124, 32]⟩] w fun e w' =>
   e = .returned (.slice (some ⟨w.heap.size, 0, none⟩) (Lib.split s.data.toList V.orT).length (Lib.split s.data.toList V.orT).length) /\ w' = w.alloc (.cells (strCells (Lib.split s.data.toList V.orT)) 9) := by
 obtain ⟨m, hm⟩ := hm
 have hsp : (Lib.splitB ⟨#[32, 124, 124, 32]⟩ 0 (Lib.countB s ⟨#[32, 124, 124, 32]⟩) s).map (·.data.toList) = Lib.split s.data.toList V.orT := by
  rw [Lib.splitB_data]; rfl
 have hlen := Lib.splitB_all ⟨#[32, 124, 124, 32]⟩ (by decide) 0 _ s rfl
 have hl : (Lib.split s.data.toList V.orT).length = Lib.countB s ⟨#[32, 124, 124, 32]⟩ + 1 := by rw [← hsp, List.length_map, hlen]
 have hcs : strCells (Lib.split s.data.toList V.orT) = ((Lib.splitB ⟨#[32, 124, 124, 32]⟩ 0 (Lib.countB s ⟨#[32, 124, 124, 32]⟩) s).map Value.string).toArray := by
  unfold strCells
  rw [← hsp, List.map_map]
  congr 1
 refine (Tryz.strings_Split s ⟨#[32, 124, 124, 32]⟩ m w hs hm (by decide)).mono ?_
 rintro e w' ⟨rfl, rfl⟩
 rw [hl, hcs]
 exact ⟨rfl, rfl⟩
theorem zhf (sep : V.Bs) : ∀ (k : Nat) (s x : V.Bs), x ∈ Lib.splitK sep 0 k s -> x.length ≤ s.length
 | 0, s, x, h => by rw [Lib.splitK, List.mem_singleton] at h; rw [h]; exact zvs _
 | k + 1, s, x, h => by
  rw [Lib.splitK] at h
  split at h
  ·rw [List.mem_singleton] at h; rw [h]; exact zvs _
  ·rcases List.mem_cons.1 h with rfl | h
   ·rw [List.length_take]; omega
   ·have := zhf sep k _ x h
    rw [List.length_drop] at this
    omega
theorem zlk (sep : V.Bs) : ∀ (k : Nat) (s : V.Bs), (Lib.splitK sep 0 k s).length ≤ k + 1
 | 0, s => by rw [Lib.splitK]; simp
 | k + 1, s => by
  rw [Lib.splitK]
  split
  ·simp
  ·have := zlk sep k (s.drop ((Lib.index s sep).toNat + sep.length))
   rw [List.length_cons]
   omega
theorem zhw (s : V.Bs) : (Lib.split s V.orT).length ≤ s.length + 2 := by
 unfold Lib.split
 have h1 := zlk V.orT (Lib.count s V.orT) s
 have h2 := Lib.count_le s V.orT
 omega
theorem uy {α : Type} {enc : α -> List Value} {k : Nat} {T : TypeId} {ops : Array Oper} {rest : List Oper} {o : Oper} {a : Act} {w : World} {Q : Exit -> Act -> World -> Prop} (hk : ∀ x, (enc x).length = k) (hk0 : 0 < k) (h1c : ∀ x, ∀ u ∈ enc x, u.oneCell' = true) {bytes : Nat} (hi : ye T k bytes) (hby : bytes ≤ 1000) (hgd : o.guard = none) (s x : Operand) (S : TypeId)
  (ho : o.op = .call { callee := .builtin .append, args := #[s, x], argTypes := #[S, S] }) (hu : Tryz.prog.underlying S = some (.slice T))
  (N : Nat) (v : Value) (l : List α) (hs : a.eval s = v) (hown : GRow T k enc w N v l) (b : Nat) (c : α) (hx : a.eval x = .slice (some ⟨b, 0, none⟩) 1 1) (hr : ∀ j u, (enc c)[j]? = some u -> w.cell? ⟨b, j, none⟩ = some u) (hl : l.length ≤ 1000000) (hN : N ≤ w.heap.size)
  (h : ∀ v' w', GRow T k enc w' N v' (l ++ [c]) -> w.grownBy w' v.ownBlock -> (v'.ownBlock = v.ownBlock ∨ v'.ownBlock = some w.heap.size) -> wpList Tryz.prog ops Q rest (a.put o.dst v') w') : wpList Tryz.prog ops Q (o :: rest) a w := by
 obtain ⟨ie, z, hie, hz, h1, h2, h3⟩ := hi
 refine wpList_append_own_at w hgd s x S ho N T ie z k bytes hu hie hz h1 h2 h3 hk0 v l.length (l.flatMap enc) hs hown ⟨b, 0, none⟩ 1 1 (enc c) hx (by rw [hk]; omega) ?_ (h1c c) (by unfold maxLen; omega) ?_ hN ?_
 ·exact z05
 ·exact z0c
 ·intro v' w' ho' hg _ hob
  refine h v' w' ?_ hg hob
  exact zz2
theorem ztm : ye 32 2 32 := by
 have h : (match Tryz.prog.info? 32 with | some i => i.size == 2 && (i.bytes == 32 && (match i.zero with | some z => z.cells.size == 2 | none => false)) | none => false) = true := by kernel_rfl
 unfold ye
 cases hq : Tryz.prog.info? 32 with
 | none => rw [hq] at h; cases h
 | some i =>
  exact zwg
structure Sl where
 a : Option Addr
 n : Nat
 c : Nat
def Sl.v (s : Sl) : Value := .slice s.a s.n s.c
def slE (n : Int) (s : Sl) : List Value := [.int .i64 n, s.v]
theorem zjd (n : Int) (s : Sl) : (slE n s).length = 2 := rfl
theorem zt9 (n : Int) (s : Sl) : ∀ u ∈ slE n s, u.oneCell' = true := by
 intro u hu
 simp [slE] at hu
 rcases hu with rfl | rfl <;> rfl
theorem Itvs.lt {w : World} {u : Value} {l : List V.Itv} (h : Itvs w u l) (hl : l ≠ []) {c : Nat} (hc : u.ownBlock = some c) : c < w.heap.size := by
 exact z0m
theorem Itvs.grown {w w' : World} {u : Value} {l : List V.Itv} {row : Option Nat} (h : Itvs w u l) (hg : w.grownBy w' row) (hs : l ≠ [] -> ∀ c, u.ownBlock = some c -> row ≠ some c) : Itvs w' u l := by
 obtain ⟨a, cap, rfl, hx⟩ := h
 refine ⟨a, cap, rfl, fun j hj => ?_⟩
 obtain ⟨b, off, rfl, hlt, h0, h1, h2, h3⟩ := hx j hj
 have hne : l ≠ [] := fun e => by rw [e] at hj; simp at hj
 have hb : row ≠ some b := hs hne b rfl
 have hk := fun o v (g : w.cell? ⟨b, o, none⟩ = some v) => hg.cell g (fun e => hb e.symm)
 exact ⟨b, off, rfl, Nat.lt_of_lt_of_le hlt hg.size, hk _ _ h0, hk _ _ h1, hk _ _ h2, hk _ _ h3⟩
structure SetRow (n : Int) (N : Nat) (w : World) (v : Value) (us : List Sl) (xs : List (List V.Itv)) : Prop where
 row : GRow 32 2 (slE n) w N v us
 len : us.length = xs.length
 each : ∀ j (h : j < us.length) (h' : j < xs.length), Itvs w us[j].v xs[j] /\ (xs[j] ≠ [] -> ∀ c, us[j].v.ownBlock = some c -> v.ownBlock ≠ some c)
theorem SetRow.nil (n : Int) (N : Nat) (w : World) : SetRow n N w (.slice none 0 0) [] [] := ⟨GRow.nil _ _, rfl, fun j h => by simp at h⟩
theorem SetRow.later {n : Int} {N : Nat} {w w' : World} {v : Value} {us : List Sl} {xs : List (List V.Itv)} (h : SetRow n N w v us xs) (hb : Below w.heap.size w w') : SetRow n N w' v us xs :=
 ⟨GRow.below h.row hb, h.len, fun j hj hj' => ⟨(h.each j hj hj').1.below hb, (h.each j hj hj').2⟩⟩
theorem SetRow.add {n : Int} {N : Nat} {w w' : World} {v v' : Value} {us : List Sl} {xs : List (List V.Itv)} {u : Sl} {x : List V.Itv} (h : SetRow n N w v us xs) (hr : GRow 32 2 (slE n) w' N v' (us ++ [u])) (hg : w.grownBy w' v.ownBlock) (ho : v'.ownBlock = v.ownBlock ∨ v'.ownBlock = some w.heap.size)
  (hu : Itvs w u.v x) (hs : x ≠ [] -> ∀ c, u.v.ownBlock = some c -> v.ownBlock ≠ some c) : SetRow n N w' v' (us ++ [u]) (xs ++ [x]) := by
 have one : ∀ (q : Value) (y : List V.Itv), Itvs w q y -> (y ≠ [] -> ∀ c, q.ownBlock = some c -> v.ownBlock ≠ some c) -> Itvs w' q y /\ (y ≠ [] -> ∀ c, q.ownBlock = some c -> v'.ownBlock ≠ some c) := fun q y hq hn => by
  exact zz6
 refine ⟨hr, by rw [List.length_append, List.length_append, h.len]; rfl, fun j hj hj' => ?_⟩
 by_cases e : j < us.length
 ·have e2 : j < xs.length := by rw [← h.len]; exact e
  exact z1d
 ·have ej : j = us.length := by rw [List.length_append, List.length_singleton] at hj; omega
  subst ej
  have e1 : (us ++ [u])[us.length] = u := by simp
  have e2 : (xs ++ [x])[us.length]'hj' = x := by simp [h.len]
  rw [e1, e2]
  exact one _ _ hu hs
theorem zsn (v : Value) (l : List V.Itv) (w : World) (hv : Itvs w v l) (hl : l.length ≤ 100000) :
  Calls Tryz.prog 127 #[v] w fun e w' => ∃ u, e = .returned u /\ Itvs w' u l /\ (∀ c, u.ownBlock = some c -> w.heap.size ≤ c) /\ Below w.heap.size w w' := by
 have q24 : ∀ (w : World) (a : Option Addr) (n c n' c' : Nat), (binOp .eql 30 (.slice a n c) (.slice none n' c')).run Tryz.prog w = .ok (.bool a.isNone) w := fun w a n c n' c' => Lib.run_eql_slice_nil w _ _ a n c n' c' Tryz.underlying30
 have HV := zvq hv
 obtain ⟨a, cap, rfl, hat⟩ := hv
 rcases a with _ | ad
 ·have hn : l = [] := by
   cases l with
   | nil => rfl
   | cons c r =>
    obtain ⟨b, off, e, _⟩ := hat 0 (by simp)
    cases e
  clear hat
  subst hn
  go_enter Tryz.func127, Tryz.ntmps127
  go_wp2
  go_ret
  exact ⟨_, rfl, Itvs.nil _, (fun c hc => by cases hc), zvt _ _⟩
 ·have HNEWS : Hid (∀ W, Below w.heap.size w W -> ∀ j u, (l.flatMap itvE)[j]? = some u -> W.cell? (ad.add j) = some u) := zvq (by
    intro W hB j u hju
    have hlen := (List.getElem?_eq_some_iff.1 hju).1
    rw [zcv vz] at hlen
    have hq : j / 4 < l.length := by omega
    have hsum : j = j / 4 * 4 + j % 4 := by omega
    obtain ⟨b, off, e, hlt, h0, h1, h2, h3⟩ := hat (j / 4) hq
    cases e
    rw [hsum, zf6 vz (j / 4) hq (j % 4) (by omega)] at hju
    rw [Addr.add_mid]
    have h4 : j % 4 = 0 ∨ j % 4 = 1 ∨ j % 4 = 2 ∨ j % 4 = 3 := by omega
    have hk := fun o v (g : w.cell? ⟨b, o, none⟩ = some v) => (hB.cell (p := ⟨b, o, none⟩) hlt).trans g
    rcases h4 with e | e | e | e <;> rw [e] at hju <;> rw [show off + j = off + j / 4 * 4 + j % 4 by omega, e, ← hju]
    · exact hk _ _ h0
    · exact hk _ _ h1
    · exact hk _ _ h2
    · exact hk _ _ h3)
  have HONE : Hid (∀ u ∈ l.flatMap itvE, u.oneCell' = true) := zvq (by
    intro u hu
    obtain ⟨c, hc, huc⟩ := List.mem_flatMap.1 hu
    exact zch c u huc)
  have HLEN := zvq (zcv vz l)
  clear hat
  obtain ⟨ie, z, hi, hz, h1, h2, h3⟩ := zek
  go_enter Tryz.func127, Tryz.ntmps127
  go_wp2_with (at_builtin; refine wpList_append_own _ rfl _ _ 30 rfl w.heap.size 87 ie z 4 48 Tryz.underlying30 hi hz h1 h2 h3 (by decide) _ 0 [] rfl (World.ownsRow_made w #[] 0 (zvs _) (Nat.zero_le _) rfl) ad l.length cap (l.flatMap itvE) rfl HLEN.out (HNEWS.out _ ((zvt _ w).alloc (zvs _) _)) HONE.out (by unfold maxLen; omega) (by omega) (by simp) ?_)
  intro v' w1 hown hgrow _
  go_wp2
  go_ret
  have hrow : zf2 w1 w.heap.size v' l := by
   unfold zf2 GRow
   simpa using hown
  refine ⟨v', rfl, hrow.itvs, GRow.block hrow, ?_⟩
  exact ((zvt _ w).alloc (zvs _) _).grown hgrow (by simp) (by intro k hk; simp [Value.ownBlock] at hk; omega)
open Go.RowKit
theorem uj : (Tryz.prog.info? 34).map (·.size) = some 4 := by kernel_rfl
theorem qa : (Tryz.prog.info? 25).map (·.size) = some 4 := by kernel_rfl
theorem qr {ops : Array Oper} {rest : List Oper} {o : Oper} {a : Act} {w : World} {Q : Exit -> Act -> World -> Prop} (hgd : o.guard = none) {T : TypeId} (hT : (Tryz.prog.info? T).map (·.size) = some 4) (x y : Operand) (ho : o.op = .store T x y)
  (g : Nat) (old : Array Value) (t : TypeId) (hg : w.heap[g]? = some (.cells old t (0, 0))) (hx : a.eval x = .pointer (some ⟨g, 0, none⟩)) (c0 c1 c2 c3 : Value) (h1 : c0.oneCell' = true /\ c1.oneCell' = true /\ c2.oneCell' = true /\ c3.oneCell' = true) (hy : a.eval y = .agg #[c0, c1, c2, c3]) (h4 : old.size = 4)
  (h : wpList Tryz.prog ops Q rest (a.put o.dst undef) (w.setRow g #[c0, c1, c2, c3])) : wpList Tryz.prog ops Q (o :: rest) a w :=
 wpList_store_row hgd _ x y ho g _ hx hy t old hg (by rw [hT]; rfl) (by rw [h4]; rfl) (by simp [h1.1, h1.2.1, h1.2.2.1, h1.2.2.2]) h
theorem zhq {ops : Array Oper} {o : Oper} {a : Act} {w : World} {K : Act -> World -> Prop} {Q : Exit -> Act -> World -> Prop} {E : Prop} (hgd : o.guard = none) {T : TypeId} (hT : (Tryz.prog.info? T).map (·.size) = some 4) (x y : Operand) (ho : o.op = .store T x y)
  (g : Nat) (old : Array Value) (t : TypeId) (hg : w.heap[g]? = some (.cells old t (0, 0))) (hx : a.eval x = .pointer (some ⟨g, 0, none⟩)) (c0 c1 c2 c3 : Value) (h1 : c0.oneCell' = true /\ c1.oneCell' = true /\ c2.oneCell' = true /\ c3.oneCell' = true) (hy : a.eval y = .agg #[c0, c1, c2, c3]) (h4 : old.size = 4)
  (h : K (a.put o.dst undef) (w.setRow g #[c0, c1, c2, c3])) :
  if Region.wanted o (yielded ops a.tmps) = true then Oper.wp Tryz.prog o a w K Q else E := by
 rw [if_pos (by simp [Region.wanted, hgd])]
 exact wp_store_row _ x y ho g _ hx hy t old hg (by rw [hT]; rfl) (by rw [h4]; rfl) (by simp [h1.1, h1.2.1, h1.2.2.1, h1.2.2.2]) h
theorem zdg {T : TypeId} {fs : Array Field} (hu : Tryz.prog.underlying T = some (.struct fs)) (hT : (Tryz.prog.info? T).map (·.size) = some 4) {w : World} {g : Nat} {t : TypeId} {c0 c1 c2 c3 : Value} (hg : w.heap[g]? = some (.cells #[c0, c1, c2, c3] t (0, 0))) : (loadVar T ⟨g, 0, none⟩).run Tryz.prog w = .ok (.agg #[c0, c1, c2, c3]) w :=
 run_loadVar_row _ _ _ _ _ (0, 0) _ hg hu rfl (by rw [hT]; rfl)
theorem zau {w : World} {g : Nat} {t : TypeId} {c0 c1 c2 c3 : Value} (hg : w.heap[g]? = some (.cells #[c0, c1, c2, c3] t (0, 0))) : w.cell? ⟨g, 0, none⟩ = some c0 /\ w.cell? ⟨g, 1, none⟩ = some c1 /\ w.cell? ⟨g, 2, none⟩ = some c2 /\ w.cell? ⟨g, 3, none⟩ = some c3 := by
 refine ⟨?_, ?_, ?_, ?_⟩ <;> (rw [cell_of_row w g _ _ _ _ hg]; rfl)
theorem qu {w W : World} (h : Below w.heap.size w W) (g : Nat) (cs : Array Value) (hg : w.heap.size ≤ g) (hlt : g < W.heap.size) : Below w.heap.size w (W.setRow g cs) :=
 h.trans (km (qk W g cs) hg (by omega))
theorem Itvs.row {w w' : World} {u : Value} {l : List V.Itv} {g : Nat} (h : Itvs w u l) (hg : w.grownBy w' (some g)) (hne : ∀ c, u.ownBlock = some c -> c ≠ g) : Itvs w' u l :=
 h.grown hg (fun _ c hc e => hne c hc (Option.some.inj e).symm)
abbrev Fs := V.Aff × Sl
def fE (p : Fs) : List Value := [.int .i64 p.1.sch, .string ⟨p.1.name.toArray⟩, .int .i64 p.1.rs, p.2.v]
theorem zhk (p : Fs) : (fE p).length = 4 := rfl
theorem zon (p : Fs) : ∀ u ∈ fE p, u.oneCell' = true := by
 intro u hu
 simp [fE] at hu
 rcases hu with rfl | rfl | rfl | rfl <;> rfl
theorem affGI : ye 34 4 56 := by
 have h : (match Tryz.prog.info? 34 with | some i => i.size == 4 && (i.bytes == 56 && (match i.zero with | some z => z.cells.size == 4 | none => false)) | none => false) = true := by kernel_rfl
 unfold ye
 cases hq : Tryz.prog.info? 34 with
 | none => rw [hq] at h; cases h
 | some i =>
  exact zwg
def FOk (w : World) (v : Value) (p : Fs) : Prop := AffWf p.1 /\ p.2.n = p.1.its.length /\ Itvs w p.2.v p.1.its /\ (p.1.its ≠ [] -> ∀ c, p.2.v.ownBlock = some c -> v.ownBlock ≠ some c)
structure FRow (N : Nat) (w : World) (v : Value) (us : List Fs) : Prop where
 row : GRow 34 4 fE w N v us
 each : ∀ p ∈ us, FOk w v p
theorem FRow.nil (N : Nat) (w : World) : FRow N w (.slice none 0 0) [] := ⟨GRow.nil _ _, fun p hp => by simp at hp⟩
theorem FRow.later {N : Nat} {w w' : World} {v : Value} {us : List Fs} (h : FRow N w v us) (hb : Below w.heap.size w w') : FRow N w' v us :=
 ⟨GRow.below h.row hb, fun p hp => ⟨(h.each p hp).1, (h.each p hp).2.1, (h.each p hp).2.2.1.below hb, (h.each p hp).2.2.2⟩⟩
theorem FRow.weaken {N M : Nat} {w : World} {v : Value} {us : List Fs} (h : FRow N w v us) (hle : M ≤ N) : FRow M w v us := ⟨GRow.weaken h.row hle, h.each⟩
theorem FRow.kept {N : Nat} {w w' : World} {v : Value} {us : List Fs} {g : Nat} (h : FRow N w v us) (hg : w.grownBy w' (some g)) (hr : v.ownBlock ≠ some g) (he : ∀ p ∈ us, ∀ c, p.2.v.ownBlock = some c -> c ≠ g) : FRow N w' v us := by
 refine ⟨?_, fun p hp => ⟨(h.each p hp).1, (h.each p hp).2.1, (h.each p hp).2.2.1.row hg (he p hp), (h.each p hp).2.2.2⟩⟩
 obtain ⟨hx, hq⟩ := h.row
 refine ⟨hx, ?_⟩
 rcases hq with hq | ⟨b, cap, cur, rfl, hb, hgg, rest⟩
 ·exact .inl hq
 ·refine .inr ⟨b, cap, cur, rfl, hb, ?_, rest⟩
  rw [hg.block b (Array.getElem?_eq_some_iff.1 hgg).1 (fun e => hr (by rw [← e]; rfl))]
  exact hgg
theorem FRow.add {N : Nat} {w w' : World} {v v' : Value} {us : List Fs} {p : Fs} (h : FRow N w v us) (hr : GRow 34 4 fE w' N v' (us ++ [p])) (hg : w.grownBy w' v.ownBlock) (ho : v'.ownBlock = v.ownBlock ∨ v'.ownBlock = some w.heap.size)
  (hp : FOk w v p) : FRow N w' v' (us ++ [p]) := by
 have one : ∀ q, FOk w v q -> FOk w' v' q := fun q hq => by
  refine ⟨hq.1, hq.2.1, hq.2.2.1.grown hg hq.2.2.2, fun hy c hc => ?_⟩
  rcases ho with e | e
  ·rw [e]; exact hq.2.2.2 hy c hc
  ·rw [e]
   intro g
   have := hq.2.2.1.lt hy hc
   cases g
   omega
 refine ⟨hr, fun q hq => ?_⟩
 rcases List.mem_append.1 hq with hq | hq
 ·exact one q (h.each q hq)
 ·rw [List.mem_singleton.1 hq]; exact one p hp
theorem FRow.affs {N : Nat} {w : World} {v : Value} {us : List Fs} (h : FRow N w v us) : Affs w v (us.map (·.1)) := by
 obtain ⟨a, cap, rfl⟩ := GRow.slice h.row
 refine ⟨a, cap, by simp, fun j hj => ?_⟩
 have hj' : j < us.length := by simpa using hj
 obtain ⟨g, cap2, e, hN, hg, hc⟩ := GRow.at zhk h.row j hj'
 cases e
 obtain ⟨hw, hn, hi, _⟩ := h.each us[j] (List.getElem_mem hj')
 have e1 : (us.map (·.1))[j] = us[j].1 := by simp
 rw [e1]
 have hv : us[j].2.v = .slice us[j].2.a us[j].1.its.length us[j].2.c := by unfold Sl.v; rw [hn]
 refine ⟨hw, g, 0, us[j].2.a, us[j].2.c, rfl, hg, ?_⟩
 have k := fun i u (q : (fE us[j])[i]? = some u) => hc i u q
 refine ⟨?_, ?_, ?_, ?_, by rw [← hv]; exact hi⟩
 ·have := k 0 _ rfl; simpa using this
 ·have := k 1 _ rfl; simpa using this
 ·have := k 2 _ rfl; simpa using this
 ·have := k 3 _ rfl; rw [← hv]; simpa using this
theorem FRow.slice {N : Nat} {w : World} {v : Value} {us : List Fs} (h : FRow N w v us) : ∃ a cap, v = .slice a us.length cap := GRow.slice h.row
structure VInv (V0 : World) (N0 O : Nat) (i r s : Value) (v : Value) (us : List Fs) (W : World) : Prop where
 row : FRow O W v us
 inv : W.heap[O]? = some (.cells #[i, r, s, v] 25 (0, 0))
 zero : W.heap[N0]? = some (.cells #[.string ⟨#[]⟩, .int .i64 0, .int .i64 0, .slice none 0 0] 25 (0, 0))
 own : ∀ p ∈ us, ∀ c, p.2.v.ownBlock = some c -> O < c
 old : Below O V0 W
 base : N0 + 1 ≤ O
namespace VInv
variable {V0 : World} {N0 O : Nat} {i r s : Value} {v : Value} {us : List Fs} {W W' : World}
theorem lt (h : VInv V0 N0 O i r s v us W) : O < W.heap.size := (Array.getElem?_eq_some_iff.1 h.inv).1
theorem call (h : VInv V0 N0 O i r s v us W) (hb : Below W.heap.size W W') : VInv V0 N0 O i r s v us W' := by
 have hlt := h.lt
 exact ⟨h.row.later hb, (hb.block O hlt).trans h.inv, (hb.block _ (by have := h.base; omega)).trans h.zero, h.own, h.old.trans (hb.mono (by omega)), h.base⟩
theorem rowNe (h : VInv V0 N0 O i r s v us W) {g : Nat} {cs : Array Value} {t : TypeId} {fr : Nat × Nat} (hg : W.heap[g]? = some (.cells cs t fr)) (ht : t ≠ 34) : v.ownBlock ≠ some g := fun hb => by
 obtain ⟨_, hq⟩ := h.row.row
 rcases hq with ⟨rfl, _⟩ | ⟨b, cap, cur, rfl, _, hgg, _⟩
 ·cases hb
 ·simp [Value.ownBlock] at hb
  subst hb
  rw [hgg] at hg
  cases hg
  exact ht rfl
theorem append (h : VInv V0 N0 O i r s v us W) {v' : Value} {p : Fs} (hr : FRow O W' v' (us ++ [p])) (hg : W.grownBy W' v.ownBlock) (hp : ∀ c, p.2.v.ownBlock = some c -> O < c) : VInv V0 N0 O i r s v' (us ++ [p]) (W'.setCell ⟨O, 3, none⟩ v') := by
 have hblk := GRow.block h.row.row
 have hl : ∀ k, k < W.heap.size -> v.ownBlock ≠ some k -> W'.heap[k]? = W.heap[k]? := fun k hk hb => hg.block k hk (fun e => hb e.symm)
 have hi : W'.heap[O]? = _ := (hl O (Array.getElem?_eq_some_iff.1 h.inv).1 (h.rowNe h.inv (by decide))).trans h.inv
 have hz : W'.heap[N0]? = _ := (hl _ (Array.getElem?_eq_some_iff.1 h.zero).1 (h.rowNe h.zero (by decide))).trans h.zero
 have hg2 := zbf W' O 3 v'
 have hl2 : ∀ k, k < W'.heap.size -> k ≠ O -> (W'.setCell ⟨O, 3, none⟩ v').heap[k]? = W'.heap[k]? := fun k hk hb => hg2.block k hk (fun e => by cases e; exact hb rfl)
 have hown : ∀ q ∈ us ++ [p], ∀ c, q.2.v.ownBlock = some c -> O < c := fun q hq c hc => by
  rcases List.mem_append.1 hq with hq | hq
  ·exact h.own q hq c hc
  ·rw [List.mem_singleton.1 hq] at hc; exact hp c hc
 have hrn : v'.ownBlock ≠ some O := fun hb => by
  obtain ⟨_, hq⟩ := hr.row
  rcases hq with ⟨e, _⟩ | ⟨b, cap, cur, e, _, hgg, _⟩
  ·rw [e] at hb; cases hb
  ·rw [e] at hb
   simp [Value.ownBlock] at hb
   subst hb
   rw [hgg] at hi
   cases hi
 refine ⟨hr.kept hg2 hrn (fun q hq c hc => by have := hown q hq c hc; omega), ?_, ?_, hown, ?_, h.base⟩
 ·rw [vw _ _ hi]; rfl
 ·rw [hl2 _ (Array.getElem?_eq_some_iff.1 hz).1 (by have := h.base; omega)]; exact hz
 ·have hsz := h.lt
  have hbs := h.base
  refine (h.old.trans ⟨hg.os, hg.tape, hg.output, hg.size, fun k hk => hl k (by omega) (fun e => by have := hblk k e; omega)⟩).trans ⟨hg2.os, hg2.tape, hg2.output, hg2.size, fun k hk => hl2 k (by have := hg.size; omega) (by omega)⟩
theorem invKept (h : VInv V0 N0 O i r s v us W) (hg : W.grownBy W' v.ownBlock) : W'.heap[O]? = some (.cells #[i, r, s, v] 25 (0, 0)) :=
 (hg.block O (Array.getElem?_eq_some_iff.1 h.inv).1 (fun e => h.rowNe h.inv (by decide) e.symm)).trans h.inv
end VInv
theorem zev : (Tryz.prog.info? 23).map (·.size) = some 1 := by kernel_rfl
end Go.Proofs.YtiloljoancdcbaaGreatDoor
