/-
  Lemmas for the law.
-/
import Derived.Test.YtbikeahmldobkaaGreatDoorC51x39
import Derived.Test.YtbikeahmldobkaaGreatDoorC51x24
import Derived.Test.YtbikeahmldobkaaGreatDoorC51x33
import Derived.Test.YtbikeahmldobkaaGreatDoorC51x34
import Derived.Test.YtbikeahmldobkaaGreatDoorC51x09
import Derived.Test.YtbikeahmldobkaaGreatDoorC51x15
import Derived.Test.YtbikeahmldobkaaGreatDoorC51x32
set_option linter.all false
set_option maxRecDepth 100000
set_option maxHeartbeats 3200000
namespace Go.Proofs.YtbikeahmldobkaaGreatDoor
open Go.RowKit
namespace V
def parP (n : Int) (s : Bs) : Int × List Itv × Int := match ug n s with | (some l, c) => (n, l, c) | (none, c) => (0, [], c)
theorem zod {n : Int} {s : Bs} (h : scheme n = false) : parP n s = (0, [], 14) := by unfold parP ug; rw [h]; rfl
theorem zue {n : Int} {s : Bs} (h : scheme n = true) (hl : ¬ s.length ≤ 8192) : parP n s = (0, [], 3) := by unfold parP ug; rw [if_pos h, if_neg hl]
theorem zt5 {n : Int} {s : Bs} (h : scheme n = true) (hl : s.length ≤ 8192) (ha : ui n (Lib.split s orT) = none) : parP n s = (0, [], 2) := by unfold parP ug; rw [if_pos h, if_pos hl, ha]
theorem zq6 {n : Int} {s : Bs} {xs : List (List Itv)} (h : scheme n = true) (hl : s.length ≤ 8192) (ha : ui n (Lib.split s orT) = some xs) (hu : xd n [] xs = none) : parP n s = (0, [], 3) := by
 unfold parP ug; rw [if_pos h, if_pos hl, ha]; simp only [hu]
theorem parP_ok {n : Int} {s : Bs} {xs : List (List Itv)} {l : List Itv} (h : scheme n = true) (hl : s.length ≤ 8192) (ha : ui n (Lib.split s orT) = some xs) (hu : xd n [] xs = some l) : parP n s = (n, l, 0) := by
 unfold parP ug; rw [if_pos h, if_pos hl, ha]; simp only [hu]
def zbg (n : Int) (P : List Bs) (k : Nat) (xs : List (List Itv)) : Prop := ui n P = match ui n (P.drop k) with | none => none | some ys => some (xs ++ ys)
theorem zoa (n : Int) (P : List Bs) : zbg n P 0 [] := by
 unfold zbg
 rw [List.drop_zero]
 cases ui n P <;> rfl
theorem zou {n : Int} {P : List Bs} {k : Nat} {xs : List (List Itv)} (h : zbg n P k xs) (hk : k < P.length) (ha : altP n P[k] = none) : ui n P = none := by
 unfold zbg at h
 rw [h, List.drop_eq_getElem_cons hk, ui, ha]
theorem zoj {n : Int} {P : List Bs} {k : Nat} {xs : List (List Itv)} {x : List Itv} (h : zbg n P k xs) (hk : k < P.length) (ha : altP n P[k] = some x) : zbg n P (k + 1) (xs ++ [x]) := by
 unfold zbg at h ⊢
 rw [h, List.drop_eq_getElem_cons hk, ui, ha]
 cases ui n (P.drop (k + 1)) with
 | none => rfl
 | some ys => simp
theorem zqo {n : Int} {P : List Bs} {xs : List (List Itv)} (h : zbg n P P.length xs) : ui n P = some xs := by
 unfold zbg at h
 rw [h, List.drop_length]
 simp [ui]
theorem zsh {n : Int} {acc : List Itv} {xs : List (List Itv)} {k : Nat} (hk : k < xs.length) : xd n acc (xs.drop k) = if (opL n orF acc xs[k]).length ≤ 32 then xd n (opL n orF acc xs[k]) (xs.drop (k + 1)) else none := by
 rw [List.drop_eq_getElem_cons hk, xd]
end V
theorem zpi (s : ByteArray) (w : World) (hm : zj w) (hs : s.size < 4294967281) :
  Calls Tryz.prog 91 #[.string s, .string ⟨#[32, 124, 124, 32]⟩] w fun e w' =>
   e = .returned (.slice (some ⟨w.heap.size, 0, none⟩) (Lib.split s.data.toList V.orT).length (Lib.split s.data.toList V.orT).length) /\ w' = w.alloc (.cells (xe (Lib.split s.data.toList V.orT)) 9) := by
 obtain ⟨m, hm⟩ := hm
 have g0 : (Lib.splitB ⟨#[32, 124, 124, 32]⟩ 0 (Lib.countB s ⟨#[32, 124, 124, 32]⟩) s).map (·.data.toList) = Lib.split s.data.toList V.orT := by
  rw [Lib.splitB_data]; rfl
 have g1 := Lib.splitB_all ⟨#[32, 124, 124, 32]⟩ (by decide) 0 _ s rfl
 have hl : (Lib.split s.data.toList V.orT).length = Lib.countB s ⟨#[32, 124, 124, 32]⟩ + 1 := by rw [← g0, List.length_map, g1]
 have hcs : xe (Lib.split s.data.toList V.orT) = ((Lib.splitB ⟨#[32, 124, 124, 32]⟩ 0 (Lib.countB s ⟨#[32, 124, 124, 32]⟩) s).map Value.string).toArray := by
  unfold xe
  rw [← g0, List.map_map]
  congr 1
 refine (Tryz.strings_Split s ⟨#[32, 124, 124, 32]⟩ m w hs hm (by decide)).mono ?_
 rintro e w' ⟨rfl, rfl⟩
 rw [hl, hcs]
 exact ⟨rfl, rfl⟩
theorem zlr (sep : V.Bs) : ∀ (k : Nat) (s x : V.Bs), x ∈ Lib.splitK sep 0 k s -> x.length ≤ s.length
 | 0, s, x, h => by rw [Lib.splitK, List.mem_singleton] at h; rw [h]; exact zva _
 | k + 1, s, x, h => by
  rw [Lib.splitK] at h
  split at h
  ·rw [List.mem_singleton] at h; rw [h]; exact zva _
  ·rcases List.mem_cons.1 h with rfl | h
   ·rw [List.length_take]; omega
   ·have := zlr sep k _ x h
    rw [List.length_drop] at this
    omega
theorem zjr (sep : V.Bs) : ∀ (k : Nat) (s : V.Bs), (Lib.splitK sep 0 k s).length ≤ k + 1
 | 0, s => by rw [Lib.splitK]; simp
 | k + 1, s => by
  rw [Lib.splitK]
  split
  ·simp
  ·have := zjr sep k (s.drop ((Lib.index s sep).toNat + sep.length))
   rw [List.length_cons]
   omega
theorem zob (s : V.Bs) : (Lib.split s V.orT).length ≤ s.length + 2 := by
 unfold Lib.split
 have h1 := zjr V.orT (Lib.count s V.orT) s
 have h2 := Lib.count_le s V.orT
 omega
theorem zon {α : Type} {enc : α -> List Value} {k : Nat} {T : TypeId} {ops : Array Oper} {rest : List Oper} {o : Oper} {a : Act} {w : World} {Q : Exit -> Act -> World -> Prop} (hk : ∀ x, (enc x).length = k) (g1 : 0 < k) (g2 : ∀ x, ∀ u ∈ enc x, u.oneCell' = true) {bytes : Nat} (hi : jh T k bytes) (g3 : bytes ≤ 1000) (g4 : o.guard = none) (s x : Operand) (S : TypeId)
  (ho : o.op = .call { callee := .builtin .append, args := #[s, x], argTypes := #[S, S] }) (hu : Tryz.prog.underlying S = some (.slice T))
  (N : Nat) (v : Value) (l : List α) (hs : a.eval s = v) (g0 : GRow T k enc w N v l) (b : Nat) (c : α) (hx : a.eval x = .slice (some ⟨b, 0, none⟩) 1 1) (hr : ∀ j u, (enc c)[j]? = some u -> w.cell? ⟨b, j, none⟩ = some u) (hl : l.length ≤ 1000000) (hN : N ≤ w.heap.size)
  (h : ∀ v' w', GRow T k enc w' N v' (l ++ [c]) -> w.grownBy w' v.ownBlock -> (v'.ownBlock = v.ownBlock ∨ v'.ownBlock = some w.heap.size) -> wpList Tryz.prog ops Q rest (a.put o.dst v') w') : wpList Tryz.prog ops Q (o :: rest) a w := by
 obtain ⟨ie, z, g5, hz, h1, h2, h3⟩ := hi
 refine wpList_append_own_at w g4 s x S ho N T ie z k bytes hu g5 hz h1 h2 h3 g1 v l.length (l.flatMap enc) hs g0 ⟨b, 0, none⟩ 1 1 (enc c) hx (by rw [hk]; omega) ?_ (g2 c) (by unfold maxLen; omega) ?_ hN ?_
 ·intro j u hj
  rw [Addr.add_mid, Nat.zero_add]
  exact hr j u hj
 ·have : (l.length + 1) * bytes ≤ 1000001 * 1000 := Nat.mul_le_mul (by omega) g3
  omega
 ·intro v' w' g6 hg _ g7
  refine h v' w' ?_ hg g7
  unfold GRow
  rw [List.length_append, List.flatMap_append]
  simpa using g6
theorem setInfo : jh 68 2 32 := by
 have h : (match Tryz.prog.info? 68 with | some i => i.size == 2 && (i.bytes == 32 && (match i.zero with | some z => z.cells.size == 2 | none => false)) | none => false) = true := by kernel_rfl
 unfold jh
 cases hq : Tryz.prog.info? 68 with
 | none => rw [hq] at h; cases h
 | some i =>
  exact zvk
structure Sl where
 a : Option Addr
 n : Nat
 c : Nat
def Sl.v (s : Sl) : Value := .slice s.a s.n s.c
def slE (n : Int) (s : Sl) : List Value := [.int .i64 n, s.v]
theorem zsy (n : Int) (s : Sl) : (slE n s).length = 2 := rfl
theorem slE_one (n : Int) (s : Sl) : ∀ u ∈ slE n s, u.oneCell' = true := by
 intro u hu
 simp [slE] at hu
 rcases hu with rfl | rfl <;> rfl
theorem Itvs.lt {w : World} {u : Value} {l : List V.Itv} (h : Itvs w u l) (hl : l ≠ []) {c : Nat} (hc : u.ownBlock = some c) : c < w.heap.size := by
 obtain ⟨a, cap, rfl, hx⟩ := h
 obtain ⟨b, off, rfl, hlt, _⟩ := hx 0 (List.length_pos_iff.2 hl)
 simp [Value.ownBlock] at hc
 omega
theorem Itvs.grown {w w' : World} {u : Value} {l : List V.Itv} {row : Option Nat} (h : Itvs w u l) (hg : w.grownBy w' row) (hs : l ≠ [] -> ∀ c, u.ownBlock = some c -> row ≠ some c) : Itvs w' u l := by
 obtain ⟨a, cap, rfl, hx⟩ := h
 refine ⟨a, cap, rfl, fun j hj => ?_⟩
 obtain ⟨b, off, rfl, hlt, h0, h1, h2, h3⟩ := hx j hj
 have g0 : l ≠ [] := fun e => by rw [e] at hj; simp at hj
 have hb : row ≠ some b := hs g0 b rfl
 have hk := fun o v (g : w.cell? ⟨b, o, none⟩ = some v) => hg.cell g (fun e => hb e.symm)
 exact ⟨b, off, rfl, Nat.lt_of_lt_of_le hlt hg.size, hk _ _ h0, hk _ _ h1, hk _ _ h2, hk _ _ h3⟩
structure SetRow (n : Int) (N : Nat) (w : World) (v : Value) (us : List Sl) (xs : List (List V.Itv)) : Prop where
 row : GRow 68 2 (slE n) w N v us
 len : us.length = xs.length
 each : ∀ j (h : j < us.length) (h' : j < xs.length), Itvs w us[j].v xs[j] /\ (xs[j] ≠ [] -> ∀ c, us[j].v.ownBlock = some c -> v.ownBlock ≠ some c)
theorem SetRow.nil (n : Int) (N : Nat) (w : World) : SetRow n N w (.slice none 0 0) [] [] := ⟨GRow.nil _ _, rfl, fun j h => by simp at h⟩
theorem SetRow.later {n : Int} {N : Nat} {w w' : World} {v : Value} {us : List Sl} {xs : List (List V.Itv)} (h : SetRow n N w v us xs) (hb : Below w.heap.size w w') : SetRow n N w' v us xs :=
 ⟨GRow.below h.row hb, h.len, fun j hj g0 => ⟨(h.each j hj g0).1.below hb, (h.each j hj g0).2⟩⟩
theorem SetRow.add {n : Int} {N : Nat} {w w' : World} {v v' : Value} {us : List Sl} {xs : List (List V.Itv)} {u : Sl} {x : List V.Itv} (h : SetRow n N w v us xs) (hr : GRow 68 2 (slE n) w' N v' (us ++ [u])) (hg : w.grownBy w' v.ownBlock) (ho : v'.ownBlock = v.ownBlock ∨ v'.ownBlock = some w.heap.size)
  (hu : Itvs w u.v x) (hs : x ≠ [] -> ∀ c, u.v.ownBlock = some c -> v.ownBlock ≠ some c) : SetRow n N w' v' (us ++ [u]) (xs ++ [x]) := by
 have one : ∀ (q : Value) (y : List V.Itv), Itvs w q y -> (y ≠ [] -> ∀ c, q.ownBlock = some c -> v.ownBlock ≠ some c) -> Itvs w' q y /\ (y ≠ [] -> ∀ c, q.ownBlock = some c -> v'.ownBlock ≠ some c) := fun q y hq hn => by
  refine ⟨hq.grown hg hn, fun hy c hc => ?_⟩
  rcases ho with e | e
  ·rw [e]; exact hn hy c hc
  ·rw [e]
   intro g
   have := hq.lt hy hc
   cases g
   omega
 refine ⟨hr, by rw [List.length_append, List.length_append, h.len]; rfl, fun j hj g0 => ?_⟩
 by_cases e : j < us.length
 ·have e2 : j < xs.length := by rw [← h.len]; exact e
  rw [List.getElem_append_left e, List.getElem_append_left e2]
  exact one _ _ (h.each j e e2).1 (h.each j e e2).2
 ·have ej : j = us.length := by rw [List.length_append, List.length_singleton] at hj; omega
  subst ej
  have e1 : (us ++ [u])[us.length] = u := by simp
  have e2 : (xs ++ [x])[us.length]'g0 = x := by simp [h.len]
  rw [e1, e2]
  exact one _ _ hu hs
open Go.RowKit
theorem zi3 : (Tryz.prog.info? 54).map (·.size) = some 4 := by kernel_rfl
theorem wl_put4 {ops : Array Oper} {rest : List Oper} {o : Oper} {a : Act} {w : World} {Q : Exit -> Act -> World -> Prop} (g0 : o.guard = none) {T : TypeId} (hT : (Tryz.prog.info? T).map (·.size) = some 4) (x y : Operand) (ho : o.op = .store T x y)
  (g : Nat) (old : Array Value) (t : TypeId) (hg : w.heap[g]? = some (.cells old t (0, 0))) (hx : a.eval x = .pointer (some ⟨g, 0, none⟩)) (c0 c1 c2 c3 : Value) (h1 : c0.oneCell' = true /\ c1.oneCell' = true /\ c2.oneCell' = true /\ c3.oneCell' = true) (hy : a.eval y = .agg #[c0, c1, c2, c3]) (h4 : old.size = 4)
  (h : wpList Tryz.prog ops Q rest (a.put o.dst undef) (w.setRow g #[c0, c1, c2, c3])) : wpList Tryz.prog ops Q (o :: rest) a w :=
 wpList_store_row g0 _ x y ho g _ hx hy t old hg (by rw [hT]; rfl) (by rw [h4]; rfl) (by simp [h1.1, h1.2.1, h1.2.2.1, h1.2.2.2]) h
theorem load4 {T : TypeId} {fs : Array Field} (hu : Tryz.prog.underlying T = some (.struct fs)) (hT : (Tryz.prog.info? T).map (·.size) = some 4) {w : World} {g : Nat} {t : TypeId} {c0 c1 c2 c3 : Value} (hg : w.heap[g]? = some (.cells #[c0, c1, c2, c3] t (0, 0))) : (loadVar T ⟨g, 0, none⟩).run Tryz.prog w = .ok (.agg #[c0, c1, c2, c3]) w :=
 run_loadVar_row _ _ _ _ _ (0, 0) _ hg hu rfl (by rw [hT]; rfl)
theorem wj {w : World} {g : Nat} {t : TypeId} {c0 c1 c2 c3 : Value} (hg : w.heap[g]? = some (.cells #[c0, c1, c2, c3] t (0, 0))) : w.cell? ⟨g, 0, none⟩ = some c0 /\ w.cell? ⟨g, 1, none⟩ = some c1 /\ w.cell? ⟨g, 2, none⟩ = some c2 /\ w.cell? ⟨g, 3, none⟩ = some c3 := by
 refine ⟨?_, ?_, ?_, ?_⟩ <;> (rw [cell_of_row w g _ _ _ _ hg]; rfl)
theorem Itvs.row {w w' : World} {u : Value} {l : List V.Itv} {g : Nat} (h : Itvs w u l) (hg : w.grownBy w' (some g)) (g0 : ∀ c, u.ownBlock = some c -> c ≠ g) : Itvs w' u l :=
 h.grown hg (fun _ c hc e => g0 c hc (Option.some.inj e).symm)
abbrev Fs := V.Aff × Sl
def fE (p : Fs) : List Value := [.int .i64 p.1.sch, .string ⟨p.1.name.toArray⟩, .int .i64 p.1.rs, p.2.v]
theorem zde (p : Fs) : (fE p).length = 4 := rfl
theorem zqz (p : Fs) : ∀ u ∈ fE p, u.oneCell' = true := by
 intro u hu
 simp [fE] at hu
 rcases hu with rfl | rfl | rfl | rfl <;> rfl
theorem affGI : jh 70 4 56 := by
 have h : (match Tryz.prog.info? 70 with | some i => i.size == 4 && (i.bytes == 56 && (match i.zero with | some z => z.cells.size == 4 | none => false)) | none => false) = true := by kernel_rfl
 unfold jh
 cases hq : Tryz.prog.info? 70 with
 | none => rw [hq] at h; cases h
 | some i =>
  exact zvk
def FOk (w : World) (v : Value) (p : Fs) : Prop := AffWf p.1 /\ p.2.n = p.1.its.length /\ Itvs w p.2.v p.1.its /\ (p.1.its ≠ [] -> ∀ c, p.2.v.ownBlock = some c -> v.ownBlock ≠ some c)
structure FRow (N : Nat) (w : World) (v : Value) (us : List Fs) : Prop where
 row : GRow 70 4 fE w N v us
 each : ∀ p ∈ us, FOk w v p
theorem FRow.nil (N : Nat) (w : World) : FRow N w (.slice none 0 0) [] := ⟨GRow.nil _ _, fun p hp => by simp at hp⟩
theorem FRow.later {N : Nat} {w w' : World} {v : Value} {us : List Fs} (h : FRow N w v us) (hb : Below w.heap.size w w') : FRow N w' v us :=
 ⟨GRow.below h.row hb, fun p hp => ⟨(h.each p hp).1, (h.each p hp).2.1, (h.each p hp).2.2.1.below hb, (h.each p hp).2.2.2⟩⟩
theorem FRow.weaken {N M : Nat} {w : World} {v : Value} {us : List Fs} (h : FRow N w v us) (g0 : M ≤ N) : FRow M w v us := ⟨GRow.weaken h.row g0, h.each⟩
theorem FRow.kept {N : Nat} {w w' : World} {v : Value} {us : List Fs} {g : Nat} (h : FRow N w v us) (hg : w.grownBy w' (some g)) (hr : v.ownBlock ≠ some g) (he : ∀ p ∈ us, ∀ c, p.2.v.ownBlock = some c -> c ≠ g) : FRow N w' v us := by
 refine ⟨?_, fun p hp => ⟨(h.each p hp).1, (h.each p hp).2.1, (h.each p hp).2.2.1.row hg (he p hp), (h.each p hp).2.2.2⟩⟩
 obtain ⟨hx, hq⟩ := h.row
 refine ⟨hx, ?_⟩
 rcases hq with hq | ⟨b, cap, cur, rfl, hb, hgg, rest⟩
 ·exact .inl hq
 ·refine .inr ⟨b, cap, cur, rfl, hb, ?_, rest⟩
  rw [hg.block b (Array.getElem?_eq_some_iff.1 hgg).1 (fun e => hr (by rw [← e]; rfl))]
  exact hgg
theorem FRow.add {N : Nat} {w w' : World} {v v' : Value} {us : List Fs} {p : Fs} (h : FRow N w v us) (hr : GRow 70 4 fE w' N v' (us ++ [p])) (hg : w.grownBy w' v.ownBlock) (ho : v'.ownBlock = v.ownBlock ∨ v'.ownBlock = some w.heap.size)
  (hp : FOk w v p) : FRow N w' v' (us ++ [p]) := by
 have one : ∀ q, FOk w v q -> FOk w' v' q := fun q hq => by
  refine ⟨hq.1, hq.2.1, hq.2.2.1.grown hg hq.2.2.2, fun hy c hc => ?_⟩
  rcases ho with e | e
  ·rw [e]; exact hq.2.2.2 hy c hc
  ·rw [e]
   intro g
   have := hq.2.2.1.lt hy hc
   cases g
   omega
 refine ⟨hr, fun q hq => ?_⟩
 rcases List.mem_append.1 hq with hq | hq
 ·exact one q (h.each q hq)
 ·rw [List.mem_singleton.1 hq]; exact one p hp
theorem zww {P : Prop} (h : P := by
 refine ⟨?_, ?_, ?_, ?_, by rw [← hv]; exact hi⟩
 ·have := k 0 _ rfl; simpa using this
 ·have := k 1 _ rfl; simpa using this
 ·have := k 2 _ rfl; simpa using this
 ·have := k 3 _ rfl; rw [← hv]; simpa using this) : P := h
theorem FRow.affs {N : Nat} {w : World} {v : Value} {us : List Fs} (h : FRow N w v us) : Affs w v (us.map (·.1)) := by
 obtain ⟨a, cap, rfl⟩ := GRow.slice h.row
 refine ⟨a, cap, by simp, fun j hj => ?_⟩
 have g0 : j < us.length := by simpa using hj
 obtain ⟨g, cap2, e, hN, hg, hc⟩ := GRow.at zde h.row j g0
 cases e
 obtain ⟨hw, hn, hi, _⟩ := h.each us[j] (List.getElem_mem g0)
 have e1 : (us.map (·.1))[j] = us[j].1 := by simp
 rw [e1]
 have hv : us[j].2.v = .slice us[j].2.a us[j].1.its.length us[j].2.c := by unfold Sl.v; rw [hn]
 refine ⟨hw, g, 0, us[j].2.a, us[j].2.c, rfl, hg, ?_⟩
 have k := fun i u (q : (fE us[j])[i]? = some u) => hc i u q
 exact zww
theorem FRow.slice {N : Nat} {w : World} {v : Value} {us : List Fs} (h : FRow N w v us) : ∃ a cap, v = .slice a us.length cap := GRow.slice h.row
structure VInv (V0 : World) (N0 O : Nat) (i r s : Value) (v : Value) (us : List Fs) (W : World) : Prop where
 row : FRow O W v us
 inv : W.heap[O]? = some (.cells #[i, r, s, v] 54 (0, 0))
 zero : W.heap[N0]? = some (.cells #[.string ⟨#[]⟩, .int .i64 0, .int .i64 0, .slice none 0 0] 54 (0, 0))
 own : ∀ p ∈ us, ∀ c, p.2.v.ownBlock = some c -> O < c
 old : Below O V0 W
 base : N0 + 1 ≤ O
namespace VInv
variable {V0 : World} {N0 O : Nat} {i r s : Value} {v : Value} {us : List Fs} {W W' : World}
theorem lt (h : VInv V0 N0 O i r s v us W) : O < W.heap.size := (Array.getElem?_eq_some_iff.1 h.inv).1
theorem call (h : VInv V0 N0 O i r s v us W) (hb : Below W.heap.size W W') : VInv V0 N0 O i r s v us W' := by
 have hlt := h.lt
 exact ⟨h.row.later hb, (hb.block O hlt).trans h.inv, (hb.block _ (by have := h.base; omega)).trans h.zero, h.own, h.old.trans (hb.mono (by omega)), h.base⟩
theorem rowNe (h : VInv V0 N0 O i r s v us W) {g : Nat} {cs : Array Value} {t : TypeId} {fr : Nat × Nat} (hg : W.heap[g]? = some (.cells cs t fr)) (ht : t ≠ 70) : v.ownBlock ≠ some g := fun hb => by
 obtain ⟨_, hq⟩ := h.row.row
 rcases hq with ⟨rfl, _⟩ | ⟨b, cap, cur, rfl, _, hgg, _⟩
 ·cases hb
 ·simp [Value.ownBlock] at hb
  subst hb
  rw [hgg] at hg
  cases hg
  exact ht rfl
theorem append (h : VInv V0 N0 O i r s v us W) {v' : Value} {p : Fs} (hr : FRow O W' v' (us ++ [p])) (hg : W.grownBy W' v.ownBlock) (hp : ∀ c, p.2.v.ownBlock = some c -> O < c) : VInv V0 N0 O i r s v' (us ++ [p]) (W'.setCell ⟨O, 3, none⟩ v') := by
 have g3 := GRow.block h.row.row
 have hl : ∀ k, k < W.heap.size -> v.ownBlock ≠ some k -> W'.heap[k]? = W.heap[k]? := fun k hk hb => hg.block k hk (fun e => hb e.symm)
 have hi : W'.heap[O]? = _ := (hl O (Array.getElem?_eq_some_iff.1 h.inv).1 (h.rowNe h.inv (by decide))).trans h.inv
 have hz : W'.heap[N0]? = _ := (hl _ (Array.getElem?_eq_some_iff.1 h.zero).1 (h.rowNe h.zero (by decide))).trans h.zero
 have g0 := qv W' O 3 v'
 have g2 : ∀ k, k < W'.heap.size -> k ≠ O -> (W'.setCell ⟨O, 3, none⟩ v').heap[k]? = W'.heap[k]? := fun k hk hb => g0.block k hk (fun e => by cases e; exact hb rfl)
 have g1 : ∀ q ∈ us ++ [p], ∀ c, q.2.v.ownBlock = some c -> O < c := fun q hq c hc => by
  rcases List.mem_append.1 hq with hq | hq
  ·exact h.own q hq c hc
  ·rw [List.mem_singleton.1 hq] at hc; exact hp c hc
 have g4 : v'.ownBlock ≠ some O := fun hb => by
  obtain ⟨_, hq⟩ := hr.row
  rcases hq with ⟨e, _⟩ | ⟨b, cap, cur, e, _, hgg, _⟩
  ·rw [e] at hb; cases hb
  ·rw [e] at hb
   simp [Value.ownBlock] at hb
   subst hb
   rw [hgg] at hi
   cases hi
 refine ⟨hr.kept g0 g4 (fun q hq c hc => by have := g1 q hq c hc; omega), ?_, ?_, g1, ?_, h.base⟩
 ·rw [kj _ _ hi]; rfl
 ·rw [g2 _ (Array.getElem?_eq_some_iff.1 hz).1 (by have := h.base; omega)]; exact hz
 ·have g5 := h.lt
  have g6 := h.base
  refine (h.old.trans ⟨hg.os, hg.tape, hg.output, hg.size, fun k hk => hl k (by omega) (fun e => by have := g3 k e; omega)⟩).trans ⟨g0.os, g0.tape, g0.output, g0.size, fun k hk => g2 k (by have := hg.size; omega) (by omega)⟩
theorem invKept (h : VInv V0 N0 O i r s v us W) (hg : W.grownBy W' v.ownBlock) : W'.heap[O]? = some (.cells #[i, r, s, v] 54 (0, 0)) :=
 (hg.block O (Array.getElem?_eq_some_iff.1 h.inv).1 (fun e => h.rowNe h.inv (by decide) e.symm)).trans h.inv
end VInv
theorem zgg : (Tryz.prog.info? 52).map (·.size) = some 1 := by kernel_rfl
open Go.RowKit
def wakC : V.Comp := ⟨-1, 3, [97], [49], zq⟩
theorem zsr : CompWf wakC := ⟨by decide, by decide, by decide, by decide, by decide, by decide⟩
def wakI : V.Itv := ⟨[], 0, [50], 2⟩
def wakA : V.Aff := ⟨3, [97], 3, [wakI]⟩
def wakN (u : Value) : NV := ⟨⟨⟨[119], 1, 5, [wakA]⟩, dig1 3⟩, u, .slice none 0 0⟩
theorem wakA_wf : AffWf wakA := ⟨by decide, fun x hx => by rw [List.mem_singleton.1 hx]; decide, by decide⟩
theorem wak_ok : V.qt (dig1 1) 0 [wakC] = true := by kernel_rfl
theorem zpq (u : Value) : V.kt true ([wakN u].map (·.n)) [wakC] = [⟨0, [119], 5, [dig1 3]⟩] := by kernel_rfl
theorem zuo (u : Value) : V.zm7 [wakC] (V.kt true ([wakN u].map (·.n)) [wakC]) 0 = [⟨0, [119], 5, [dig1 3]⟩] := by rw [zpq]; kernel_rfl
theorem wak_up (u : Value) : V.upTo 3 [97] [49] ([wakN u].map (·.n)) [[51], [50], [49, 46, 53]] 3 = ([50], true) := by kernel_rfl
theorem noteIE3 : ∃ ie z, Tryz.prog.info? 57 = some ie /\ ie.zero = some z /\ ie.size = 37 /\ z.cells.size = 37 := by
 have h : (match Tryz.prog.info? 57 with | some i => i.size == 37 && (match i.zero with | some z => z.cells.size == 37 | none => false) | none => false) = true := by kernel_rfl
 cases hq : Tryz.prog.info? 57 with
 | none => rw [hq] at h; cases h
 | some i =>
  rw [hq] at h
  simp only [Bool.and_eq_true, beq_iff_eq] at h
  obtain ⟨h1, h3⟩ := h
  cases hz : i.zero with
  | none => rw [hz] at h3; cases h3
  | some z =>
   rw [hz] at h3
   exact ⟨i, z, rfl, hz, h1, by simpa using h3⟩
theorem zrd {ops : Array Oper} {rest : List Oper} {o : Oper} {a : Act} {w : World} {Q : Exit -> Act -> World -> Prop} (g1 : o.guard = none) (e1 : Operand) (ho : o.op = .buildSlice 31 1 #[(0, e1)])
  (x : NV) (hx : qh x.n.doc) (h1 : a.eval e1 = .agg (ncells x))
  (h : wpList Tryz.prog ops Q rest (a.put o.dst (.slice (some ⟨w.heap.size, 0, none⟩) 1 1)) (w.alloc (.cells (ncells x) 57))) : wpList Tryz.prog ops Q (o :: rest) a w := by
 obtain ⟨ie, z, g2, hz, g0, _⟩ := noteIE3
 refine wpList_buildSlice g1 _ 57 1 _ ho (ncells x) ie z Tryz.underlying31 g2 hz (by rw [g0]; decide) (by rw [g0]; decide) ?_ h
 have := Great.fill_whole (s := 37) (by decide) [Value.agg (ncells x)] ((Array.range (1 * ie.size)).map (z.cells[· % z.cells.size]!)) (fun v hv => by
   rcases List.mem_cons.1 hv with rfl | hv
   · exact zdg hx
   · cases hv) (by rw [g0]; simp)
 rw [g0] at this ⊢
 simp only [h1, List.map_toArray, List.map_cons, List.map_nil]
 exact this.trans (by simp [Value.cells])
theorem vy (w : World) (hm : zj w) : Calls Tryz.prog 21 #[] w fun e w' => e = .returned (.bool true) /\ Below w.heap.size w w' := by
 have HM := zu8 hm
 clear hm
 have h6 : (w.alloc (.cells (ccells wakC) 60)).heap.size = w.heap.size + 1 := by simp
 have HIN : Hid ((Tryz.prog.info? 29).map (·.size) = some (icells (dig1 1) 0 (.slice (some ⟨w.heap.size, 0, none⟩) 1 1)).size) := zu8 (by rw [xu, qn rfl])
 have HS : Hid ((icells zq 0 (.slice none 0 0)).size = (icells (dig1 1) 0 (.slice (some ⟨w.heap.size, 0, none⟩) 1 1)).size) := zu8 (by rw [qn rfl, qn rfl])
 have HO : Hid ((icells (dig1 1) 0 (.slice (some ⟨w.heap.size, 0, none⟩) 1 1)).all (·.oneCell') = true) := zu8 (zck rfl)
 have g9 : ((w.alloc (.cells (ccells wakC) 60)).alloc (.cells (icells zq 0 (.slice none 0 0)) 29)).heap[w.heap.size + 1]? = some (.cells (icells zq 0 (.slice none 0 0)) 29 (0, 0)) := by rw [← h6]; exact heap_alloc_new _ _
 have k5 := zu8 g9
 have hb2 : Below w.heap.size w ((w.alloc (.cells (ccells wakC) 60)).alloc (.cells (icells zq 0 (.slice none 0 0)) 29)) := ((zvb _ w).alloc (zva _) _).alloc (by simp) _
 obtain ⟨W3, g3⟩ : ∃ W3, W3 = (((w.alloc (.cells (ccells wakC) 60)).alloc (.cells (icells zq 0 (.slice none 0 0)) 29)).setRow (w.heap.size + 1) (icells (dig1 1) 0 (.slice (some ⟨w.heap.size, 0, none⟩) 1 1))) := ⟨_, rfl⟩
 have hb3 : Below w.heap.size w W3 := by rw [g3]; exact hb2.trans (qj (zz _ _ _) (by simp) (by simp; omega))
 have HB3 := zu8 hb3
 have h7 : Hid (W3.heap[w.heap.size + 1]? = some (.cells (icells (dig1 1) 0 (.slice (some ⟨w.heap.size, 0, none⟩) 1 1)) 29 (0, 0))) := zu8 (by rw [g3]; exact setRow_heap _ _ _ _ _ _ g9)
 have h8 : W3.heap.size = w.heap.size + 2 := by rw [g3]; simp
 have q3 := zu8 h8
 have h9 : Hid (Comps W3 (.slice (some ⟨w.heap.size, 0, none⟩) 1 1) [wakC]) := zu8 ⟨_, 1, rfl, fun j hj => by
   obtain rfl : j = 0 := by simpa using hj
   refine ⟨zsr, w.heap.size, 0, rfl, by omega, ?_⟩
   have h1 : W3.heap[w.heap.size]? = some (.cells (ccells wakC) 60 (0, 0)) := by
     rw [g3, setRow_other _ _ _ _ (by omega), heap_alloc, if_neg (by simp), heap_alloc, if_pos rfl]
   intro i u hu
   rw [cell_of_row _ _ _ _ _ _ h1]
   unfold ccells
   simpa using hu⟩
 have j0 := zu8 g3
 obtain ⟨W6, g1⟩ : ∃ W6, W6 = (((W3.alloc (.cells #[.string ⟨#[]⟩, .int .i64 0, .string ⟨#[50]⟩, .int .i64 2] 83)).alloc (.cells #[.int .i64 3, .string ⟨#[97]⟩, .int .i64 3, .slice (some ⟨W3.heap.size, 0, none⟩) 1 1] 70)).alloc (.cells (ncells (wakN (.slice (some ⟨W3.heap.size + 1, 0, none⟩) 1 1))) 57)) := ⟨_, rfl⟩
 have g8 : Below W3.heap.size W3 W6 := by rw [g1]; exact (((zvb _ W3).alloc (zva _) _).alloc (by simp) _).alloc (by simp; omega) _
 have k6 : W6.heap.size = W3.heap.size + 3 := by rw [g1]; simp
 have j1 : W6.heap[W3.heap.size]? = some (.cells #[.string ⟨#[]⟩, .int .i64 0, .string ⟨#[50]⟩, .int .i64 2] 83 (0, 0)) := by rw [g1, heap_alloc, if_neg (by simp; omega), heap_alloc, if_neg (by simp), heap_alloc, if_pos rfl]
 have j2 : W6.heap[W3.heap.size + 1]? = some (.cells #[.int .i64 3, .string ⟨#[97]⟩, .int .i64 3, .slice (some ⟨W3.heap.size, 0, none⟩) 1 1] 70 (0, 0)) := by rw [g1, heap_alloc, if_neg (by simp), heap_alloc, if_pos (by simp)]
 have j3 : W6.heap[W3.heap.size + 2]? = some (.cells (ncells (wakN (.slice (some ⟨W3.heap.size + 1, 0, none⟩) 1 1))) 57 (0, 0)) := by rw [g1, heap_alloc, if_pos (by simp)]
 have j4 : Itvs W6 (.slice (some ⟨W3.heap.size, 0, none⟩) 1 1) [wakI] := ⟨_, _, rfl, fun j hj => by
   obtain rfl : j = 0 := by simpa using hj
   exact ⟨W3.heap.size, 0, rfl, by omega, wj j1⟩⟩
 have j5 : Affs W6 (.slice (some ⟨W3.heap.size + 1, 0, none⟩) 1 1) [wakA] := ⟨_, _, rfl, fun j hj => by
   obtain rfl : j = 0 := by simpa using hj
   obtain ⟨c0, c1, c2, c3⟩ := wj j2
   exact ⟨wakA_wf, W3.heap.size + 1, 0, _, _, rfl, by omega, c0, c1, c2, c3, j4⟩⟩
 have h0 : Hid (qh (dig1 3)) := zu8 ⟨rfl, by decide⟩
 have HN6 : Hid (Notes W6 (.slice (some ⟨W3.heap.size + 1 + 1, 0, none⟩) 1 1) [wakN (.slice (some ⟨W3.heap.size + 1, 0, none⟩) 1 1)]) := zu8 ⟨_, 1, rfl, fun j hj => by
   obtain rfl : j = 0 := by simpa using hj
   exact ⟨⟨h0.out, j5, rfl, (by show 1 ≤ maxLen; decide), (by show 1 ≤ maxLen; decide)⟩, W3.heap.size + 2, 0, rfl, by omega, by rw [Nat.zero_mul, Nat.add_zero]; exact yp j3⟩⟩
 have HB6 := zu8 (hb3.trans (g8.mono hb3.size))
 have j6 := zu8 (h9.out.below g8)
 have h3 := zu8 ((g8.block _ (by omega)).trans h7.out)
 have j7 := zu8 g1
 have h4 := zu8 (qn (d := dig1 1) rfl 0 (.slice (some ⟨w.heap.size, 0, none⟩) 1 1))
 clear j4 j5 j1 j2 j3 k6 g8 g1 h9 h7
 clear g9 hb2 hb3 g3 h8 h6
 go_enter Tryz.func21, Tryz.ntmps21
 go_wp2_with (first
   | (refine wpList_buildTo rfl 26 #[(0, .const (.int .u8 1))] rfl _ rfl (dcells (dig1 1)) (by kernel_rfl) ?_)
   | (refine wpList_buildTo rfl 60 #[(0, .const (.int .i64 (-1))), (1, .const (.int .i64 3)), (2, .const (.string ⟨#[97]⟩)), (3, .const (.string ⟨#[49]⟩))] rfl _ rfl (ccells wakC) (by kernel_rfl) ?_)
   | (refine zlv rfl _ rfl wakC zsr rfl ?_)
   | (refine wpList_buildTo rfl 29 #[(0, .tmp 6), (2, .tmp 8)] rfl _ rfl (icells (dig1 1) 0 (.slice (some ⟨w.heap.size, 0, none⟩) 1 1)) (by kernel_rfl) ?_)
   | (rw [zb3]; refine wpList_store_row rfl _ _ _ rfl (w.heap.size + 1) (icells (dig1 1) 0 (.slice (some ⟨w.heap.size, 0, none⟩) 1 1)) ?hx ?hy 29 _ k5.out HIN.out HS.out HO.out ?hr; (case hx => rfl); (case hy => rfl); rw [← j0.out])
   | (refine wpList_buildTo rfl 70 #[(0, .const (.int .i64 3)), (1, .const (.string ⟨#[97]⟩)), (2, .tmp 12)] rfl _ rfl #[.int .i64 3, .string ⟨#[97]⟩, .int .i64 3, .slice (some ⟨W3.heap.size, 0, none⟩) 1 1] (by kernel_rfl) ?_)
   | (refine wpList_buildTo rfl 26 #[(0, .const (.int .u8 3))] rfl _ rfl (dcells (dig1 3)) (by kernel_rfl) ?_)
   | (refine wpList_buildTo rfl 57 #[(0, .tmp 15), (1, .tmp 16)] rfl _ rfl (ncells (wakN (.slice (some ⟨W3.heap.size + 1, 0, none⟩) 1 1))) (by kernel_rfl) ?_)
   | (refine zrd rfl _ rfl (wakN (.slice (some ⟨W3.heap.size + 1, 0, none⟩) 1 1)) h0.out rfl ?_; rw [← j7.out])
   | (refine wpList_load_row rfl _ _ rfl (w.heap.size + 1) rfl _ (icells (dig1 1) 0 (.slice (some ⟨w.heap.size, 0, none⟩) 1 1)) (0, 0) _ h3.out Tryz.underlying29 rfl (by rw [xu, h4.out]) ?_)
   | fail)
 refine (zbr (dig1 1) 0 (.slice (some ⟨w.heap.size, 0, none⟩) 1 1) [wakC] (.slice (some ⟨W3.heap.size + 1 + 1, 0, none⟩) 1 1) [wakN (.slice (some ⟨W3.heap.size + 1, 0, none⟩) 1 1)] W6 (HM.out.below HB6.out) rfl (by decide) j6.out (by decide) HN6.out (by simp)).mono ?_
 rw [wak_ok]
 rintro e w7 ⟨hv, us, rfl, g7, g0, hb7⟩
 rw [zpq] at g0
 have j8 : us.length = 1 := by rw [← List.length_map (f := (·.1)), g0]; rfl
 obtain ⟨p, rfl⟩ := List.length_eq_one_iff.1 j8
 have hp : p.1.sev = 5 := by
  have := List.head_eq_of_cons_eq (show p.1 :: [] = _ :: [] from g0)
  rw [this]
 obtain ⟨ha, hc, k7⟩ := g7.list.1.slice
 subst k7
 obtain ⟨g, off, rfl, hg, j9⟩ := g7.list.1.at 0 (by simp)
 have h2 : w7.cell? ⟨g, off + 2, none⟩ = some (.int .i64 5) := by
  have := j9 2 (.int .i64 p.1.sev) rfl
  rw [hp, Nat.zero_mul, Nat.add_zero] at this
  exact this
 have HB7 := zu9 HB6 hb7
 have k8 := zu8 (j6.out.below hb7)
 have HN7 := zu8 (HN6.out.below hb7)
 have HG7 := zu8 ((hb7.block _ (Array.getElem?_eq_some_iff.1 h3.out).1).trans h3.out)
 clear g7 g0 hb7 j9 j8 hp hg HIN HS HO j0 j7
 simp only [List.length_cons, List.length_nil, Nat.zero_add]
 have k9 : Hid (Strs (w7.alloc (.cells #[.string ⟨#[51]⟩, .string ⟨#[50]⟩, .string ⟨#[49, 46, 53]⟩] 9)) (.slice (some ⟨w7.heap.size, 0, none⟩) 3 3) [[51], [50], [49, 46, 53]]) := zu8 (Strs.three w7 [51] [50] [49, 46, 53] _)
 have g4 : Below w7.heap.size w7 (w7.alloc (.cells #[.string ⟨#[51]⟩, .string ⟨#[50]⟩, .string ⟨#[49, 46, 53]⟩] 9)) := (zvb _ w7).alloc (zva _) _
 have k0 := zu9 HB7 g4
 have q0 := zu8 (k8.out.below g4)
 have HN8 := zu8 (HN7.out.below g4)
 have k1 := zu8 ((g4.block _ (Array.getElem?_eq_some_iff.1 HG7.out).1).trans HG7.out)
 have k2 := zf g4 h2
 clear g4 h2
 go_wp2_with fail
 generalize w7.alloc (.cells #[.string ⟨#[51]⟩, .string ⟨#[50]⟩, .string ⟨#[49, 46, 53]⟩] 9) = w8 at *
 generalize w7.heap.size = S7 at *
 refine (zgy (.slice (some ⟨W3.heap.size + 1 + 1, 0, none⟩) 1 1) [wakN (.slice (some ⟨W3.heap.size + 1, 0, none⟩) 1 1)] 3 [97] [49] (.slice (some ⟨S7, 0, none⟩) 3 3) [[51], [50], [49, 46, 53]] w8 (HM.out.below k0.out) HN8.out (by simp) (by decide) k9.out (by decide) (by decide)).mono ?_
 rintro e w9 ⟨rfl, g5⟩
 rw [show ([[51], [50], [49, 46, 53]] : List V.Bs).length = 3 from rfl, wak_up]
 have HB9 := zu9 k0 g5
 have q1 := zu8 (q0.out.below g5)
 have q2 := zu8 (HN8.out.below g5)
 have HG9 := zu8 ((g5.block _ (Array.getElem?_eq_some_iff.1 k1.out).1).trans k1.out)
 have q4 := zf g5 k2
 clear g5 k2
 go_wp2_with (first
   | (refine wpList_load_row rfl _ _ rfl (w.heap.size + 1) rfl _ (icells (dig1 1) 0 (.slice (some ⟨w.heap.size, 0, none⟩) 1 1)) (0, 0) _ HG9.out Tryz.underlying29 rfl (by rw [xu, h4.out]) ?_)
   | (refine zfl rfl (.agg (icells (dig1 1) 0 (.slice (some ⟨w.heap.size, 0, none⟩) 1 1))) (zcx (ty := 29) rfl rfl (zcg HG9.out Tryz.underlying29 rfl (by rw [xu, h4.out]))) ?_)
   | fail)
 refine (zui (dig1 1) 0 (.slice (some ⟨w.heap.size, 0, none⟩) 1 1) [wakC] (.slice (some ⟨W3.heap.size + 1 + 1, 0, none⟩) 1 1) [wakN (.slice (some ⟨W3.heap.size + 1, 0, none⟩) 1 1)] 0 w9 (HM.out.below HB9.out) rfl (by decide) q1.out (by decide) q2.out (by simp)).mono ?_
 rw [wak_ok]
 rintro e w10 ⟨q5, us2, rfl, g6, g2, h5⟩
 rw [zuo] at g2
 have k3 : us2.length = 1 := by rw [← List.length_map (f := (·.1)), g2]; rfl
 obtain ⟨ua, uc, k4⟩ := g6.1.slice
 rw [k3] at k4
 subst k4
 have HB10 := zu9 HB9 h5
 clear g6 g2 h5 k3
 go_wp2
 go_ret
 exact ⟨rfl, HB10.out⟩
open Go.RowKit
namespace V
end V
end Go.Proofs.YtbikeahmldobkaaGreatDoor
