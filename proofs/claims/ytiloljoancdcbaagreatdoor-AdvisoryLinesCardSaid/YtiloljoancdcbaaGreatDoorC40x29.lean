/-
  Lemmas for the law.
-/
import Derived.Test.YtiloljoancdcbaaGreatDoorC40x24
import Derived.Test.YtiloljoancdcbaaGreatDoorC40x22
set_option linter.all false
set_option maxRecDepth 100000
set_option maxHeartbeats 3200000
namespace Go.Proofs.YtiloljoancdcbaaGreatDoor
open Go.RowKit
def Bords (w : World) (v : Value) (B : List (V.Cut × Bool)) : Prop := ∃ a cap, v = .slice a B.length cap /\ ∀ j (h : j < B.length), ∃ g off, a = some ⟨g, off, none⟩ /\ g < w.heap.size /\
 w.cell? ⟨g, off + j * 3, none⟩ = some (.string ⟨B[j].1.1.toArray⟩) /\ w.cell? ⟨g, off + j * 3 + 1, none⟩ = some (.bool B[j].1.2) /\ w.cell? ⟨g, off + j * 3 + 2, none⟩ = some (.bool B[j].2)
theorem BRow.bords {w : World} {N : Nat} {v : Value} {B : List (V.Cut × Bool)} (h : BRow w N v B) : Bords w v B := by
 obtain ⟨a, cap, rfl⟩ := GRow.slice h
 refine ⟨a, cap, rfl, fun j hj => ?_⟩
 obtain ⟨g, c, e, _, hlt, hc⟩ := GRow.at jw h j hj
 cases e
 refine ⟨g, 0, rfl, hlt, ?_, ?_, ?_⟩
 ·rw [Nat.zero_add]; have := hc 0 _ rfl; rwa [Nat.add_zero] at this
 ·rw [Nat.zero_add]; exact hc 1 _ rfl
 ·rw [Nat.zero_add]; exact hc 2 _ rfl
theorem Bords.below {w w' : World} {v : Value} {B : List (V.Cut × Bool)} (h : Bords w v B) (hb : Below w.heap.size w w') : Bords w' v B := by
 obtain ⟨a, cap, e, hc⟩ := h
 refine ⟨a, cap, e, fun j hj => ?_⟩
 obtain ⟨g, off, ea, hlt, h0, h1, h2⟩ := hc j hj
 exact ⟨g, off, ea, Nat.lt_of_lt_of_le hlt hb.size, za hb h0, za hb h1, za hb h2⟩
theorem Bords.slice {w : World} {v : Value} {B : List (V.Cut × Bool)} (h : Bords w v B) : ∃ a cap, v = .slice a B.length cap := by
 obtain ⟨a, c, e, _⟩ := h
 exact ⟨a, c, e⟩
theorem Bords.at {w : World} {a : Option Addr} {n cap : Nat} {B : List (V.Cut × Bool)} (h : Bords w (.slice a n cap) B) (j : Nat) (hj : j < B.length) : ∃ g off, a = some ⟨g, off, none⟩ /\ g < w.heap.size /\
  w.cell? ⟨g, off + j * 3, none⟩ = some (.string ⟨B[j].1.1.toArray⟩) /\ w.cell? ⟨g, off + j * 3 + 1, none⟩ = some (.bool B[j].1.2) /\ w.cell? ⟨g, off + j * 3 + 2, none⟩ = some (.bool B[j].2) := by
 obtain ⟨a', c, e, hc⟩ := h
 obtain ⟨g, off, ea, hr⟩ := hc j hj
 cases e
 exact ⟨g, off, ea, hr⟩
def itvE (x : V.Itv) : List Value := [.string ⟨x.lo.toArray⟩, .int .i64 x.lk, .string ⟨x.hi.toArray⟩, .int .i64 x.hk]
theorem vz (x : V.Itv) : (itvE x).length = 4 := rfl
theorem zch (x : V.Itv) : ∀ u ∈ itvE x, u.oneCell' = true := by
 intro u hu
 simp [itvE] at hu
 rcases hu with rfl | rfl | rfl | rfl <;> rfl
theorem zek : ye 87 4 48 := by
 have h : (match Tryz.prog.info? 87 with | some i => i.size == 4 && (i.bytes == 48 && (match i.zero with | some z => z.cells.size == 4 | none => false)) | none => false) = true := by kernel_rfl
 unfold ye
 cases hq : Tryz.prog.info? 87 with
 | none => rw [hq] at h; cases h
 | some i =>
  exact zwg
def zf2 (w : World) (N : Nat) (v : Value) (l : List V.Itv) : Prop := GRow 87 4 itvE w N v l
theorem zf2.itvs {w : World} {N : Nat} {v : Value} {l : List V.Itv} (h : zf2 w N v l) : Itvs w v l := by
 obtain ⟨a, cap, rfl⟩ := GRow.slice h
 refine ⟨a, cap, rfl, fun j hj => ?_⟩
 obtain ⟨g, c, e, _, hlt, hc⟩ := GRow.at vz h j hj
 cases e
 refine ⟨g, 0, rfl, hlt, ?_, ?_, ?_, ?_⟩
 ·rw [Nat.zero_add]; have := hc 0 _ rfl; rwa [Nat.add_zero] at this
 ·rw [Nat.zero_add]; exact hc 1 _ rfl
 ·rw [Nat.zero_add]; exact hc 2 _ rfl
 ·rw [Nat.zero_add]; exact hc 3 _ rfl
def itvC (x : V.Itv) : Array Value := #[.string ⟨x.lo.toArray⟩, .int .i64 x.lk, .string ⟨x.hi.toArray⟩, .int .i64 x.hk]
theorem xp (w : World) (a b c : Obj) : (((w.alloc a).alloc b).alloc c).heap[w.heap.size]? = some a /\ (((w.alloc a).alloc b).alloc c).heap[w.heap.size + 1]? = some b /\ (((w.alloc a).alloc b).alloc c).heap[w.heap.size + 1 + 1]? = some c /\ (((w.alloc a).alloc b).alloc c).heap.size = w.heap.size + 1 + 1 + 1 := by
 refine ⟨?_, ?_, ?_, by simp⟩
 ·rw [heap_alloc, if_neg (by simp; omega), heap_alloc, if_neg (by simp), heap_alloc, if_pos rfl]
 ·rw [heap_alloc, if_neg (by simp), heap_alloc, if_pos (by simp)]
 ·rw [heap_alloc, if_pos (by simp)]
theorem zrj (x : V.Itv) : (itvC x).all (·.oneCell') = true := by simp [itvC, Value.oneCell']
theorem zt (n : Int) (a : Option Addr) (len cap : Nat) : (#[Value.int .i64 n, .slice a len cap] : Array Value).all (·.oneCell') = true := by simp [Value.oneCell']
theorem kg : (Tryz.prog.info? 87).map (·.size) = some 4 := by kernel_rfl
theorem zoe : (Tryz.prog.info? 9).map (·.size) = some 1 := by kernel_rfl
theorem zt3 : (Tryz.prog.info? 3).map (·.size) = some 1 := by kernel_rfl
theorem zdt : (Tryz.prog.info? 30).map (·.size) = some 1 := by kernel_rfl
structure BInv (n : Int) (first : Bool) (R : List V.Cut) (w : World) (k : Nat) (D : List V.Itv) (u : Value) (cur : V.Itv) (W : World) : Prop where
 row : zf2 W (w.heap.size + 1 + 1 + 1) u D
 res : W.heap[w.heap.size]? = some (.cells #[.int .i64 0, .slice none 0 0] 32 (0, 0))
 out : W.heap[w.heap.size + 1]? = some (.cells #[.int .i64 n, u] 32 (0, 0))
 box : W.heap[w.heap.size + 1 + 1]? = some (.cells (itvC cur) 87 (0, 0))
 below : Below w.heap.size w W
 size : w.heap.size + 1 + 1 + 1 ≤ W.heap.size
 isOpen : V.par first k = true -> ∃ a, cur = V.mkI a none /\ V.ofC (V.start first) R = D ++ V.ofC (some a) (R.drop k)
 shut : V.par first k = false -> V.ofC (V.start first) R = D ++ V.ofC none (R.drop k)
 len : D.length ≤ k
theorem zzp {P : Prop} (h : P := by
 have HIN := zvq (HFIN.out W2 hp2)
 clear hp2
 go_roundw
 case rel => exact ⟨k + 1, D, _, _, by omega, by go_num, by rw [HP1.out], HIN.out⟩
 case measure => simp [intOf]; omega) : P := h
theorem zzz {P : Prop} (h : P := by
 clear hp2 hp3 hr5 hg5 hp6 hbA
 go_roundw
 case rel => exact ⟨k + 1, _, _, _, by omega, by go_num, by rw [HP1.out], HIN.out⟩
 case measure => simp [intOf]; omega) : P := h
theorem zqe (n : Int) (first : Bool) (v : Value) (R : List V.Cut) (w : World) (hv : Bords w v (V.alt first R)) (hl : R.length ≤ 1000) :
  Calls Tryz.prog 176 #[.int .i64 n, .bool first, v] w fun e w' => ∃ u, e = .returned (setV n u) /\ Itvs w' u (V.ofC (V.start first) R) /\ (∀ c, u.ownBlock = some c -> w.heap.size ≤ c) /\ Below w.heap.size w w' := by
 have HV := zvq hv
 obtain ⟨va, vc, rfl⟩ := hv.slice
 have hal := V.yg first R
 have HAL := zvq hal
 rw [hal]
 rw [hal] at HV
 clear hv hal
 go_enter Tryz.func176, Tryz.ntmps176
 go_wp2_with fail
 have HI : Hid (BInv n first R w 0 [] (.slice none 0 0) V.noI (((w.alloc (.cells #[.int .i64 0, .slice none 0 0] 32)).alloc (.cells #[.int .i64 n, .slice none 0 0] 32)).alloc (.cells #[.string ⟨#[]⟩, .int .i64 0, .string ⟨#[]⟩, .int .i64 0] 87))) := zvq (by
   refine ⟨GRow.nil _ _, (xp w _ _ _).1, (xp w _ _ _).2.1, (xp w _ _ _).2.2.1, (((zvt _ _).alloc (zvs _) _).alloc (by simp) _).alloc (by simp; omega) _, by simp, fun h => ?_, fun h => ?_, by simp⟩
   · rw [V.zla] at h
     subst h
     exact ⟨none, rfl, rfl⟩
   · rw [V.zla] at h
     subst h
     rfl)
 generalize ((w.alloc (.cells #[.int .i64 0, .slice none 0 0] 32)).alloc (.cells #[.int .i64 n, .slice none 0 0] 32)).alloc (.cells #[.string ⟨#[]⟩, .int .i64 0, .string ⟨#[]⟩, .int .i64 0] 87) = w0 at *
 go_loopw [9, 17] (fun bv iv wx => ∃ (k : Nat) (D : List V.Itv) (u : Value) (cur : V.Itv), k ≤ R.length /\ iv = .int .i64 k /\ bv = .bool (V.par first k) /\ BInv n first R w k D u cur wx) (fun _ iv _ => R.length - (intOf iv).toNat)
 case atStart => exact ⟨0, [], _, V.noI, Nat.zero_le _, rfl, rfl, HI.out⟩
 case round =>
  obtain ⟨k, D, u, cur, hk, rfl, rfl, hinv⟩ := hrel
  have HINV := zvq hinv
  obtain ⟨ua, uc, rfl⟩ := GRow.slice hinv.row
  clear hinv
  by_cases hlt : k < R.length
  ·obtain ⟨g, off, rfl, hgl, h0, h1, h2⟩ := HV.out.at k (by rw [HAL.out]; exact hlt)
   have hB := HINV.out.below
   have h0' := za hB h0
   have h1' := za hB h1
   have h2' := za hB h2
   have hat := V.zha first R k hlt
   have hge : (V.alt first R)[k]'(by rw [HAL.out]; exact hlt) = (R[k], V.par first (k + 1)) := by
    have := List.getElem?_eq_getElem (l := V.alt first R) (i := k) (by rw [HAL.out]; exact hlt)
    rw [hat] at this
    exact (Option.some.inj this).symm
   rw [hge] at h0' h1' h2'
   rw [V.zx] at h2'
   have hi1 : (0 : Int) ≤ (k : Int) := by omega
   have hi2 : (k : Int) < (R.length : Int) := by omega
   have HDR : Hid (R.drop k = R[k] :: R.drop (k + 1)) := zvq (List.drop_eq_getElem_cons hlt)
   clear h0 h1 h2 hat hge hB
   obtain ⟨⟨c, af⟩, hc⟩ : ∃ c, c = R[k] := ⟨_, rfl⟩
   rw [← hc] at h0' h1' HDR
   simp only at h0' h1'
   clear hc
   have hb1 : Below wr.heap.size wr (wr.alloc (.cells #[.string ⟨c.toArray⟩, .bool af, .bool (!V.par first k)] 201)) := (zvt _ wr).alloc (zvs _) _
   have hsz := HINV.out.size
   have K6 := hb1.block _ (show w.heap.size < wr.heap.size by omega)
   have K7 := hb1.block _ (show w.heap.size + 1 < wr.heap.size by omega)
   have K8 := hb1.block _ (show w.heap.size + 1 + 1 < wr.heap.size by omega)
   rw [HINV.out.res] at K6
   rw [HINV.out.out] at K7
   rw [HINV.out.box] at K8
   have HK := zvq (And.intro K6 (And.intro K7 K8))
   have HB1 := zvq (HINV.out.below.trans (hb1.mono HINV.out.below.size))
   have HR1 := zvq (GRow.below HINV.out.row hb1)
   have hsz1 : w.heap.size + 1 + 1 + 1 ≤ (wr.alloc (.cells #[.string ⟨c.toArray⟩, .bool af, .bool (!V.par first k)] 201)).heap.size := by simp; omega
   have n0 : (wr.alloc (.cells #[.string ⟨c.toArray⟩, .bool af, .bool (!V.par first k)] 201)).cell? ⟨wr.heap.size, 0, none⟩ = some (.string ⟨c.toArray⟩) := by rw [World.cell?_alloc_new]; rfl
   have n1 : (wr.alloc (.cells #[.string ⟨c.toArray⟩, .bool af, .bool (!V.par first k)] 201)).cell? ⟨wr.heap.size, 1, none⟩ = some (.bool af) := by rw [World.cell?_alloc_new]; rfl
   have n2 : (wr.alloc (.cells #[.string ⟨c.toArray⟩, .bool af, .bool (!V.par first k)] 201)).cell? ⟨wr.heap.size, 2, none⟩ = some (.bool (!V.par first k)) := by rw [World.cell?_alloc_new]; rfl
   clear K6 K7 K8 hb1
   have hne6 : wr.heap.size ≠ w.heap.size := by omega
   have hne7 : wr.heap.size ≠ w.heap.size + 1 := by omega
   have hne8 : wr.heap.size ≠ w.heap.size + 1 + 1 := by omega
   rcases hp : V.par first k with _ | _
   ·have HSH := zvq (HINV.out.shut hp)
    have HP1 : Hid (V.par first (k + 1) = true) := zvq (by rw [V.zx, hp]; rfl)
    have HLD := zvq HINV.out.len
    rw [hp] at h2' n2 hsz1 n1 n0 HR1 HB1 HK
    simp only [Bool.not_false] at h2' n2 hsz1 n1 n0 HR1 HB1 HK
    rw [HDR.out] at HSH
    have FIN : ∀ W2 : World, PutAt (wr.alloc (.cells #[.string ⟨c.toArray⟩, .bool af, .bool true] 201)) W2 (w.heap.size + 1 + 1) (itvC (V.mkI (some (c, af)) none)) 87 -> BInv n first R w (k + 1) D (.slice ua D.length uc) (V.mkI (some (c, af)) none) W2 := fun W2 hp2 => by
     refine ⟨hp2.row HR1.out (by omega), hp2.other HK.out.1 (by omega), hp2.other HK.out.2.1 (by omega), hp2.here, hp2.below HB1.out (by omega), by rw [hp2.size]; exact hsz1, fun _ => ⟨some (c, af), rfl, HSH.out⟩, fun h => ?_, by have := HLD.out; omega⟩
     rw [HP1.out] at h
     cases h
    have HFIN := zvq FIN
    clear FIN
    cases af
    ·go_wp2_with (first | (refine zi rfl _ _ _ rfl (w.heap.size + 1 + 1) (itvC cur) _ HK.out.2.2 rfl (itvC (V.mkI (some (c, false)) none)) rfl rfl kg (zrj _) ?_; intro W2 hp2; have q2 := hp2.cell n2 hne8) | fail)
     exact zzp
    ·go_wp2_with (first | (refine zi rfl _ _ _ rfl (w.heap.size + 1 + 1) (itvC cur) _ HK.out.2.2 rfl (itvC (V.mkI (some (c, true)) none)) rfl rfl kg (zrj _) ?_; intro W2 hp2; have q2 := hp2.cell n2 hne8) | fail)
     exact zzp
   ·obtain ⟨a, rfl, hof⟩ := HINV.out.isOpen hp
    have HOF := zvq hof
    have HP1 : Hid (V.par first (k + 1) = false) := zvq (by rw [V.zx, hp]; rfl)
    have HLD := zvq HINV.out.len
    have HLT := zvq (GRow.lt HINV.out.row)
    have HBL := zvq (GRow.block HINV.out.row)
    rw [hp] at h2' n2 hsz1 n1 n0 HR1 HB1 HK
    simp only [Bool.not_true] at h2' n2 hsz1 n1 n0 HR1 HB1 HK
    rw [HDR.out] at HOF
    clear hof
    cases af
    ·have HY : Hid ((V.ofC (V.start first) R) = (D ++ [V.mkI a (some (c, false))]) ++ V.ofC none (R.drop (k + 1))) := zvq (by rw [HOF.out, List.append_assoc]; rfl)
     go_wp2_with (first
       | (refine zad rfl 9 _ _ rfl (w.heap.size + 1 + 1) 2 (itvC (V.mkI a none)) _ HK.out.2.2 (by simp [itvC]) rfl (.string ⟨c.toArray⟩) rfl zoe rfl ?_; intro W2 hp2; have q0 := hp2.cell n0 hne8; have q1 := hp2.cell n1 hne8; have q2 := hp2.cell n2 hne8)
       | (refine zad rfl 3 _ _ rfl (w.heap.size + 1 + 1) 3 ((itvC (V.mkI a none)).setIfInBounds 2 (.string ⟨c.toArray⟩)) _ hp2.here (by simp [itvC]) rfl (.int .i64 2) rfl zt3 rfl ?_; intro W3 hp3; have r2 := hp3.cell q2 hne8; have t1 : W3.cell? ⟨w.heap.size + 1, 1, none⟩ = some (.slice ua D.length uc) := zvp (hp3.other (hp2.other HK.out.2.1 (by omega)) (by omega)) 1; have u0 : W3.cell? ⟨w.heap.size + 1 + 1, 0, none⟩ = some (.string ⟨(V.mkI a (some (c, false))).lo.toArray⟩) := zvp hp3.here 0; have u1 : W3.cell? ⟨w.heap.size + 1 + 1, 1, none⟩ = some (.int .i64 (V.mkI a (some (c, false))).lk) := zvp hp3.here 1; have u2 : W3.cell? ⟨w.heap.size + 1 + 1, 2, none⟩ = some (.string ⟨(V.mkI a (some (c, false))).hi.toArray⟩) := zvp hp3.here 2; have u3 : W3.cell? ⟨w.heap.size + 1 + 1, 3, none⟩ = some (.int .i64 (V.mkI a (some (c, false))).hk) := zvp hp3.here 3)
       | (refine zm vz (by decide) zch zek (by decide) rfl _ _ 30 rfl Tryz.underlying30 (w.heap.size + 1 + 1 + 1) (.slice ua D.length uc) D rfl (GRow.below (hp3.row (hp2.row HR1.out (by omega)) (by omega)) ((zvt _ W3).alloc (zvs _) _)) W3.heap.size (V.mkI a (some (c, false))) rfl (fun j u hu => by rw [World.cell?_alloc_new]; simpa [itvE] using hu) (by have := HLD.out; omega) (by have e3 := hp3.size; have e2 := hp2.size; simp; omega) ?_; intro v5 W5 hr5 hg5)
       | (refine zad rfl 30 _ _ rfl (w.heap.size + 1) 1 #[.int .i64 n, .slice ua D.length uc] _ (kx hg5 HBL.out (by omega) (((zvt _ W3).alloc (zvs _) _).block _ (by have e3 := hp3.size; have e2 := hp2.size; omega) |>.trans (hp3.other (hp2.other HK.out.2.1 (by omega)) (by omega)))) (by simp) rfl v5 rfl zdt (by obtain ⟨_, _, e⟩ := GRow.slice hr5; rw [e]; rfl) ?_; intro W6 hp6)
       | fail)
     have e3 := hp3.size
     have e2 := hp2.size
     have hbA := (zvt W3.heap.size W3).alloc (zvs _) (.cells (itvC (V.mkI a (some (c, false)))) 87)
     have HIN : Hid (BInv n first R w (k + 1) (D ++ [V.mkI a (some (c, false))]) v5 (V.mkI a (some (c, false))) W6) := zvq (by
       have hB3 : Below w.heap.size w W3 := hp3.below (hp2.below HB1.out (by omega)) (by omega)
       have hB5 : Below w.heap.size w W5 := (hB3.trans (hbA.mono hB3.size)).trans (zp hg5 HBL.out (by omega) (by show w.heap.size + 1 + 1 + 1 ≤ (W3.alloc _).heap.size; simp; omega))
       refine ⟨hp6.row hr5 (by omega), hp6.other (kx hg5 HBL.out (by omega) ((hbA.block _ (by omega)).trans (hp3.other (hp2.other HK.out.1 (by omega)) (by omega)))) (by omega), hp6.here, hp6.other (kx hg5 HBL.out (by omega) ((hbA.block _ (by omega)).trans hp3.here)) (by omega), hp6.below hB5 (by omega), ?_, fun h => ?_, fun _ => HY.out, ?_⟩
       · have := hg5.size; rw [hp6.size]; simp at this; omega
       · rw [HP1.out] at h; cases h
       · have := HLD.out; simp; omega)
     exact zzz
    ·have HY : Hid ((V.ofC (V.start first) R) = (D ++ [V.mkI a (some (c, true))]) ++ V.ofC none (R.drop (k + 1))) := zvq (by rw [HOF.out, List.append_assoc]; rfl)
     go_wp2_with (first
       | (refine zad rfl 9 _ _ rfl (w.heap.size + 1 + 1) 2 (itvC (V.mkI a none)) _ HK.out.2.2 (by simp [itvC]) rfl (.string ⟨c.toArray⟩) rfl zoe rfl ?_; intro W2 hp2; have q0 := hp2.cell n0 hne8; have q1 := hp2.cell n1 hne8; have q2 := hp2.cell n2 hne8)
       | (refine zad rfl 3 _ _ rfl (w.heap.size + 1 + 1) 3 ((itvC (V.mkI a none)).setIfInBounds 2 (.string ⟨c.toArray⟩)) _ hp2.here (by simp [itvC]) rfl (.int .i64 1) rfl zt3 rfl ?_; intro W3 hp3; have r2 := hp3.cell q2 hne8; have t1 : W3.cell? ⟨w.heap.size + 1, 1, none⟩ = some (.slice ua D.length uc) := zvp (hp3.other (hp2.other HK.out.2.1 (by omega)) (by omega)) 1; have u0 : W3.cell? ⟨w.heap.size + 1 + 1, 0, none⟩ = some (.string ⟨(V.mkI a (some (c, true))).lo.toArray⟩) := zvp hp3.here 0; have u1 : W3.cell? ⟨w.heap.size + 1 + 1, 1, none⟩ = some (.int .i64 (V.mkI a (some (c, true))).lk) := zvp hp3.here 1; have u2 : W3.cell? ⟨w.heap.size + 1 + 1, 2, none⟩ = some (.string ⟨(V.mkI a (some (c, true))).hi.toArray⟩) := zvp hp3.here 2; have u3 : W3.cell? ⟨w.heap.size + 1 + 1, 3, none⟩ = some (.int .i64 (V.mkI a (some (c, true))).hk) := zvp hp3.here 3)
       | (refine zm vz (by decide) zch zek (by decide) rfl _ _ 30 rfl Tryz.underlying30 (w.heap.size + 1 + 1 + 1) (.slice ua D.length uc) D rfl (GRow.below (hp3.row (hp2.row HR1.out (by omega)) (by omega)) ((zvt _ W3).alloc (zvs _) _)) W3.heap.size (V.mkI a (some (c, true))) rfl (fun j u hu => by rw [World.cell?_alloc_new]; simpa [itvE] using hu) (by have := HLD.out; omega) (by have e3 := hp3.size; have e2 := hp2.size; simp; omega) ?_; intro v5 W5 hr5 hg5)
       | (refine zad rfl 30 _ _ rfl (w.heap.size + 1) 1 #[.int .i64 n, .slice ua D.length uc] _ (kx hg5 HBL.out (by omega) (((zvt _ W3).alloc (zvs _) _).block _ (by have e3 := hp3.size; have e2 := hp2.size; omega) |>.trans (hp3.other (hp2.other HK.out.2.1 (by omega)) (by omega)))) (by simp) rfl v5 rfl zdt (by obtain ⟨_, _, e⟩ := GRow.slice hr5; rw [e]; rfl) ?_; intro W6 hp6)
       | fail)
     have e3 := hp3.size
     have e2 := hp2.size
     have hbA := (zvt W3.heap.size W3).alloc (zvs _) (.cells (itvC (V.mkI a (some (c, true)))) 87)
     have HIN : Hid (BInv n first R w (k + 1) (D ++ [V.mkI a (some (c, true))]) v5 (V.mkI a (some (c, true))) W6) := zvq (by
       have hB3 : Below w.heap.size w W3 := hp3.below (hp2.below HB1.out (by omega)) (by omega)
       have hB5 : Below w.heap.size w W5 := (hB3.trans (hbA.mono hB3.size)).trans (zp hg5 HBL.out (by omega) (by show w.heap.size + 1 + 1 + 1 ≤ (W3.alloc _).heap.size; simp; omega))
       refine ⟨hp6.row hr5 (by omega), hp6.other (kx hg5 HBL.out (by omega) ((hbA.block _ (by omega)).trans (hp3.other (hp2.other HK.out.1 (by omega)) (by omega)))) (by omega), hp6.here, hp6.other (kx hg5 HBL.out (by omega) ((hbA.block _ (by omega)).trans hp3.here)) (by omega), hp6.below hB5 (by omega), ?_, fun h => ?_, fun _ => HY.out, ?_⟩
       · have := hg5.size; rw [hp6.size]; simp at this; omega
       · rw [HP1.out] at h; cases h
       · have := HLD.out; simp; omega)
     exact zzz
  ·obtain rfl : k = R.length := by omega
   have HDR : Hid (R.drop R.length = []) := zvq (List.drop_length ..)
   have hsz := HINV.out.size
   have k7 : wr.cell? ⟨w.heap.size + 1, 1, none⟩ = some (.slice ua D.length uc) := zvp HINV.out.out 1
   have k70 : wr.cell? ⟨w.heap.size + 1, 0, none⟩ = some (.int .i64 n) := zvp HINV.out.out 0
   have u0 : wr.cell? ⟨w.heap.size + 1 + 1, 0, none⟩ = some (.string ⟨cur.lo.toArray⟩) := zvp HINV.out.box 0
   have u1 : wr.cell? ⟨w.heap.size + 1 + 1, 1, none⟩ = some (.int .i64 cur.lk) := zvp HINV.out.box 1
   have u2 : wr.cell? ⟨w.heap.size + 1 + 1, 2, none⟩ = some (.string ⟨cur.hi.toArray⟩) := zvp HINV.out.box 2
   have u3 : wr.cell? ⟨w.heap.size + 1 + 1, 3, none⟩ = some (.int .i64 cur.hk) := zvp HINV.out.box 3
   have HLD := zvq HINV.out.len
   have HLT := zvq (GRow.lt HINV.out.row)
   have HBL := zvq (GRow.block HINV.out.row)
   rcases hp : V.par first R.length with _ | _
   ·have HO : Hid (V.ofC (V.start first) R = D) := zvq (by rw [HINV.out.shut hp, HDR.out]; exact List.append_nil _)
    go_wp2_with (first
      | (refine zi rfl 32 _ _ rfl w.heap.size #[.int .i64 0, .slice none 0 0] _ HINV.out.res rfl #[.int .i64 n, .slice ua D.length uc] rfl rfl (by kernel_rfl) (zt _ _ _ _) ?_; intro W2 hp2; have z0 : W2.cell? ⟨w.heap.size, 0, none⟩ = some (.int .i64 n) := zvp hp2.here 0; have z1 : W2.cell? ⟨w.heap.size, 1, none⟩ = some (.slice ua D.length uc) := zvp hp2.here 1)
      | fail)
    have HB : Hid (Below w.heap.size w W2) := zvq (hp2.below HINV.out.below (zvs _))
    have HIV : Hid (Itvs W2 (.slice ua D.length uc) (V.ofC (V.start first) R)) := zvq (by rw [HO.out]; exact zf2.itvs (hp2.row HINV.out.row (by omega)))
    have HOW : Hid (∀ c, (Value.slice ua D.length uc).ownBlock = some c -> w.heap.size ≤ c) := zvq (fun c hc => by have := HBL.out c hc; omega)
    clear hp2
    exact bodyPost_ret (v := .agg #[.int .i64 n, .slice ua D.length uc]) (by simp [results, Tryz.results176, go_sem, z0, z1]) rfl ⟨_, rfl, HIV.out, HOW.out, HB.out⟩
   ·obtain ⟨a, rfl, hof⟩ := HINV.out.isOpen hp
    have HO : Hid (V.ofC (V.start first) R = D ++ [V.mkI a none]) := zvq (by rw [hof, HDR.out]; rfl)
    clear hof
    go_wp2_with (first
      | (refine zm vz (by decide) zch zek (by decide) rfl _ _ 30 rfl Tryz.underlying30 (w.heap.size + 1 + 1 + 1) (.slice ua D.length uc) D rfl (GRow.below HINV.out.row ((zvt _ wr).alloc (zvs _) _)) wr.heap.size (V.mkI a none) rfl (fun j u hu => by rw [World.cell?_alloc_new]; simpa [itvE] using hu) (by have := HLD.out; omega) (by simp; omega) ?_; intro v5 W5 hr5 hg5; have HBA := zvq ((zvt wr.heap.size wr).alloc (zvs _) (.cells (itvC (V.mkI a none)) 87)); have g6 := kx hg5 HBL.out (by omega) ((HBA.out.block _ (by omega)).trans HINV.out.res); have g7 := kx hg5 HBL.out (by omega) ((HBA.out.block _ (by omega)).trans HINV.out.out))
      | (refine zad rfl 30 _ _ rfl (w.heap.size + 1) 1 #[.int .i64 n, .slice ua D.length uc] _ g7 (by simp) rfl v5 rfl zdt (by obtain ⟨_, _, e⟩ := GRow.slice hr5; rw [e]; rfl) ?_; intro W6 hp6; have z70 : W6.cell? ⟨w.heap.size + 1, 0, none⟩ = some (.int .i64 n) := zvp hp6.here 0; have z71 : W6.cell? ⟨w.heap.size + 1, 1, none⟩ = some v5 := zvp hp6.here 1)
      | (refine zi rfl 32 _ _ rfl w.heap.size #[.int .i64 0, .slice none 0 0] _ (hp6.other g6 (by omega)) rfl #[.int .i64 n, v5] rfl rfl (by kernel_rfl) (by obtain ⟨_, _, e⟩ := GRow.slice hr5; rw [e]; exact zt _ _ _ _) ?_; intro W7 hp7; have z0 : W7.cell? ⟨w.heap.size, 0, none⟩ = some (.int .i64 n) := zvp hp7.here 0; have z1 : W7.cell? ⟨w.heap.size, 1, none⟩ = some v5 := zvp hp7.here 1)
      | fail)
    have HB : Hid (Below w.heap.size w W7) := zvq (hp7.below (hp6.below ((HINV.out.below.trans (HBA.out.mono HINV.out.below.size)).trans (zp hg5 HBL.out (by omega) (by show w.heap.size + 1 + 1 + 1 ≤ (wr.alloc _).heap.size; simp; omega))) (by omega)) (zvs _))
    have HIV : Hid (Itvs W7 v5 (V.ofC (V.start first) R)) := zvq (by rw [HO.out]; exact zf2.itvs (hp7.row (hp6.row hr5 (by omega)) (by omega)))
    have HOW : Hid (∀ c, v5.ownBlock = some c -> w.heap.size ≤ c) := zvq (fun c hc => by have := GRow.block hr5 c hc; omega)
    clear hp7 hp6 hr5 hg5 g6 g7
    exact bodyPost_ret (v := .agg #[.int .i64 n, v5]) (by simp [results, Tryz.results176, go_sem, z0, z1]) rfl ⟨_, rfl, HIV.out, HOW.out, HB.out⟩
end Go.Proofs.YtiloljoancdcbaaGreatDoor
