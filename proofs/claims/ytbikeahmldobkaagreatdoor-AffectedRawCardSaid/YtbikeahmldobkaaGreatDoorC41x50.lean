/-
  Lemmas for the law.
-/
import Derived.Test.YtbikeahmldobkaaGreatDoorC41x11
import Derived.Test.YtbikeahmldobkaaGreatDoorC41x49
import Derived.Test.YtbikeahmldobkaaGreatDoorC41x24
import Derived.Test.YtbikeahmldobkaaGreatDoorC41x28
import Derived.ProofKit
import Derived.Deep.Strs
import Derived.DeepKeys5
set_option linter.all false
set_option maxRecDepth 100000
namespace Go.Proofs.YtbikeahmldobkaaGreatDoor
open Go.ChangeShapes Go.WideShapes Go.ChangeAt Go.RowKit
theorem zep {α β : Type} {f : α -> Option β} : ∀ {l : List α} {r : List β}, l.mapM f = some r -> ∀ x ∈ l, ∃ y, f x = some y
 | [], _, _, x, hx => by simp at hx
 | a :: l, r, h, x, hx => by
  rw [List.mapM_cons] at h
  cases ha : f a with
  | none => rw [ha] at h; cases h
  | some b =>
   rw [ha] at h
   cases hl : l.mapM f with
   | none => rw [hl] at h; cases h
   | some bs =>
    rcases List.mem_cons.1 hx with rfl | hx
    ·exact ⟨b, ha⟩
    ·exact zep hl x hx
theorem zr0 {P : Prop} (h : P := by
 obtain ⟨n, hc, hl⟩ := keyLits_int' Tryz.underlying3 h
 exact ⟨n, hc, keyLits_wf h (.int .i64 n) (by rw [hl]; simp)⟩) : P := h
theorem zdx {d : Nat} {cs : List Value} {l : List Lit} (h : Tryz.prog.keyLits d 3 cs = some l) : ∃ n, cs = [.int .i64 n] /\ (Lit.int .i64 n).wf = true := by
 exact zr0
theorem zmr {d : Nat} {cs : List Value} {l : List Lit} (h : Tryz.prog.keyLits d 5 cs = some l) : ∃ n, cs = [.int .u8 n] /\ (Lit.int .u8 n).wf = true := by
 obtain ⟨n, hc, hl⟩ := keyLits_int' Tryz.underlying5 h
 exact ⟨n, hc, keyLits_wf h (.int .u8 n) (by rw [hl]; simp)⟩
theorem zq8 {P : Prop} (h : P := by
 obtain ⟨s, hc, hl⟩ := keyLits_string' Tryz.underlying9 h
 exact ⟨s.data.toList, by rw [hc], keyLits_wf h (.string s.data.toList) (by rw [hl]; simp)⟩) : P := h
theorem zdq {d : Nat} {cs : List Value} {l : List Lit} (h : Tryz.prog.keyLits d 9 cs = some l) : ∃ s : V.Bs, cs = [.string ⟨s.toArray⟩] /\ s.length ≤ maxLen := by
 exact zq8
theorem zav {d : Nat} {cs : List Value} {l : List Lit} (h : Tryz.prog.keyLits (d + 1) 26 cs = some l) : ∃ ds : List Int, ds.length = 32 /\ (∀ n ∈ ds, (Lit.int .u8 n).wf = true) /\ cs = zk ds := by
 rw [Program.keyLits] at h
 case heq => exact Tryz.underlying26
 have h' : (if cs.length = Tryz.prog.cellsOf 26 then ((List.range 32).mapM fun i => Tryz.prog.keyLits d 5 ((cs.drop (i * Tryz.prog.cellsOf 5)).take (Tryz.prog.cellsOf 5))).map List.flatten else none) = some l := h
 clear h
 split at h'
 ·rename_i hl
  rw [xt] at hl
  simp only [Option.map_eq_some_iff] at h'
  obtain ⟨r, hr, _⟩ := h'
  have hall := zep hr
  have hat : ∀ i (hi : i < cs.length), ∃ n, cs[i] = .int .u8 n /\ (Lit.int .u8 n).wf = true := fun i hi => by
   obtain ⟨y, hy⟩ := hall i (by simp; omega)
   obtain ⟨n, hn, hw⟩ := zmr hy
   rw [zj6, Nat.mul_one, List.drop_eq_getElem_cons hi] at hn
   exact ⟨n, (List.cons.inj hn).1, hw⟩
  refine ⟨cs.map fun v => match v with | .int _ n => n | _ => 0, by simpa using hl, fun n hn => ?_, ?_⟩
  ·obtain ⟨v, hv, rfl⟩ := List.mem_map.1 hn
   obtain ⟨i, hi, rfl⟩ := List.mem_iff_getElem.1 hv
   obtain ⟨n, hn, hw⟩ := hat i hi
   rw [hn]; exact hw
  ·unfold zk
   rw [List.map_map]
   apply List.ext_getElem
   ·simp
   ·intro i h1 h2
    obtain ⟨n, hn, _⟩ := hat i h1
    simp [hn]
 ·cases h'
theorem zfk {P : Program} {d : Nat} {t : TypeId} {cs : List Value} {fs : Array Field} (hu : P.underlying t = some (.struct fs)) : P.keyLits (d + 1) t cs =
  (if cs.length = P.cellsOf t /\ fs.all (·.name != "_") = true then (fs.toList.mapM fun f => P.keyLits d f.type ((cs.drop f.offset).take (P.cellsOf f.type))).map List.flatten else none) := by
 conv => lhs; unfold Program.keyLits
 rw [hu]
theorem zii {d : Nat} {cs : List Value} {l : List Lit} (h : Tryz.prog.keyLits (d + 2) 60 cs = some l) : ∃ c : V.Comp, CompWf c /\ cs = qr c := by
 rw [zfk Tryz.underlying60] at h
 split at h
 ·rename_i hc
  have hl := hc.1
  rw [vk] at hl
  simp only [Option.map_eq_some_iff] at h
  obtain ⟨r, hr, _⟩ := h
  have hall := zep hr
  simp only [List.mem_cons, List.not_mem_nil, or_false, forall_eq_or_imp, forall_eq] at hall
  obtain ⟨⟨_, g0⟩, ⟨_, g1⟩, ⟨_, g2⟩, ⟨_, g3⟩, ⟨_, g4⟩⟩ := hall
  obtain ⟨par, e0, w0⟩ := zdx g0
  obtain ⟨sch, e1, w1⟩ := zdx g1
  obtain ⟨nm, e2, w2⟩ := zdq g2
  obtain ⟨vr, e3, w3⟩ := zdq g3
  obtain ⟨ds, dl, dw, e4⟩ := zav g4
  simp only [zhs, zhf, xt] at e0 e1 e2 e3 e4
  refine ⟨⟨par, sch, nm, vr, ds⟩, ⟨w0, w1, w2, w3, dl, dw⟩, ?_⟩
  rcases cs with _ | ⟨a, _ | ⟨b, _ | ⟨c, _ | ⟨e, rest⟩⟩⟩⟩
  ·simp at hl
  ·simp at hl
  ·simp at hl
  ·simp at hl
  ·have hrl : rest.length = 32 := by simpa using hl
   simp at e0 e1 e2 e3
   have e4' : rest = zk ds := by
    rw [← e4]
    exact (List.take_of_length_le (by show rest.length ≤ 32; omega)).symm
   rw [e0, e1, e2, e3, e4']
   rfl
 ·cases h
open Go.ChangeShapes Go.WideShapes Go.ChangeAt Go.RowKit
theorem znn : Tryz.prog.keyTypeAt 2 26 = true := by kernel_rfl
theorem compKey3 : Tryz.prog.keyTypeAt 3 60 = true := by kernel_rfl
theorem zk1 : Tryz.prog.cellsOf 27 = 1 := by kernel_rfl
theorem zoj : Tryz.prog.cellsOf 2 = 1 := by kernel_rfl
theorem zoy : Tryz.prog.cellsOf 29 = 34 := by kernel_rfl
theorem zi2 {H : Type} {enc : TypeId × Value -> H} {W : World} {base : Nat} {sp : Nat -> Bool} {hd : Bool} {n : Nat} {cs : List Value} {x : DataW H × List MemPlace} (h : DataW.trod enc Tryz.prog W base sp hd n 60 cs = some x) : ∃ c : V.Comp, CompWf c /\ cs = qr c :=
 zii (keyLits_of_trod (P := Tryz.prog) 3 60 compKey3 n cs x h).1
theorem zgq {H : Type} {enc : TypeId × Value -> H} {W : World} {base : Nat} {sp : Nat -> Bool} {hd : Bool} {n : Nat} {cs : List Value} {x : DataW H × List MemPlace} (h : DataW.trod enc Tryz.prog W base sp hd n 27 cs = some x) : ∃ (v : Value) (l : List V.Comp), cs = [v] /\ Comps W v l := by
 rcases Go.Deep.open_slice Tryz.underlying27 h with ⟨rfl, _⟩ | ⟨a, len, cap, m, n', D, Pl, rfl, hb, hl, hm, hmm, _, hx⟩
 ·exact ⟨_, [], rfl, Comps.nil W⟩
 ·have hlm : len ≤ m := by rw [hmm]; split <;> omega
  rw [vk] at hx
  have each : ∀ i, i < len -> ∃ c : V.Comp, CompWf c /\ ∀ j, j < 36 -> W.cell? ((a.add (i * 36)).add j) = (qr c)[j]? := fun i hi => by
   obtain ⟨cs', h1, h2⟩ := hx i (by omega)
   obtain ⟨c, hc, rfl⟩ := zi2 h2
   exact ⟨c, hc, (World.cells?_some h1).2.2⟩
  have : Inhabited V.Comp := ⟨zeroC⟩
  obtain ⟨f, hf⟩ := Go.Deep.choose_lt each
  refine ⟨_, (List.range len).map f, rfl, some a, cap, by simp, fun j hj => ?_⟩
  have hj' : j < len := by simpa using hj
  have he : ((List.range len).map f)[j] = f j := by simp
  rw [he]
  obtain ⟨hw, hc⟩ := hf j hj'
  obtain ⟨b, off, spot⟩ := a
  have hspot : spot = none := by
   have h1 := (hf 0 (by omega)).2 0 (by omega)
   have h2 : (qr (f 0))[0]? = some (.int .i64 (f 0).par) := rfl
   rw [h2] at h1
   simpa [Addr.add] using World.cell?_spot h1
  subst hspot
  have h0 : W.cell? (((⟨b, off, none⟩ : Addr).add (j * 36)).add 0) = some (.int .i64 (f j).par) := hc 0 (by omega)
  rw [add_plain, add_plain, Nat.add_zero] at h0
  refine ⟨hw, b, off, rfl, World.block_lt_of_cell? _ _ h0, fun i u hu => ?_⟩
  have hi : i < 36 := by
   have := (List.getElem?_eq_some_iff.1 hu).1
   rwa [zml hw] at this
  have := hc i hi
  rw [add_plain, add_plain] at this
  rw [this]
  exact hu
theorem read_inv {H : Type} {enc : TypeId × Value -> H} {W : World} {base : Nat} {v : Value} {d : DataW H} {p : List MemPlace} (hv : Value.okWide Tryz.prog W .any base 29 v)
  (h : DataW.Trod enc Tryz.prog W 0 (fun _ => true) true 29 v d p) : ∃ x : IV, v = .agg (icells x.d x.t x.v) /\ (x.d.length = 32 /\ (∀ n ∈ x.d, (Lit.int .u8 n).wf = true) /\ Comps W x.v x.l) := by
 obtain ⟨cs, rfl, hsz⟩ := okWide_struct Tryz.underlying29 hv
 obtain ⟨fuel0, hf⟩ := h
 obtain ⟨y0, y1, y2, n, _, hl, h0, h1, h2⟩ := Go.Deep.trod_struct3 Tryz.underlying29 hf
 have hl' : cs.toList.length = 34 := by rw [← zoy]; exact hl
 obtain ⟨ds, dl, dw, e0⟩ := zav (keyLits_of_trod (P := Tryz.prog) 2 26 znn n _ _ h0).1
 obtain ⟨tm, e1, _, _⟩ := DataW.trod_int Tryz.underlying2 h1
 obtain ⟨v', l, e2, hc⟩ := zgq h2
 rw [xt] at e0
 rw [zoj] at e1
 rw [zk1] at e2
 refine ⟨⟨ds, tm, v', l⟩, ?_, dl, dw, hc⟩
 have a0 : cs.toList.take 32 = zk ds := e0
 have a1 : (cs.toList.drop 32).take 1 = [.int .i64 tm] := e1
 have a2 : (cs.toList.drop 33).take 1 = [v'] := e2
 have ec : cs.toList = zk ds ++ [.int .i64 tm, v'] := by
  rw [← List.take_append_drop 32 cs.toList, a0]
  congr 1
  rw [← List.take_append_drop 1 (cs.toList.drop 32), a1, List.drop_drop]
  have a3 : (cs.toList.drop 33).take 1 = cs.toList.drop 33 := List.take_of_length_le (by rw [List.length_drop]; omega)
  rw [show 32 + 1 = 33 from rfl, ← a3, a2]
  rfl
 unfold icells
 rw [← ec]
open Go.ChangeShapes Go.WideShapes Go.ChangeAt Go.RowKit
theorem zh7 {α β : Type} {f : α -> Option β} : ∀ {l : List α} {r : List β}, l.mapM f = some r -> ∀ x ∈ l, ∃ y, f x = some y
 | [], _, _, x, hx => by simp at hx
 | a :: l, r, h, x, hx => by
  rw [List.mapM_cons] at h
  cases ha : f a with
  | none => rw [ha] at h; cases h
  | some b =>
   rw [ha] at h
   cases hl : l.mapM f with
   | none => rw [hl] at h; cases h
   | some bs =>
    rcases List.mem_cons.1 hx with rfl | hx
    ·exact ⟨b, ha⟩
    ·exact zh7 hl x hx
theorem jz (b o i : Nat) : (⟨b, o, none⟩ : Addr).add i = ⟨b, o + i, none⟩ := Addr.add_mid b o i
theorem wm : Tryz.prog.cellsOf 3 = 1 := by kernel_rfl
theorem zb0 : Tryz.prog.cellsOf 9 = 1 := by kernel_rfl
theorem zic : Tryz.prog.cellsOf 83 = 4 := by kernel_rfl
theorem zl2 : Tryz.prog.cellsOf 66 = 1 := by kernel_rfl
theorem zh9 : Tryz.prog.cellsOf 68 = 2 := by kernel_rfl
theorem itvKey : Tryz.prog.keyTypeAt 2 83 = true := by kernel_rfl
def zag (x : V.Itv) : List Value := [.string ⟨x.lo.toArray⟩, .int .i64 x.lk, .string ⟨x.hi.toArray⟩, .int .i64 x.hk]
theorem zcr {d : Nat} {cs : List Value} {l : List Lit} (h : Tryz.prog.keyLits d 3 cs = some l) : ∃ n, cs = [.int .i64 n] /\ (Lit.int .i64 n).wf = true := by
 exact zr0
theorem ym {d : Nat} {cs : List Value} {l : List Lit} (h : Tryz.prog.keyLits d 9 cs = some l) : ∃ s : V.Bs, cs = [.string ⟨s.toArray⟩] /\ s.length ≤ maxLen := by
 exact zq8
theorem zd9 {P : Program} {d : Nat} {t : TypeId} {cs : List Value} {fs : Array Field} (hu : P.underlying t = some (.struct fs)) : P.keyLits (d + 1) t cs =
  (if cs.length = P.cellsOf t /\ fs.all (·.name != "_") = true then (fs.toList.mapM fun f => P.keyLits d f.type ((cs.drop f.offset).take (P.cellsOf f.type))).map List.flatten else none) := by
 conv => lhs; unfold Program.keyLits
 rw [hu]
def zh6 (x : V.Itv) : Prop := x.lo.length ≤ maxLen /\ x.hi.length ≤ maxLen /\ (Lit.int .i64 x.lk).wf = true /\ (Lit.int .i64 x.hk).wf = true
theorem zki {d : Nat} {cs : List Value} {l : List Lit} (h : Tryz.prog.keyLits (d + 1) 83 cs = some l) : ∃ x : V.Itv, zh6 x /\ cs = zag x := by
 rw [zd9 Tryz.underlying83] at h
 split at h
 ·rename_i hc
  have hl := hc.1
  rw [zic] at hl
  simp only [Option.map_eq_some_iff] at h
  obtain ⟨r, hr, _⟩ := h
  have hall := zh7 hr
  simp only [List.mem_cons, List.not_mem_nil, or_false, forall_eq_or_imp, forall_eq] at hall
  obtain ⟨⟨_, g0⟩, ⟨_, g1⟩, ⟨_, g2⟩, ⟨_, g3⟩⟩ := hall
  obtain ⟨lo, e0, w0⟩ := ym g0
  obtain ⟨lk, e1, w1⟩ := zcr g1
  obtain ⟨hi, e2, w2⟩ := ym g2
  obtain ⟨hk, e3, w3⟩ := zcr g3
  simp only [wm, zb0] at e0 e1 e2 e3
  refine ⟨⟨lo, lk, hi, hk⟩, ⟨w0, w2, w1, w3⟩, ?_⟩
  rcases cs with _ | ⟨a, _ | ⟨b, _ | ⟨c, _ | ⟨e, rest⟩⟩⟩⟩
  ·simp at hl
  ·simp at hl
  ·simp at hl
  ·simp at hl
  ·have hrl : rest = [] := by simpa using hl
   subst hrl
   simp at e0 e1 e2 e3
   rw [e0, e1, e2, e3]
   rfl
 ·cases h
theorem zku {H : Type} {enc : TypeId × Value -> H} {W : World} {base : Nat} {sp : Nat -> Bool} {hd : Bool} {n : Nat} {cs : List Value} {x : DataW H × List MemPlace} (h : DataW.trod enc Tryz.prog W base sp hd n 83 cs = some x) : ∃ c : V.Itv, zh6 c /\ cs = zag c :=
 zki (keyLits_of_trod (P := Tryz.prog) 2 83 itvKey n cs x h).1
theorem ziv {H : Type} {enc : TypeId × Value -> H} {W : World} {base : Nat} {sp : Nat -> Bool} {hd : Bool} {n : Nat} {cs : List Value} {x : DataW H × List MemPlace} (h : DataW.trod enc Tryz.prog W base sp hd n 66 cs = some x) : ∃ (v : Value) (l : List V.Itv), cs = [v] /\ Itvs W v l /\ (∀ c ∈ l, zh6 c) /\ l.length ≤ maxLen := by
 rcases Go.Deep.open_slice Tryz.underlying66 h with ⟨rfl, _⟩ | ⟨a, len, cap, m, n', D, Pl, rfl, hb, hl, hm, hmm, _, hx⟩
 ·exact ⟨_, [], rfl, Itvs.nil W, (fun c hc => by cases hc), Nat.zero_le _⟩
 ·have hlm : len ≤ m := by rw [hmm]; split <;> omega
  rw [zic] at hx
  have each : ∀ i, i < len -> ∃ c : V.Itv, zh6 c /\ ∀ j, j < 4 -> W.cell? ((a.add (i * 4)).add j) = (zag c)[j]? := fun i hi => by
   obtain ⟨cs', h1, h2⟩ := hx i (by omega)
   obtain ⟨c, hc, rfl⟩ := zku h2
   exact ⟨c, hc, (World.cells?_some h1).2.2⟩
  have : Inhabited V.Itv := ⟨V.noI⟩
  obtain ⟨f, hf⟩ := Go.Deep.choose_lt each
  refine ⟨_, (List.range len).map f, rfl, ⟨some a, cap, by simp, fun j hj => ?_⟩, fun c hc => ?_, ?_⟩
  ·have hj' : j < len := by simpa using hj
   have he : ((List.range len).map f)[j] = f j := by simp
   rw [he]
   obtain ⟨hw, hc⟩ := hf j hj'
   obtain ⟨b, off, spot⟩ := a
   have hspot : spot = none := by
    have h1 := (hf 0 (by omega)).2 0 (by omega)
    have h2 : (zag (f 0))[0]? = some (.string ⟨(f 0).lo.toArray⟩) := rfl
    rw [h2] at h1
    simpa [Addr.add] using World.cell?_spot h1
   subst hspot
   have g : ∀ i, i < 4 -> W.cell? ⟨b, off + j * 4 + i, none⟩ = (zag (f j))[i]? := fun i hi => by
    have := hc i hi
    rwa [jz, jz] at this
   have g0 := g 0 (by omega)
   rw [Nat.add_zero] at g0
   exact ⟨b, off, rfl, World.block_lt_of_cell? _ _ (g0.trans rfl), g0, g 1 (by omega), g 2 (by omega), g 3 (by omega)⟩
  ·obtain ⟨j, hj, rfl⟩ := List.mem_map.1 hc
   exact (hf j (by simpa using hj)).1
  ·simp only [List.length_map, List.length_range]
   omega
open Go.ChangeShapes Go.WideShapes Go.ChangeAt Go.RowKit
theorem zmn : Tryz.prog.cellsOf 2 = 1 := by kernel_rfl
theorem zmf : Tryz.prog.cellsOf 52 = 1 := by kernel_rfl
theorem zhw : Tryz.prog.cellsOf 70 = 4 := by kernel_rfl
theorem zg6 : Tryz.prog.cellsOf 54 = 4 := by kernel_rfl
theorem two_list {α : Type} {l : List α} {a b : α} (hl : l.length = 2) (h0 : l.take 1 = [a]) (h1 : (l.drop 1).take 1 = [b]) : l = [a, b] := by
 match l, hl with
 | [c, d], _ => simp at h0 h1; rw [h0, h1]
theorem zo3 {α : Type} {l : List α} {a b c d : α} (hl : l.length = 4) (h0 : l.take 1 = [a]) (h1 : (l.drop 1).take 1 = [b]) (h2 : (l.drop 2).take 1 = [c]) (h3 : (l.drop 3).take 1 = [d]) : l = [a, b, c, d] := by
 match l, hl with
 | [p, q, r, s], _ => simp at h0 h1 h2 h3; rw [h0, h1, h2, h3]
theorem itv_lens {l : List V.Itv} (h : ∀ c ∈ l, zh6 c) : Lens l := fun c hc => ⟨(h c hc).1, (h c hc).2.1⟩
theorem zlf {H : Type} {enc : TypeId × Value -> H} {W : World} {base : Nat} {sp : Nat -> Bool} {hd : Bool} {n : Nat} {cs : List Value} {x : DataW H × List MemPlace} (h : DataW.trod enc Tryz.prog W base sp hd n 68 cs = some x) :
  ∃ (r : Int) (u : Value) (l : List V.Itv), cs = [.int .i64 r, u] /\ Itvs W u l /\ (∀ c ∈ l, zh6 c) /\ l.length ≤ maxLen := by
 obtain ⟨xs, n, _, _, hl, hlen0, hx⟩ := DataW.trod_struct Tryz.underlying68 h
 obtain ⟨y0, y1, rfl⟩ : ∃ y0 y1, xs = [y0, y1] := by
  match xs, hlen0 with
  | [y0, y1], _ => exact ⟨_, _, rfl⟩
 have h0 : DataW.trod enc Tryz.prog W base sp hd n 3 ((cs.drop 0).take (Tryz.prog.cellsOf 3)) = some y0 := hx 0 _ rfl
 have h1 : DataW.trod enc Tryz.prog W base sp hd n 66 ((cs.drop 1).take (Tryz.prog.cellsOf 66)) = some y1 := hx 1 _ rfl
 obtain ⟨sc, e0, _, _⟩ := DataW.trod_int Tryz.underlying3 h0
 obtain ⟨v', l, e1, hc, hw, hlen⟩ := ziv h1
 rw [wm] at e0
 rw [zl2] at e1
 exact ⟨sc, v', l, two_list (by rw [← zh9]; exact hl) e0 e1, hc, hw, hlen⟩
theorem zlj {H : Type} {enc : TypeId × Value -> H} {W : World} {base : Nat} {sp : Nat -> Bool} {hd : Bool} {n : Nat} {cs : List Value} {x : DataW H × List MemPlace} (h : DataW.trod enc Tryz.prog W base sp hd n 70 cs = some x) :
  ∃ (a : V.Aff) (ua : Option Addr) (uc : Nat), cs = [.int .i64 a.sch, .string ⟨a.name.toArray⟩, .int .i64 a.rs, .slice ua a.its.length uc] /\ AffWf a /\ Itvs W (.slice ua a.its.length uc) a.its := by
 obtain ⟨y0, y1, y2, n, _, hl, h0, h1, h2⟩ := Go.Deep.trod_struct3 Tryz.underlying70 h
 obtain ⟨sc, e0, _, _⟩ := DataW.trod_int Tryz.underlying3 h0
 obtain ⟨nm, e1, w1⟩ := ym (keyLits_of_trod (P := Tryz.prog) 2 9 (by kernel_rfl) n _ _ h1).1
 obtain ⟨rs, u, its, e2, hi, hw, hlen⟩ := zlf h2
 rw [wm] at e0
 rw [zb0] at e1
 rw [zh9] at e2
 obtain ⟨ua, uc, rfl⟩ := hi.slice
 have a0 : cs.take 1 = [.int .i64 sc] := e0
 have a1 : (cs.drop 1).take 1 = [.string ⟨nm.toArray⟩] := e1
 have a2 : (cs.drop 2).take 2 = [.int .i64 rs, .slice ua its.length uc] := e2
 have hl4 : cs.length = 4 := by rw [← zhw]; exact hl
 refine ⟨⟨sc, nm, rs, its⟩, ua, uc, ?_, ⟨w1, itv_lens hw, hlen⟩, hi⟩
 match cs, hl4 with
 | [p, q, r, s], _ =>
  simp at a0 a1 a2
  rw [a0, a1, a2.1, a2.2]
theorem zil {H : Type} {enc : TypeId × Value -> H} {W : World} {base : Nat} {sp : Nat -> Bool} {hd : Bool} {n : Nat} {cs : List Value} {x : DataW H × List MemPlace} (h : DataW.trod enc Tryz.prog W base sp hd n 52 cs = some x) : ∃ (v : Value) (l : List V.Aff), cs = [v] /\ Affs W v l /\ l.length ≤ maxLen := by
 rcases Go.Deep.open_slice Tryz.underlying52 h with ⟨rfl, _⟩ | ⟨a, len, cap, m, n', D, Pl, rfl, hb, hl, hm, hmm, _, hx⟩
 ·exact ⟨_, [], rfl, Affs.nil W, Nat.zero_le _⟩
 ·have hlm : len ≤ m := by rw [hmm]; split <;> omega
  rw [zhw] at hx
  have each : ∀ i, i < len -> ∃ c : V.Aff × Option Addr × Nat, (AffWf c.1 /\ Itvs W (.slice c.2.1 c.1.its.length c.2.2) c.1.its) /\ ∀ j, j < 4 -> W.cell? ((a.add (i * 4)).add j) = [Value.int .i64 c.1.sch, .string ⟨c.1.name.toArray⟩, .int .i64 c.1.rs, .slice c.2.1 c.1.its.length c.2.2][j]? := fun i hi => by
   obtain ⟨cs', h1, h2⟩ := hx i (by omega)
   obtain ⟨c, ua, uc, rfl, hw, hi⟩ := zlj h2
   exact ⟨⟨c, ua, uc⟩, ⟨hw, hi⟩, (World.cells?_some h1).2.2⟩
  have : Inhabited (V.Aff × Option Addr × Nat) := ⟨⟨⟨0, [], 0, []⟩, none, 0⟩⟩
  obtain ⟨f, hf⟩ := Go.Deep.choose_lt each
  refine ⟨_, (List.range len).map fun i => (f i).1, rfl, ⟨some a, cap, by simp, fun j hj => ?_⟩, ?_⟩
  ·have hj' : j < len := by simpa using hj
   have he : ((List.range len).map fun i => (f i).1)[j] = (f j).1 := by simp
   rw [he]
   obtain ⟨⟨hw, hi⟩, hc⟩ := hf j hj'
   obtain ⟨b, off, spot⟩ := a
   have hspot : spot = none := by
    have h1 := (hf 0 (by omega)).2 0 (by omega)
    rw [List.getElem?_cons_zero] at h1
    simpa [Addr.add] using World.cell?_spot h1
   subst hspot
   have g : ∀ i, i < 4 -> W.cell? ⟨b, off + j * 4 + i, none⟩ = [Value.int .i64 (f j).1.sch, .string ⟨(f j).1.name.toArray⟩, .int .i64 (f j).1.rs, .slice (f j).2.1 (f j).1.its.length (f j).2.2][i]? := fun i hi => by
    have := hc i hi
    rwa [jz, jz] at this
   have g0 := g 0 (by omega)
   rw [Nat.add_zero] at g0
   exact ⟨hw, b, off, (f j).2.1, (f j).2.2, rfl, World.block_lt_of_cell? _ _ (g0.trans rfl), ⟨g0, g 1 (by omega), g 2 (by omega), g 3 (by omega), hi⟩⟩
  ·simp only [List.length_map, List.length_range]
   omega
end Go.Proofs.YtbikeahmldobkaaGreatDoor
