/-
  Lemmas for the law.
-/
import Derived.Test.YtnhfaincdabdkaaGreatDoorC37x21
import Derived.Test.YtnhfaincdabdkaaGreatDoorC37x34
import Derived.Test.YtnhfaincdabdkaaGreatDoorC37x45
import Derived.Test.YtnhfaincdabdkaaGreatDoorC37x39
import Derived.Test.YtnhfaincdabdkaaGreatDoorC37x41
import Derived.Test.YtnhfaincdabdkaaGreatDoorC37x46
import Derived.ProofKit
import Derived.DeepKeys5
import Derived.Deep.Strs
set_option linter.all false
set_option maxRecDepth 100000
set_option maxHeartbeats 6400000
namespace Go.Proofs.YtnhfaincdabdkaaGreatDoor
open Go.ChangeShapes Go.WideShapes Go.ChangeAt Go.RowKit
theorem zkw {α β : Type} {f : α -> Option β} : ∀ {l : List α} {r : List β}, l.mapM f = some r -> ∀ x ∈ l, ∃ y, f x = some y
 | [], _, _, x, hx => by simp at hx
 | a :: l, r, h, x, hx => by
  rw [List.mapM_cons] at h
  cases ha : f a with
  | none => rw [ha] at h; cases h
  | some b =>
   rw [ha] at h
   cases hl : l.mapM f with
   | none => rw [hl] at h; cases h
   | some bs =>
    rcases List.mem_cons.1 hx with rfl | hx
    ·exact ⟨b, ha⟩
    ·exact zkw hl x hx
theorem zbi (b o i : Nat) : (⟨b, o, none⟩ : Addr).add i = ⟨b, o + i, none⟩ := Addr.add_mid b o i
theorem zbq : Tryz.prog.cellsOf 3 = 1 := by kernel_rfl
theorem zdt : Tryz.prog.cellsOf 9 = 1 := by kernel_rfl
theorem zk2 : Tryz.prog.cellsOf 120 = 4 := by kernel_rfl
theorem zpf : Tryz.prog.cellsOf 46 = 1 := by kernel_rfl
theorem zky : Tryz.prog.cellsOf 48 = 2 := by kernel_rfl
theorem itvKey : Tryz.prog.keyTypeAt 2 120 = true := by kernel_rfl
def zb1 (x : V.Itv) : List Value := [.string ⟨x.lo.toArray⟩, .int .i64 x.lk, .string ⟨x.hi.toArray⟩, .int .i64 x.hk]
theorem zeq {d : Nat} {cs : List Value} {l : List Lit} (h : Tryz.prog.keyLits d 3 cs = some l) : ∃ n, cs = [.int .i64 n] /\ (Lit.int .i64 n).wf = true := by
 obtain ⟨n, hc, hl⟩ := keyLits_int' Tryz.underlying3 h
 exact ⟨n, hc, keyLits_wf h (.int .i64 n) (by rw [hl]; simp)⟩
theorem wg {d : Nat} {cs : List Value} {l : List Lit} (h : Tryz.prog.keyLits d 9 cs = some l) : ∃ s : V.Bs, cs = [.string ⟨s.toArray⟩] /\ s.length ≤ maxLen := by
 obtain ⟨s, hc, hl⟩ := keyLits_string' Tryz.underlying9 h
 exact ⟨s.data.toList, by rw [hc], keyLits_wf h (.string s.data.toList) (by rw [hl]; simp)⟩
theorem zgc {P : Program} {d : Nat} {t : TypeId} {cs : List Value} {fs : Array Field} (hu : P.underlying t = some (.struct fs)) : P.keyLits (d + 1) t cs =
  (if cs.length = P.cellsOf t /\ fs.all (·.name != "_") = true then (fs.toList.mapM fun f => P.keyLits d f.type ((cs.drop f.offset).take (P.cellsOf f.type))).map List.flatten else none) := by
 conv => lhs; unfold Program.keyLits
 rw [hu]
def zku (x : V.Itv) : Prop := x.lo.length ≤ maxLen /\ x.hi.length ≤ maxLen /\ (Lit.int .i64 x.lk).wf = true /\ (Lit.int .i64 x.hk).wf = true
theorem znq {d : Nat} {cs : List Value} {l : List Lit} (h : Tryz.prog.keyLits (d + 1) 120 cs = some l) : ∃ x : V.Itv, zku x /\ cs = zb1 x := by
 rw [zgc Tryz.underlying120] at h
 split at h
 ·rename_i hc
  have hl := hc.1
  rw [zk2] at hl
  simp only [Option.map_eq_some_iff] at h
  obtain ⟨r, hr, _⟩ := h
  have hall := zkw hr
  simp only [List.mem_cons, List.not_mem_nil, or_false, forall_eq_or_imp, forall_eq] at hall
  obtain ⟨⟨_, g0⟩, ⟨_, g1⟩, ⟨_, g2⟩, ⟨_, g3⟩⟩ := hall
  obtain ⟨lo, e0, w0⟩ := wg g0
  obtain ⟨lk, e1, w1⟩ := zeq g1
  obtain ⟨hi, e2, w2⟩ := wg g2
  obtain ⟨hk, e3, w3⟩ := zeq g3
  simp only [zbq, zdt] at e0 e1 e2 e3
  refine ⟨⟨lo, lk, hi, hk⟩, ⟨w0, w2, w1, w3⟩, ?_⟩
  rcases cs with _ | ⟨a, _ | ⟨b, _ | ⟨c, _ | ⟨e, rest⟩⟩⟩⟩
  ·simp at hl
  ·simp at hl
  ·simp at hl
  ·simp at hl
  ·have hrl : rest = [] := by simpa using hl
   subst hrl
   simp at e0 e1 e2 e3
   rw [e0, e1, e2, e3]
   rfl
 ·cases h
theorem znx {H : Type} {enc : TypeId × Value -> H} {W : World} {base : Nat} {sp : Nat -> Bool} {hd : Bool} {n : Nat} {cs : List Value} {x : DataW H × List MemPlace} (h : DataW.trod enc Tryz.prog W base sp hd n 120 cs = some x) : ∃ c : V.Itv, zku c /\ cs = zb1 c :=
 znq (keyLits_of_trod (P := Tryz.prog) 2 120 itvKey n cs x h).1
theorem zll {H : Type} {enc : TypeId × Value -> H} {W : World} {base : Nat} {sp : Nat -> Bool} {hd : Bool} {n : Nat} {cs : List Value} {x : DataW H × List MemPlace} (h : DataW.trod enc Tryz.prog W base sp hd n 46 cs = some x) : ∃ (v : Value) (l : List V.Itv), cs = [v] /\ Itvs W v l /\ (∀ c ∈ l, zku c) /\ l.length ≤ maxLen := by
 rcases Go.Deep.open_slice Tryz.underlying46 h with ⟨rfl, _⟩ | ⟨a, len, cap, m, n', D, Pl, rfl, hb, hl, hm, hmm, _, hx⟩
 ·exact ⟨_, [], rfl, Itvs.nil W, (fun c hc => by cases hc), Nat.zero_le _⟩
 ·have hlm : len ≤ m := by rw [hmm]; split <;> omega
  rw [zk2] at hx
  have each : ∀ i, i < len -> ∃ c : V.Itv, zku c /\ ∀ j, j < 4 -> W.cell? ((a.add (i * 4)).add j) = (zb1 c)[j]? := fun i hi => by
   obtain ⟨cs', h1, h2⟩ := hx i (by omega)
   obtain ⟨c, hc, rfl⟩ := znx h2
   exact ⟨c, hc, (World.cells?_some h1).2.2⟩
  have : Inhabited V.Itv := ⟨V.noI⟩
  obtain ⟨f, hf⟩ := Go.Deep.choose_lt each
  refine ⟨_, (List.range len).map f, rfl, ⟨some a, cap, by simp, fun j hj => ?_⟩, fun c hc => ?_, ?_⟩
  ·have hj' : j < len := by simpa using hj
   have he : ((List.range len).map f)[j] = f j := by simp
   rw [he]
   obtain ⟨hw, hc⟩ := hf j hj'
   obtain ⟨b, off, spot⟩ := a
   have hspot : spot = none := by
    have h1 := (hf 0 (by omega)).2 0 (by omega)
    have h2 : (zb1 (f 0))[0]? = some (.string ⟨(f 0).lo.toArray⟩) := rfl
    rw [h2] at h1
    simpa [Addr.add] using World.cell?_spot h1
   subst hspot
   have g : ∀ i, i < 4 -> W.cell? ⟨b, off + j * 4 + i, none⟩ = (zb1 (f j))[i]? := fun i hi => by
    have := hc i hi
    rwa [zbi, zbi] at this
   have g0 := g 0 (by omega)
   rw [Nat.add_zero] at g0
   exact ⟨b, off, rfl, World.block_lt_of_cell? _ _ (g0.trans rfl), g0, g 1 (by omega), g 2 (by omega), g 3 (by omega)⟩
  ·obtain ⟨j, hj, rfl⟩ := List.mem_map.1 hc
   exact (hf j (by simpa using hj)).1
  ·simp only [List.length_map, List.length_range]
   omega
open Go.ChangeShapes Go.WideShapes Go.ChangeAt Go.RowKit
def RetB (e : Ending) : Prop := ∃ r : Bool, e = .returned (.bool r)
theorem RetB.of {e : Ending} (r : Bool) (h : e = .returned (.bool r)) : RetB e := ⟨r, h⟩
theorem zwh {P : Prop} (h : P := by
 go_enter Tryz.func40, Tryz.ntmps40
 go_wp2
 go_ret
 exact ⟨RetB.of false rfl, HB.out⟩) : P := h
theorem few_any (x : V.Adv) (v : Value) (w : World) (hv : Affs w v x.aff) (hl : x.aff.length ≤ maxLen) :
  Calls Tryz.prog 40 #[advV x v] w fun e w' => RetB e /\ Below w.heap.size w w' := by
 obtain ⟨pa, pc, rfl⟩ := hv.slice
 obtain ⟨hb, c0, c1, c2, c3⟩ := uj x (.slice pa x.aff.length pc) w
 have HV := zs8 (hv.below hb)
 have HB := zs8 hb
 have HBX : Hid (w.heap.size < (w.alloc (.cells #[.string ⟨x.id.toArray⟩, .int .i64 x.rev, .int .i64 x.sev, .slice pa x.aff.length pc] 41)).heap.size) := zs8 (by simp)
 unfold maxLen at hl
 clear hv hb
 unfold advV
 by_cases h1 : (100 : Int) < (x.id.length : Int)
 case pos =>
  exact zwh
 by_cases h2 : (20 : Int) < (x.aff.length : Int)
 case pos =>
  exact zwh
 go_enter Tryz.func40, Tryz.ntmps40
 go_wp2_with fail
 clear h1 h2
 generalize w.alloc (.cells #[.string ⟨x.id.toArray⟩, .int .i64 x.rev, .int .i64 x.sev, .slice pa x.aff.length pc] 41) = w0 at *
 go_loopw [3] (fun iv W => ∃ k : Nat, k ≤ x.aff.length /\ iv = .int .i64 k /\ W = w0) (fun iv _ => x.aff.length - (intOf iv).toNat)
 case atStart => exact ⟨0, Nat.zero_le _, rfl, rfl⟩
 case round =>
  obtain ⟨k, hk, rfl, rfl⟩ := hrel
  by_cases hlt : k < x.aff.length
  ·obtain ⟨hwf, b, off, ua, uc, rfl, hb0, hx⟩ := HV.out.at k hlt
   have i1 : (0 : Int) ≤ (k : Int) := by omega
   have i2 : (k : Int) < (x.aff.length : Int) := by omega
   have wr1 : IntKind.i64.wrap ((k : Int) + 1) = (k : Int) + 1 := IntWalk.i64_in _ (by omega)
   have e0 := hx.c0
   have e1 := hx.c1
   have e2 := hx.c2
   have e3 := hx.c3
   clear hx hwf HV
   by_cases h1 : (300 : Int) < (x.aff[k].name.length : Int)
   case pos =>
    go_wp2
    go_ret
    exact ⟨RetB.of false rfl, HB.out⟩
   by_cases h2 : (40 : Int) < (x.aff[k].its.length : Int)
   case pos =>
    go_wp2
    go_ret
    exact ⟨RetB.of false rfl, HB.out⟩
   go_wp2
   go_roundw
   case rel => exact ⟨k + 1, by omega, by go_num, trivial⟩
   case measure => simp [intOf]; omega
  ·obtain rfl : k = x.aff.length := by omega
   go_wp2
   go_ret
   exact ⟨RetB.of true rfl, HB.out⟩
theorem zp6 : Tryz.prog.cellsOf 2 = 1 := by kernel_rfl
theorem zpv : Tryz.prog.cellsOf 39 = 1 := by kernel_rfl
theorem zki : Tryz.prog.cellsOf 50 = 4 := by kernel_rfl
theorem zr2 : Tryz.prog.cellsOf 41 = 4 := by kernel_rfl
theorem two_list {α : Type} {l : List α} {a b : α} (hl : l.length = 2) (h0 : l.take 1 = [a]) (h1 : (l.drop 1).take 1 = [b]) : l = [a, b] := by
 match l, hl with
 | [c, d], _ => simp at h0 h1; rw [h0, h1]
theorem zs1 {α : Type} {l : List α} {a b c d : α} (hl : l.length = 4) (h0 : l.take 1 = [a]) (h1 : (l.drop 1).take 1 = [b]) (h2 : (l.drop 2).take 1 = [c]) (h3 : (l.drop 3).take 1 = [d]) : l = [a, b, c, d] := by
 match l, hl with
 | [p, q, r, s], _ => simp at h0 h1 h2 h3; rw [h0, h1, h2, h3]
theorem itv_lens {l : List V.Itv} (h : ∀ c ∈ l, zku c) : Lens l := fun c hc => ⟨(h c hc).1, (h c hc).2.1⟩
theorem zos {H : Type} {enc : TypeId × Value -> H} {W : World} {base : Nat} {sp : Nat -> Bool} {hd : Bool} {n : Nat} {cs : List Value} {x : DataW H × List MemPlace} (h : DataW.trod enc Tryz.prog W base sp hd n 48 cs = some x) :
  ∃ (r : Int) (u : Value) (l : List V.Itv), cs = [.int .i64 r, u] /\ Itvs W u l /\ (∀ c ∈ l, zku c) /\ l.length ≤ maxLen := by
 obtain ⟨xs, n, _, _, hl, hlen0, hx⟩ := DataW.trod_struct Tryz.underlying48 h
 obtain ⟨y0, y1, rfl⟩ : ∃ y0 y1, xs = [y0, y1] := by
  match xs, hlen0 with
  | [y0, y1], _ => exact ⟨_, _, rfl⟩
 have h0 : DataW.trod enc Tryz.prog W base sp hd n 3 ((cs.drop 0).take (Tryz.prog.cellsOf 3)) = some y0 := hx 0 _ rfl
 have h1 : DataW.trod enc Tryz.prog W base sp hd n 46 ((cs.drop 1).take (Tryz.prog.cellsOf 46)) = some y1 := hx 1 _ rfl
 obtain ⟨sc, e0, _, _⟩ := DataW.trod_int Tryz.underlying3 h0
 obtain ⟨v', l, e1, hc, hw, hlen⟩ := zll h1
 rw [zbq] at e0
 rw [zpf] at e1
 exact ⟨sc, v', l, two_list (by rw [← zky]; exact hl) e0 e1, hc, hw, hlen⟩
theorem zou {H : Type} {enc : TypeId × Value -> H} {W : World} {base : Nat} {sp : Nat -> Bool} {hd : Bool} {n : Nat} {cs : List Value} {x : DataW H × List MemPlace} (h : DataW.trod enc Tryz.prog W base sp hd n 50 cs = some x) :
  ∃ (a : V.Aff) (ua : Option Addr) (uc : Nat), cs = [.int .i64 a.sch, .string ⟨a.name.toArray⟩, .int .i64 a.rs, .slice ua a.its.length uc] /\ AffWf a /\ Itvs W (.slice ua a.its.length uc) a.its := by
 obtain ⟨y0, y1, y2, n, _, hl, h0, h1, h2⟩ := Go.Deep.trod_struct3 Tryz.underlying50 h
 obtain ⟨sc, e0, _, _⟩ := DataW.trod_int Tryz.underlying3 h0
 obtain ⟨nm, e1, w1⟩ := wg (keyLits_of_trod (P := Tryz.prog) 2 9 (by kernel_rfl) n _ _ h1).1
 obtain ⟨rs, u, its, e2, hi, hw, hlen⟩ := zos h2
 rw [zbq] at e0
 rw [zdt] at e1
 rw [zky] at e2
 obtain ⟨ua, uc, rfl⟩ := hi.slice
 have a0 : cs.take 1 = [.int .i64 sc] := e0
 have a1 : (cs.drop 1).take 1 = [.string ⟨nm.toArray⟩] := e1
 have a2 : (cs.drop 2).take 2 = [.int .i64 rs, .slice ua its.length uc] := e2
 have hl4 : cs.length = 4 := by rw [← zki]; exact hl
 refine ⟨⟨sc, nm, rs, its⟩, ua, uc, ?_, ⟨w1, itv_lens hw, hlen⟩, hi⟩
 match cs, hl4 with
 | [p, q, r, s], _ =>
  simp at a0 a1 a2
  rw [a0, a1, a2.1, a2.2]
theorem zlf {H : Type} {enc : TypeId × Value -> H} {W : World} {base : Nat} {sp : Nat -> Bool} {hd : Bool} {n : Nat} {cs : List Value} {x : DataW H × List MemPlace} (h : DataW.trod enc Tryz.prog W base sp hd n 39 cs = some x) : ∃ (v : Value) (l : List V.Aff), cs = [v] /\ Affs W v l /\ l.length ≤ maxLen := by
 rcases Go.Deep.open_slice Tryz.underlying39 h with ⟨rfl, _⟩ | ⟨a, len, cap, m, n', D, Pl, rfl, hb, hl, hm, hmm, _, hx⟩
 ·exact ⟨_, [], rfl, Affs.nil W, Nat.zero_le _⟩
 ·have hlm : len ≤ m := by rw [hmm]; split <;> omega
  rw [zki] at hx
  have each : ∀ i, i < len -> ∃ c : V.Aff × Option Addr × Nat, (AffWf c.1 /\ Itvs W (.slice c.2.1 c.1.its.length c.2.2) c.1.its) /\ ∀ j, j < 4 -> W.cell? ((a.add (i * 4)).add j) = [Value.int .i64 c.1.sch, .string ⟨c.1.name.toArray⟩, .int .i64 c.1.rs, .slice c.2.1 c.1.its.length c.2.2][j]? := fun i hi => by
   obtain ⟨cs', h1, h2⟩ := hx i (by omega)
   obtain ⟨c, ua, uc, rfl, hw, hi⟩ := zou h2
   exact ⟨⟨c, ua, uc⟩, ⟨hw, hi⟩, (World.cells?_some h1).2.2⟩
  have : Inhabited (V.Aff × Option Addr × Nat) := ⟨⟨⟨0, [], 0, []⟩, none, 0⟩⟩
  obtain ⟨f, hf⟩ := Go.Deep.choose_lt each
  refine ⟨_, (List.range len).map fun i => (f i).1, rfl, ⟨some a, cap, by simp, fun j hj => ?_⟩, ?_⟩
  ·have hj' : j < len := by simpa using hj
   have he : ((List.range len).map fun i => (f i).1)[j] = (f j).1 := by simp
   rw [he]
   obtain ⟨⟨hw, hi⟩, hc⟩ := hf j hj'
   obtain ⟨b, off, spot⟩ := a
   have hspot : spot = none := by
    have h1 := (hf 0 (by omega)).2 0 (by omega)
    rw [List.getElem?_cons_zero] at h1
    simpa [Addr.add] using World.cell?_spot h1
   subst hspot
   have g : ∀ i, i < 4 -> W.cell? ⟨b, off + j * 4 + i, none⟩ = [Value.int .i64 (f j).1.sch, .string ⟨(f j).1.name.toArray⟩, .int .i64 (f j).1.rs, .slice (f j).2.1 (f j).1.its.length (f j).2.2][i]? := fun i hi => by
    have := hc i hi
    rwa [zbi, zbi] at this
   have g0 := g 0 (by omega)
   rw [Nat.add_zero] at g0
   exact ⟨hw, b, off, (f j).2.1, (f j).2.2, rfl, World.block_lt_of_cell? _ _ (g0.trans rfl), ⟨g0, g 1 (by omega), g 2 (by omega), g 3 (by omega), hi⟩⟩
  ·simp only [List.length_map, List.length_range]
   omega
theorem read_adv {H : Type} {enc : TypeId × Value -> H} {W : World} {base : Nat} {v : Value} {d : DataW H} {p : List MemPlace} (hv : Value.okWide Tryz.prog W .any base 41 v)
  (h : DataW.Trod enc Tryz.prog W 0 (fun _ => true) true 41 v d p) : ∃ (x : V.Adv) (u : Value), v = advV x u /\ Affs W u x.aff /\ x.id.length ≤ maxLen /\ x.aff.length ≤ maxLen := by
 obtain ⟨cs, rfl, hsz⟩ := okWide_struct Tryz.underlying41 hv
 obtain ⟨fuel0, hf⟩ := h
 obtain ⟨xs, n, _, _, hl, hlen0, hx⟩ := DataW.trod_struct Tryz.underlying41 hf
 obtain ⟨y0, y1, y2, y3, rfl⟩ : ∃ y0 y1 y2 y3, xs = [y0, y1, y2, y3] := by
  match xs, hlen0 with
  | [y0, y1, y2, y3], _ => exact ⟨_, _, _, _, rfl⟩
 have h0 : DataW.trod enc Tryz.prog W 0 (fun _ => true) true n 9 ((cs.toList.drop 0).take (Tryz.prog.cellsOf 9)) = some y0 := hx 0 _ rfl
 have h1 : DataW.trod enc Tryz.prog W 0 (fun _ => true) true n 2 ((cs.toList.drop 1).take (Tryz.prog.cellsOf 2)) = some y1 := hx 1 _ rfl
 have h2 : DataW.trod enc Tryz.prog W 0 (fun _ => true) true n 3 ((cs.toList.drop 2).take (Tryz.prog.cellsOf 3)) = some y2 := hx 2 _ rfl
 have h3 : DataW.trod enc Tryz.prog W 0 (fun _ => true) true n 39 ((cs.toList.drop 3).take (Tryz.prog.cellsOf 39)) = some y3 := hx 3 _ rfl
 obtain ⟨nm, e0, w0⟩ := wg (keyLits_of_trod (P := Tryz.prog) 2 9 (by kernel_rfl) n _ _ h0).1
 obtain ⟨rv, e1, _, _⟩ := DataW.trod_int Tryz.underlying2 h1
 obtain ⟨sv, e2, _, _⟩ := DataW.trod_int Tryz.underlying3 h2
 obtain ⟨u, l, e3, hc, hlen⟩ := zlf h3
 rw [zdt] at e0
 rw [zp6] at e1
 rw [zbq] at e2
 rw [zpv] at e3
 have hl4 : cs.toList.length = 4 := by rw [← zr2]; exact hl
 have ec : cs.toList = [.string ⟨nm.toArray⟩, .int .i64 rv, .int .i64 sv, u] := zs1 hl4 e0 e1 e2 e3
 refine ⟨⟨nm, rv, sv, l⟩, u, ?_, hc, w0, hlen⟩
 unfold advV
 rw [← ec]
open Go.RowKit
theorem zox {o : Oper} {ev : Operand -> Value} {w : World} {x : Operand} {v : Value} {s : ByteArray} (ho : o.op = .convert 22 9 x) (hx : ev x = v) (h : (convert 22 9 v).run Tryz.prog w = .ok (.string s) w) : (execOp ev o).run Tryz.prog w = .ok (.value (.string s)) w := by
 unfold execOp
 simp only [ho, hx, Sem.run_bind, h, Result.andThen_ok, Sem.run_pure]
theorem V.enc_posV {x : V.Adv} (h : (V.encV x).2 = 0) : 0 < (V.encV x).1.length := by
 unfold V.encV at h ⊢
 split
 ·split
  ·exact V.doc_pos
  ·rename_i h1 h2
   rw [if_pos h1, if_neg h2] at h
   exact absurd h h2
 ·rename_i h1
  rw [if_neg h1] at h
  cases h
theorem V.enc_nilV {x : V.Adv} (h : ¬ (V.encV x).2 = 0) : (V.encV x).1 = [] := by
 unfold V.encV at h ⊢
 split
 ·rename_i h1
  rw [if_pos h1] at h
  split
  ·rename_i h2
   rw [if_pos h2] at h
   exact absurd rfl h
  ·rfl
 ·rfl
theorem EncV.conv {x : V.Adv} {w w' : World} {e : Ending} (h : EncV x w e w') : ∃ u, e = .returned (.tuple #[u, .int .i64 (V.encV x).2]) /\ Below w.heap.size w w' /\
  ∀ W, Below w'.heap.size w' W -> (convert 22 9 u).run Tryz.prog W = .ok (.string ⟨(V.encV x).1.toArray⟩) W := by
 by_cases hc : (V.encV x).2 = 0
 ·obtain ⟨u, N, W0, rfl, hb⟩ := h.1 hc
  refine ⟨u, by rw [hc], h.2.2, fun W hW => zqz (hb.bytesInA.below hW) (V.enc_posV hc)⟩
 ·exact ⟨_, h.2.1 hc, h.2.2, fun W _ => by rw [V.enc_nilV hc]; exact zn7 W⟩
theorem ziy (x : V.Adv) (v : Value) (w : World) (hm : zk w) (hp : zcj w) (hv : Affs w v x.aff) (hid : x.id.length ≤ maxLen) (hl : x.aff.length ≤ maxLen) :
  Calls Tryz.prog 24 #[advV x v] w (EncV x w) := by
 obtain ⟨pa, pc, rfl⟩ := hv.slice
 obtain ⟨hb, c0, c1, c2, c3⟩ := uj x (.slice pa x.aff.length pc) w
 have HM1 := zs8 (hm.below hb)
 have HP1 := zs8 (hp.below hb)
 have HV1 := zs8 (hv.below hb)
 have HB1 := zs8 hb
 have HL := zs8 (And.intro hid hl)
 have H3 := zs8 c3
 have hsz1 : (w.alloc (.cells #[.string ⟨x.id.toArray⟩, .int .i64 x.rev, .int .i64 x.sev, .slice pa x.aff.length pc] 41)).heap.size = w.heap.size + 1 := by simp
 have HSZ := zs8 hsz1
 clear hm hp hv hid hl hb hsz1
 unfold advV
 go_enter Tryz.func24, Tryz.ntmps24
 go_wp2_with fail
 generalize w.alloc (.cells #[.string ⟨x.id.toArray⟩, .int .i64 x.rev, .int .i64 x.sev, .slice pa x.aff.length pc] 41) = W1 at *
 refine (zav x (.slice pa x.aff.length pc) W1 HM1.out HV1.out HL.out.1 HL.out.2).mono ?_
 rintro e w2 ⟨rfl, hb2⟩
 replace c0 := zb hb2 c0
 replace c1 := zb hb2 c1
 replace c2 := zb hb2 c2
 replace c3 := zb hb2 c3
 have HP2 := zs8 (HP1.out.below hb2)
 have HB2 := zs8 hb2
 have HBW := zs9 HB1 hb2
 clear hb2
 rcases hok : V.qa x with _ | _
 ·exact zvh
 ·have HEV : Hid (V.encV x = if V.encE (V.zx x) = 0 then (V.doc (V.zx x), 0) else ([], V.encE (V.zx x))) := zs8 (by unfold V.encV; rw [if_pos hok])
  have HOK := zs8 hok
  have HWD : Hid (∀ l ∈ V.zx x, ∀ u ∈ l, u.length ≤ maxLen) := zs8 (fun l hm u hu => by have := (V.adv_words hok l hm).2 u hu; unfold maxLen; omega)
  have hpt := V.ql hok
  have HT : Hid (1 ≤ x.rev /\ x.rev ≤ 1099511627776 /\ 1 ≤ x.sev /\ x.sev ≤ 10) := zs8 ⟨hpt.rev0, hpt.rev1, hpt.sev0, hpt.sev1⟩
  have HSN : Hid (∀ a ∈ x.aff, V.kc a = true) := zs8 (fun a ha => hpt.sound ha)
  have hl16 := hpt.len
  clear hok hpt
  go_wp2_with fail
  refine wp_region_held_drew (S := (fun W' => W'.cell? ⟨w.heap.size, 0, none⟩ = some (.string ⟨x.id.toArray⟩) /\ W'.cell? ⟨w.heap.size, 1, none⟩ = some (.int .i64 x.rev) /\ W'.cell? ⟨w.heap.size, 2, none⟩ = some (.int .i64 x.sev))) (by kernel_rfl) (by (try dsimp only); exact ⟨zb (ztb _ w2).drew c0, zb (ztb _ w2).drew c1, zb (ztb _ w2).drew c2⟩) (fun hHeld => ?_)
  refine tk 0 ?_
  refine tk 1 ?_
  refine tk 2 ?_
  refine tk 3 ?_
  refine tk 5 ?_
  refine tk 6 ?_
  refine rd 4 fun K hK => ?_
  go_simp
  refine (zd6 (by have := HT.out.1; omega) (by have := HT.out.2.1; omega) _).mono ?_
  rintro e wA ⟨rfl, hbA⟩
  try dsimp only
  have hbA2 := (ztb w2.heap.size w2).drew.trans hbA
  refine hK.out _ _ ?_ (fun hHeld => nx ?_)
  ·(try dsimp only); exact ⟨zb hbA hHeld.1, zb hbA hHeld.2.1, zb hbA hHeld.2.2⟩
  clear hK K
  refine rd 7 fun K hK => ?_
  go_simp
  refine (zd6 (by have := HT.out.2.2.1; omega) (by have := HT.out.2.2.2; omega) _).mono ?_
  rintro e wB ⟨rfl, hbB⟩
  try dsimp only
  have hbB2 := hbA2.trans (hbB.mono hbA2.size)
  refine hK.out _ _ ?_ (fun hHeld => nx ?_)
  ·(try dsimp only); exact ⟨zb hbB hHeld.1, zb hbB hHeld.2.1, zb hbB hHeld.2.2⟩
  clear hK K
  refine rd 8 fun K hK => ?_
  refine ws rfl _ _ _ _ rfl V.advW x.id (Lib.decDigits x.rev.toNat) (Lib.decDigits x.sev.toNat) rfl rfl rfl rfl ?_
  refine hK.out _ _ ?_ (fun hHeld => nx ?_)
  ·exact zub
  clear hK K
  refine rd 9 fun K hK => ?_
  have hbC : Below w2.heap.size w2 (wB.alloc (.cells (xy [V.advW, x.id, Lib.decDigits x.rev.toNat, Lib.decDigits x.sev.toNat]) 9)) := hbB2.alloc hbB2.size _
  refine wj rfl _ rfl ⟨some ⟨wB.heap.size, 0, none⟩, 4, 4⟩ rfl ?_
  refine hK.out _ _ ?_ (fun hHeld => nx ?_)
  ·exact zub
  clear hK K
  refine tk 10 ?_
  refine wpAnyH_done (by kernel_rfl) ?_ _
  have hu0 := zdy wB [V.advW, x.id, Lib.decDigits x.rev.toNat, Lib.decDigits x.sev.toNat]
  have hsC : (wB.alloc (.cells (xy [V.advW, x.id, Lib.decDigits x.rev.toNat, Lib.decDigits x.sev.toNat]) 9)).heap.size = wB.heap.size + 1 := by simp
  have hw2z : w.heap.size + 1 ≤ w2.heap.size := by rw [← HSZ.out]; exact HB2.out.size
  have hlr := LRow.one (N := w.heap.size + 1) (u := ⟨some ⟨wB.heap.size, 0, none⟩, 4, 4⟩) (by change _ ≤ (wB.alloc (.cells (xy [V.advW, x.id, Lib.decDigits x.rev.toNat, Lib.decDigits x.sev.toNat]) 9)).heap.size; rw [hsC]; have := hbB2.size; omega) hu0 (by simp)
  have hbD := hbC.alloc hbC.size (.cells #[(⟨some ⟨wB.heap.size, 0, none⟩, 4, 4⟩ : Lsl).v] 61)
  have hbE := HB2.out.trans (hbD.mono HB2.out.size)
  rw [HSZ.out] at hbE
  have y3 := zb hbD c3
  have HS0 : Hid (EncS (w.heap.size + 1) W1 (.slice (some ⟨wB.heap.size + 1, 0, none⟩) 1 1) (V.je x 0) ((wB.alloc (.cells (xy [V.advW, x.id, Lib.decDigits x.rev.toNat, Lib.decDigits x.sev.toNat]) 9)).alloc (.cells #[(⟨some ⟨wB.heap.size, 0, none⟩, 4, 4⟩ : Lsl).v] 61))) := zs8 ⟨⟨_, by rw [← hsC]; exact hlr⟩, hbE, by have := hbD.size; omega⟩
  change Exit.then _ _ _ _ ((wB.alloc (.cells (xy [V.advW, x.id, Lib.decDigits x.rev.toNat, Lib.decDigits x.sev.toNat]) 9)).alloc (.cells #[(⟨some ⟨wB.heap.size, 0, none⟩, 4, 4⟩ : Lsl).v] 61))
  try simp only [World.size_alloc]
  clear hu0 hlr hbE hHeld c0 c1 c2 hw2z hbA hbA2 hbB hbB2 hbC hbD c3
  generalize (wB.alloc (.cells (xy [V.advW, x.id, Lib.decDigits x.rev.toNat, Lib.decDigits x.sev.toNat]) 9)).alloc (.cells #[(⟨some ⟨wB.heap.size, 0, none⟩, 4, 4⟩ : Lsl).v] 61) = W4 at *
  clear hsC
  generalize wB.heap.size + 1 = b4 at *
  go_wp2
  go_loopw [4, 5] (fun ov iv wx => ∃ k : Nat, k ≤ x.aff.length /\ iv = .int .i64 k /\ EncS (w.heap.size + 1) W1 ov (V.je x k) wx) (fun _ iv _ => x.aff.length - (intOf iv).toNat)
  case atStart => exact ⟨0, Nat.zero_le _, rfl, HS0.out⟩
  case round =>
   obtain ⟨k, hk, rfl, hes⟩ := hrel
   obtain ⟨us, hrow⟩ := hes.row
   obtain ⟨oa, oc, rfl⟩ := hrow.slice
   have HR := zs8 hrow
   have HBR := zs8 hes.below
   have hNs := hes.size
   clear hrow hes HS0 y3
   have c3r : wr.cell? ⟨w.heap.size, 3, none⟩ = some (.slice pa x.aff.length pc) := (HBR.out.cell (p := ⟨w.heap.size, 3, none⟩) (Nat.lt_succ_self _)).trans H3.out
   by_cases hlt : k < x.aff.length
   ·obtain ⟨hwf, b, off, ua, uc, rfl, hblt, ha⟩ := HV1.out.at k hlt
    have HBR1 : Hid (Below W1.heap.size W1 wr) := zs8 (by rw [HSZ.out]; exact HBR.out)
    have HW := zs8 hwf
    have HA := zs8 (ha.below HBR1.out)
    have HST := zs8 (V.zdf hlt)
    have hso := HSN.out x.aff[k] (List.getElem_mem hlt)
    have HFM : Hid (V.ky x.aff[k].rs x.aff[k].its = (V.kn x.aff[k].its, 0)) := zs8 (by
      obtain ⟨_, h2, _, h4⟩ := V.xd hso
      unfold V.ky
      rw [h2, if_pos h4])
    have HLA : Hid (V.yd x.aff[k] = [V.affW, V.qb x.aff[k].sch, x.aff[k].name, V.kn x.aff[k].its]) := zs8 rfl
    rw [HLA.out] at HST
    have hi1 : (0 : Int) ≤ (k : Int) := by omega
    have hi2 : (k : Int) < (x.aff.length : Int) := by omega
    have wr1 : IntKind.i64.wrap ((k : Int) + 1) = (k : Int) + 1 := IntWalk.i64_in _ (by omega)
    clear hwf ha hso HLA
    generalize x.aff[k] = a at *
    have e0 := HA.out.c0
    have e1 := HA.out.c1
    have e2 := HA.out.c2
    have e3 := HA.out.c3
    obtain ⟨hbZ, x0, x1, x2, x3⟩ := zas a (.slice ua a.its.length uc) wr
    have HIZ := zs8 (HA.out.its.below hbZ)
    have HRZ := zs8 (HR.out.later hbZ)
    have HBZ := zs8 (HBR.out.trans (hbZ.mono hNs))
    have HMZ := zs8 (HM1.out.below (HBR1.out.trans (hbZ.mono HBR1.out.size)))
    have hzZ := hbZ.size
    have HXB : Hid (some wr.heap.size = (Value.slice oa (V.je x k).length oc).ownBlock -> False) := zs8 (fun e => by
      have := HR.out.row.lt _ e.symm
      omega)
    clear hbZ HR HBR HBR1
    go_wp2_with fail
    generalize wr.alloc (.cells #[.int .i64 a.sch, .string ⟨a.name.toArray⟩, .int .i64 a.rs, .slice ua a.its.length uc] 50) = wz at *
    generalize wr.heap.size = X at *
    clear e0 e1 e2 e3
    refine (zlb a.rs (.slice ua a.its.length uc) a.its wz HMZ.out HIZ.out HW.out.lens HW.out.len).mono ?_
    rintro e wF ⟨rfl, hbF⟩
    rw [HFM.out]
    replace x0 := zb hbF x0
    replace x1 := zb hbF x1
    replace HRZ := zs8 (HRZ.out.later hbF)
    replace HBZ := zs8 (HBZ.out.trans (hbF.mono (by omega)))
    have hzF := hbF.size
    have hNz : w.heap.size + 1 ≤ wF.heap.size := by omega
    clear hbF HIZ HMZ x2 x3
    go_wp2_with fail
    refine wp_region_held_drew (S := (fun W' => W'.cell? ⟨X, 0, none⟩ = some (.int .i64 a.sch) /\ W'.cell? ⟨X, 1, none⟩ = some (.string ⟨a.name.toArray⟩))) (by kernel_rfl) (by (try dsimp only); exact ⟨zb (ztb _ wF).drew x0, zb (ztb _ wF).drew x1⟩) (fun hHeld => ?_)
    refine tk 0 ?_
    refine tk 1 ?_
    refine tk 2 ?_
    refine tk 4 ?_
    refine tk 5 ?_
    refine tk 6 ?_
    refine rd 3 fun K hK => ?_
    go_simp
    refine (znj a.sch wF.drew).mono ?_
    exact zti
   ·obtain rfl : k = x.aff.length := by omega
    have HLN := zs8 HR.out.lines
    go_wp2_with fail
    refine (zm6 _ (V.zx x) wr HLN.out HWD.out (V.adv_sz HOK.out)).mono ?_
    exact zty
end Go.Proofs.YtnhfaincdabdkaaGreatDoor
