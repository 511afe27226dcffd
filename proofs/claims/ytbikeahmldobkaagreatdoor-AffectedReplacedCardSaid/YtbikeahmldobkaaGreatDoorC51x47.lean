/-
  Lemmas for the law.
-/
import Derived.Test.YtbikeahmldobkaaGreatDoorC51x43
import Derived.Test.YtbikeahmldobkaaGreatDoorC51x40
import Derived.Test.YtbikeahmldobkaaGreatDoorC51x46
import Derived.Test.YtbikeahmldobkaaGreatDoorC51x29
import Derived.Test.YtbikeahmldobkaaGreatDoorC51x08
import Derived.Test.YtbikeahmldobkaaGreatDoorC51x45
set_option linter.all false
set_option maxRecDepth 100000
set_option maxHeartbeats 3200000
namespace Go.Proofs.YtbikeahmldobkaaGreatDoor
open Go.RowKit
structure NS where
 n : V.Note
 u : Sd
 k : Sd
def NS.nv (x : NS) : NV := ⟨x.n, x.u.v, x.k.v⟩
def nE (x : NS) : List Value := [.string ⟨x.n.adv.id.toArray⟩, .int .i64 x.n.adv.rev, .int .i64 x.n.adv.sev, x.u.v] ++ (dE x.n.doc ++ [x.k.v])
theorem uy (x : NS) : (nE x).length = 37 := by
 unfold nE
 rw [List.length_append, List.length_append, kw]
 rfl
theorem zew (x : NS) : ∀ u ∈ nE x, u.oneCell' = true := fun u hu => by
 unfold nE at hu
 rcases List.mem_append.1 hu with hu | hu
 ·exact zyv
 ·rcases List.mem_append.1 hu with hu | hu
  ·exact zbd _ u hu
  ·rw [List.mem_singleton.1 hu]; rfl
theorem nE_nl {x : NS} (h : qh x.n.doc) : nE x = nl x.nv := by
 unfold nE nl NS.nv
 rw [zf6 h]
theorem zbh : jh 57 37 112 := by
 have h : (match Tryz.prog.info? 57 with | some i => i.size == 37 && (i.bytes == 112 && (match i.zero with | some z => z.cells.size == 37 | none => false)) | none => false) = true := by kernel_rfl
 unfold jh
 cases hq : Tryz.prog.info? 57 with
 | none => rw [hq] at h; cases h
 | some i =>
  exact zvk
structure NOwn (N : Nat) (w : World) (v : Value) (p : NS) : Prop where
 doc : qh p.n.doc
 made : V.MadeV p.n.adv
 ex : ∃ (fs : List Fs) (M M' : Nat), p.n.adv.aff = fs.map (·.1) /\ FRow M w p.u.v fs /\ (∀ q ∈ fs, ∀ c, q.2.v.ownBlock = some c -> M ≤ c /\ c < M') /\ (∀ c, p.u.v.ownBlock = some c -> c < M') /\ N ≤ M /\ M' ≤ w.heap.size /\ ∀ g, v.ownBlock = some g -> g < M ∨ M' ≤ g
theorem zxw {P : Prop} (h : P := by
 refine h2.kept hg (fun e => ?_) (fun q hq c hc => ?_)
 ·have a1 := GRow.block h2.row g e
  have a2 := h4 g e
  omega
 ·have := h3 q hq c hc
  omega) : P := h
theorem NOwn.keep {N : Nat} {w w' : World} {v : Value} {p : NS} (h : NOwn N w v p) {row : Option Nat} (hg : w.grownBy w' row) (hr : ∀ g, row = some g -> g < N ∨ v.ownBlock = some g) : NOwn N w' v p := by
 obtain ⟨fs, M, M', h1, h2, h3, h4, h5, h6, h7⟩ := h.ex
 refine ⟨h.doc, h.made, fs, M, M', h1, ?_, h3, h4, h5, Nat.le_trans h6 hg.size, h7⟩
 rcases row with _ | g
 ·exact h2.later ⟨hg.os, hg.tape, hg.output, hg.size, fun k hk => hg.block k hk (fun e => by cases e)⟩
 ·have g0 : g < M ∨ M' ≤ g := by
   rcases hr g rfl with hr | hr
   ·exact .inl (by omega)
   ·exact h7 g hr
  exact zxw
theorem NOwn.grown {N : Nat} {w w' : World} {v v' : Value} {p : NS} (h : NOwn N w v p) (hg : w.grownBy w' v.ownBlock) (ho : v'.ownBlock = v.ownBlock ∨ v'.ownBlock = some w.heap.size) : NOwn N w' v' p := by
 have hk := h.keep hg (fun g e => .inr e)
 obtain ⟨fs, M, M', h1, h2, h3, h4, h5, h6, h7⟩ := h.ex
 have g1 : FRow M w' p.u.v fs := by
  cases hv : v.ownBlock with
  | none => rw [hv] at hg; exact h2.later ⟨hg.os, hg.tape, hg.output, hg.size, fun k hk => hg.block k hk (fun e => by cases e)⟩
  | some g =>
   rw [hv] at hg
   have g2 := h7 g hv
   exact zxw
 refine ⟨h.doc, h.made, fs, M, M', h1, g1, h3, h4, h5, Nat.le_trans h6 hg.size, fun g g0 => ?_⟩
 rcases ho with ho | ho
 ·exact h7 g (by rw [← ho]; exact g0)
 ·rw [ho] at g0
  cases g0
  exact .inr h6
structure NRow (N : Nat) (w : World) (v : Value) (us : List NS) : Prop where
 row : GRow 57 37 nE w N v us
 each : ∀ p ∈ us, NOwn N w v p
theorem NRow.nil (N : Nat) (w : World) : NRow N w (.slice none 0 0) [] := ⟨GRow.nil _ _, fun p hp => by simp at hp⟩
theorem NRow.tape {N b : Nat} {w w' : World} {v : Value} {us : List NS} (h : NRow N w v us) (hg : w.grownBy w' (some b)) (hb : b < N) : NRow N w' v us :=
 ⟨jz h.row hg (fun g hv e => by cases e; have := GRow.block h.row b hv; omega), fun p hp => (h.each p hp).keep hg (fun g e => by cases e; exact .inl hb)⟩
theorem NRow.call {N : Nat} {w w' : World} {v : Value} {us : List NS} (h : NRow N w v us) (hb : Below w.heap.size w w') : NRow N w' v us :=
 ⟨GRow.below h.row hb, fun p hp => (h.each p hp).keep (zm hb none) (fun g e => by cases e)⟩
theorem NRow.add {N : Nat} {w w' : World} {v v' : Value} {us : List NS} {p : NS} (h : NRow N w v us) (hp : NOwn N w v p) (hr : GRow 57 37 nE w' N v' (us ++ [p])) (hg : w.grownBy w' v.ownBlock) (ho : v'.ownBlock = v.ownBlock ∨ v'.ownBlock = some w.heap.size) : NRow N w' v' (us ++ [p]) :=
 ⟨hr, fun q hq => by
   have h1 : NOwn N w v q := by
     rcases List.mem_append.1 hq with hq | hq
     · exact h.each q hq
     · rw [List.mem_singleton.1 hq]; exact hp
   exact h1.grown hg ho⟩
theorem its_ne {x : V.Adv} (h : V.MadeV x) : ∀ a ∈ x.aff, a.its ≠ [] := fun a ha e => by
 have := (V.zc9 (h.snd a ha)).2.2.1
 rw [e] at this
 simp at this
theorem Itvs.ltS {w : World} {v : Value} {l : List V.Itv} (h : Itvs w v l) (hl : l ≠ []) : ∀ c, v.ownBlock = some c -> c < w.heap.size := fun c hc => by
 obtain ⟨a', cap, e, g0⟩ := h
 have h0 : 0 < l.length := by
  cases l with
  | nil => exact absurd rfl hl
  | cons _ _ => simp
 obtain ⟨b, off, ea, hb, _⟩ := g0 0 h0
 rw [e, ea] at hc
 simp [Value.ownBlock] at hc
 omega
theorem NOwn.new {N b : Nat} {wa wb w : World} {v : Value} {x : V.Adv} {u : Value} {us : List Fs} {d : List Int} {ks : Sd} {su : Sd} (hu : u = su.v) (hx : V.MadeV x) (ha : x.aff = us.map (·.1)) (hf : ∀ W, wb.grownBy W (some b) -> FRow wa.heap.size W u us) (g0 : ∀ p ∈ us, ∀ c, p.2.v.ownBlock = some c -> wa.heap.size ≤ c) (hw : wb.grownBy w (some b)) (hd : qh d) (hN : N ≤ wa.heap.size) (hv : ∀ g, v.ownBlock = some g -> g < wa.heap.size) : NOwn N w v ⟨⟨x, d⟩, su, ks⟩ := by
 subst hu
 have h0 := hf wb (World.grownBy.refl _ _)
 refine ⟨hd, hx, us, wa.heap.size, wb.heap.size, ha, hf w hw, fun q hq c hc => ⟨g0 q hq c hc, ?_⟩, fun c hc => GRow.lt h0.row c hc, hN, hw.size, fun g hg => .inl (hv g hg)⟩
 have hi := (h0.each q hq).2.2.1
 have g1 : q.1.its ≠ [] := its_ne hx q.1 (by rw [ha]; exact List.mem_map_of_mem hq)
 exact Itvs.ltS hi g1 c hc
theorem NOwn.ok {N : Nat} {w : World} {v : Value} {p : NS} (h : NOwn N w v p) : NOk w p.nv := by
 obtain ⟨fs, M, M', h1, h2, _⟩ := h.ex
 refine ⟨h.doc, ?_, rfl, ?_, ?_⟩
 ·show Affs w p.u.v p.n.adv.aff
  rw [h1]; exact h2.affs
 ·have := h.made.idl; show p.n.adv.id.length ≤ maxLen; unfold maxLen; omega
 ·have := h.made.len; show p.n.adv.aff.length ≤ maxLen; unfold maxLen; omega
theorem NRow.notes {N : Nat} {w : World} {v : Value} {us : List NS} (h : NRow N w v us) : Notes w v (us.map (·.nv)) := by
 obtain ⟨a, cap, rfl, hc⟩ := GRow.gsl uy h.row
 refine ⟨a, cap, by rw [List.length_map], fun j hj => ?_⟩
 have g0 : j < us.length := by simpa using hj
 obtain ⟨g, off, ea, hg, hcell⟩ := hc j g0
 have hm := h.each _ (List.getElem_mem g0)
 rw [List.getElem_map]
 refine ⟨hm.ok, g, off, ea, hg, fun i u hu => hcell i u ?_⟩
 rw [nE_nl hm.doc]
 exact hu
def zt7 (b k most : Nat) (w : World) (e : Ending) (w' : World) : Prop := ∃ v us, e = .returned v /\ us.length ≤ most /\ NRow w.heap.size w' v us /\ Tape w' b (k + 1 + 41 * most) /\ w.grownBy w' (some b)
theorem zle (b k most : Nat) (w : World) (hm : zj w) (h : Tape w b k) (hk : k ≤ 100000) (k9 : most ≤ 100) : Calls Tryz.prog 14 #[.pointer (some ⟨b, 0, none⟩), .int .i64 most] w (zt7 b k most w) := by
 have HM := zu8 hm
 have HT := zu8 h
 have g1 := zu8 h.lt
 clear hm h
 go_enter Tryz.func14, Tryz.ntmps14
 go_wp2_with fail
 refine (jq b k ((most : Int) + 1) _ HT.out (by omega) (by omega) (by omega)).mono ?_
 rintro e w1 ⟨r, hr, rfl, ht1, hg1⟩
 have HT1 := zu8 ht1
 have HG1 := zu8 hg1
 have q0 : r ≤ most := by omega
 clear ht1 hg1 hr
 go_wp2_with fail
 go_loopw [5, 6] (fun ov iv wx => ∃ (q : Nat) (us : List NS), q + us.length ≤ most /\ iv = .int .i64 q /\ NRow w.heap.size wx ov us /\ Tape wx b (k + 1 + 41 * (most - q)) /\ w.grownBy wx (some b)) (fun _ iv _ => (intOf iv).toNat)
 case atStart => exact ⟨r, [], by simp; omega, rfl, NRow.nil _ _, HT1.out.le (by omega), HG1.out⟩
 case round =>
  obtain ⟨q, us, hq, rfl, g2, ht, hg⟩ := hrel
  have g3 := zu8 g2
  have g7 := zu8 ht
  have HG := zu8 hg
  obtain ⟨va, vc, j3⟩ := g2.row.slice
  subst j3
  clear g2 ht hg
  rcases q with _ | m
  ·go_wp2
   go_ret
   exact ⟨_, _, rfl, by omega, g3.out, g7.out.le (by omega), HG.out⟩
  ·have h0 : (0 : Int) < ((m + 1 : Nat) : Int) := by omega
   go_wp2_with fail
   refine (ze4 b (k + 1 + 41 * (most - (m + 1))) wr (HM.out.tape HT.out HG.out) g7.out (by omega)).mono ?_
   rintro e w2 ⟨x, u, fs, rfl, hx, ha, hf, g8, g9, h1⟩
   have h2 := hf w2 (World.grownBy.refl _ _)
   obtain ⟨xa, xc, h3⟩ := h2.slice
   obtain ⟨xn, h4⟩ : ∃ n, n = fs.length := ⟨_, rfl⟩
   rw [← h4] at h3
   subst h3
   have HX := zu8 hx
   have HA := zu8 ha
   have HF := zu8 hf
   have j4 := zu8 g8
   have j5 := zu8 g9
   have h5 := zu8 h1
   clear hx ha hf g8 g9 h1 h2 h4
   unfold advV
   go_wp2_with fail
   refine (jq b _ 9 _ j5.out (by omega) (by omega) (by omega)).mono ?_
   rintro e w3 ⟨r9, j6, rfl, h6, hg3⟩
   have j7 := zu8 h6
   have g4 := zu8 hg3
   have j8 : IntKind.u8.wrap (1 + (r9 : Int)) = 1 + (r9 : Int) := by rw [IntKind.wrap_u8]; omega
   have HR9 := zu8 j6
   clear h6 hg3
   go_wp2_with (first
     | (refine wpList_buildTo rfl 26 _ rfl _ rfl (dcells (dig1 (1 + (r9 : Int)))) (by kernel_rfl) ?_)
     | fail)
   refine (keys_any b _ w3 j7.out (by omega)).mono ?_
   rintro e w4 ⟨ka, kn, kc, rfl, h7, hg4⟩
   have j9 := zu8 (g4.out.trans hg4)
   have g5 := zu8 (((g3.out.tape h5.out g1.out).tape g4.out g1.out).tape hg4 g1.out)
   have k0 := zu8 (((HG.out.trans h5.out).trans g4.out).trans hg4)
   have k1 : Hid (Tape w4 b (k + 1 + 41 * (most - m))) := zu8 (h7.le (by omega))
   have k2 : Hid (qh (dig1 (1 + (r9 : Int)))) := zu8 ⟨rfl, fun n hn => by
     have h9 := HR9.out
     unfold dig1 at hn
     rcases List.mem_cons.1 hn with rfl | hn
     · simp [Lit.wf, IntKind.min, IntKind.max, IntKind.signed, IntKind.bits]; omega
     · rw [List.eq_of_mem_replicate hn]; decide⟩
   have k3 : w.heap.size ≤ wr.heap.size := HG.out.size
   have j1 : Hid (NOwn w.heap.size w4 (.slice va us.length vc) ⟨⟨x, dig1 (1 + (r9 : Int))⟩, ⟨xa, xn, xc⟩, ⟨ka, kn, kc⟩⟩) := zu8 (NOwn.new rfl HX.out HA.out HF.out j4.out j9.out k2.out k3 (fun g hg => GRow.lt g3.out.row g hg))
   have hb5 : Below w4.heap.size w4 (w4.alloc (.cells (nE ⟨⟨x, dig1 (1 + (r9 : Int))⟩, ⟨xa, xn, xc⟩, ⟨ka, kn, kc⟩⟩).toArray 57)) := (zvb _ w4).alloc (zva _) _
   have g0 := zu8 (g5.out.call hb5)
   have g6 := zu8 (j1.out.keep (zm hb5 none) (fun g e => by cases e))
   have h8 := zu8 (k0.out.trans (zm hb5 (some b)))
   have k4 := zu8 (k1.out.below hb5)
   have j2 := zu8 (GSl.one (enc := nE) (k := 37) (c := ⟨⟨x, dig1 (1 + (r9 : Int))⟩, ⟨xa, xn, xc⟩, ⟨ka, kn, kc⟩⟩) (b := w4.heap.size) (w := w4.alloc (.cells (nE ⟨⟨x, dig1 (1 + (r9 : Int))⟩, ⟨xa, xn, xc⟩, ⟨ka, kn, kc⟩⟩).toArray 57)) (by simp) (fun j u hu => by rw [World.cell?_alloc_new, List.getElem?_toArray]; exact hu))
   have j0 : w.heap.size ≤ (w4.alloc (.cells (nE ⟨⟨x, dig1 (1 + (r9 : Int))⟩, ⟨xa, xn, xc⟩, ⟨ka, kn, kc⟩⟩).toArray 57)).heap.size := h8.out.size
   have k5 := zu8 j0
   clear h7 hg4 hb5 j0 j8
   go_wp2_with (first
     | (refine wpList_buildTo rfl 57 _ rfl _ rfl (nE ⟨⟨x, dig1 (1 + (r9 : Int))⟩, ⟨xa, xn, xc⟩, ⟨ka, kn, kc⟩⟩).toArray (by kernel_rfl) ?_)
     | (refine zex uy (by decide) (by decide) zbh Tryz.underlying31 rfl _ rfl ⟨⟨x, dig1 (1 + (r9 : Int))⟩, ⟨xa, xn, xc⟩, ⟨ka, kn, kc⟩⟩ rfl ?_)
     | (refine yo uy (by decide) zew zbh (by decide) rfl _ _ 31 rfl Tryz.underlying31 w.heap.size (.slice va us.length vc) us rfl g0.out.row (.slice (some ⟨w4.heap.size, 0, none⟩) 1 1) [⟨⟨x, dig1 (1 + (r9 : Int))⟩, ⟨xa, xn, xc⟩, ⟨ka, kn, kc⟩⟩] rfl j2.out (by simp; omega) k5.out ?_
        intro v8 w8 hr8 hg8 ho8)
     | fail)
   have k6 := zu8 (g0.out.add g6.out hr8 hg8 ho8)
   have k7 : Hid (w.grownBy w8 (some b)) := zu8 (ko h8.out hg8 (fun c hc => GRow.block g0.out.row c hc))
   have HT8 : Hid (Tape w8 b (k + 1 + 41 * (most - m))) := zu8 (k4.out.grown hg8 (fun e => by have := GRow.block g0.out.row b e; have := g1.out; omega) (fun c e => by have := GRow.block g0.out.row c e; have := g1.out; omega))
   obtain ⟨v8a, v8c, k8⟩ := hr8.slice
   subst k8
   clear hr8 hg8 ho8
   have q1 : ((m + 1 : Nat) : Int) - 1 = (m : Int) := by omega
   go_wp2
   go_roundw
   case rel => exact ⟨m, _, by rw [List.length_append]; simp; omega, by go_num, k6.out, HT8.out, k7.out⟩
   case measure => simp [intOf]
theorem notes_of {w : World} {v : Value} {us : List NS} (h : GSl 37 nE w v us) (hok : ∀ p ∈ us, NOk w p.nv) : Notes w v (us.map (·.nv)) := by
 obtain ⟨a, cap, rfl, hc⟩ := h
 refine ⟨a, cap, by rw [List.length_map], fun j hj => ?_⟩
 have g0 : j < us.length := by simpa using hj
 obtain ⟨g, off, ea, hg, hcell⟩ := hc j g0
 have hm := hok _ (List.getElem_mem g0)
 rw [List.getElem_map]
 refine ⟨hm, g, off, ea, hg, fun i u hu => hcell i u ?_⟩
 rw [nE_nl hm.doc]
 exact hu
open Go.RowKit
namespace V
theorem zri {xs : List Note} {i : Int} {c : Comp} (h : ∀ x ∈ xs, cov x c = false) : ul xs i c = [] := by
 unfold ul kg
 have e : xs.filter (fun x => cov x c) = [] := List.filter_eq_nil_iff.2 fun x hx => by rw [h x hx]; simp
 rw [e]
 rfl
theorem zjw {xs : List Note} {i : Int} {c : Comp} : ∀ h ∈ ul xs i c, h.comp = i := by
 intro h hh
 unfold ul at hh
 obtain ⟨id, _, rfl⟩ := List.mem_map.1 hh
 rfl
theorem zia {xs : List Note} {l : List Comp} {j : Nat} {c : Comp} (h : ul xs j c = []) : ∀ {k : Nat}, k ≤ l.length -> jw xs (l.set j c) k = (jw xs l k).filter fun x => !decide (x.comp = (j : Int))
 | 0, _ => rfl
 | k + 1, hk => by
  rw [zdk (by rw [List.length_set]; omega), zdk (by omega), List.filter_append, zia h (by omega)]
  congr 1
  by_cases e : k = j
  ·subst e
   rw [List.getElem_set_self, h]
   exact (List.filter_eq_nil_iff.2 fun x hx => by rw [zjw x hx]; simp).symm
  ·rw [List.getElem_set_ne (Ne.symm e)]
   refine (List.filter_eq_self.2 fun x hx => ?_).symm
   rw [zjw x hx, decide_eq_false (by omega)]
   rfl
theorem cov_name {x : Note} {c : Comp} (h : ∀ a ∈ x.adv.aff, a.name ≠ c.name) : cov x c = false := by
 unfold cov covP
 have e : x.adv.aff.find? (zee c.sch c.name) = none := by
  rw [List.find?_eq_none]
  intro a ha
  unfold zee
  rw [decide_eq_false (h a ha)]
  simp
 rw [e]
theorem zuu {ok : Bool} {xs : List Note} {x : Note} {l : List Comp} (h : ∀ c ∈ l, ∀ a ∈ x.adv.aff, a.name ≠ c.name) : kt ok (xs ++ [x]) l = kt ok xs l := by
 unfold kt
 split
 ·refine zgx (fun c hc y hy => ?_) _
  rw [List.mem_append, List.mem_singleton]
  constructor
  ·rintro (q | rfl)
   ·exact q
   ·rw [cov_name (h c hc)] at hy; cases hy
  ·exact .inl
 ·rfl
end V
open Go.RowKit
def aC (a : V.Aff) (v : Value) : List Value := [.int .i64 a.sch, .string ⟨a.name.toArray⟩, .int .i64 a.rs, v]
theorem zgo : (Tryz.prog.info? 9).map (·.size) = some 1 := by kernel_rfl
end Go.Proofs.YtbikeahmldobkaaGreatDoor
