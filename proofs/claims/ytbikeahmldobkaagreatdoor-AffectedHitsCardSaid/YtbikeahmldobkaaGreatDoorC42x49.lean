/-
  Lemmas for the law.
-/
import Derived.Test.YtbikeahmldobkaaGreatDoorC42x31
import Derived.Test.YtbikeahmldobkaaGreatDoorC42x44
import Derived.Test.YtbikeahmldobkaaGreatDoorC42x47
import Derived.Test.YtbikeahmldobkaaGreatDoorC42x48
import Derived.Test.YtbikeahmldobkaaGreatDoorC42x45
import Derived.Test.YtbikeahmldobkaaGreatDoorC42x08
import Derived.Test.YtbikeahmldobkaaGreatDoorC42x02
import Derived.Test.YtbikeahmldobkaaGreatDoorCards
import Derived.Test.YtbikeahmldobkaaGreatDoorTie
import Derived.Test.YtbikeahmldobkaaGreatDoorRows
import Derived.ProofKit
import Derived.SliceStrings
import Derived.OpenShut
import Derived.Deep.DeepHandedRow
import Derived.Lib.LaidTab
import Derived.JoinedOf
set_option linter.all false
set_option maxRecDepth 100000
set_option maxHeartbeats 6400000
namespace Go.Proofs.YtbikeahmldobkaaGreatDoor
open Go.RowKit
structure NS where
 n : V.Note
 u : Sd
 k : Sd
def NS.nv (x : NS) : NV := ⟨x.n, x.u.v, x.k.v⟩
def nE (x : NS) : List Value := [.string ⟨x.n.adv.id.toArray⟩, .int .i64 x.n.adv.rev, .int .i64 x.n.adv.sev, x.u.v] ++ (dE x.n.doc ++ [x.k.v])
theorem zr5 (x : NS) : (nE x).length = 37 := by
 unfold nE
 rw [List.length_append, List.length_append, xf]
 rfl
theorem nE_one (x : NS) : ∀ u ∈ nE x, u.oneCell' = true := fun u hu => by
 unfold nE at hu
 rcases List.mem_append.1 hu with hu | hu
 ·exact zz8
 ·rcases List.mem_append.1 hu with hu | hu
  ·exact zbr _ u hu
  ·rw [List.mem_singleton.1 hu]; rfl
theorem nE_nl {x : NS} (h : qi x.n.doc) : nE x = nl x.nv := by
 unfold nE nl NS.nv
 rw [zf9 h]
theorem noteGI : jo 57 37 112 := by
 have h : (match Tryz.prog.info? 57 with | some i => i.size == 37 && (i.bytes == 112 && (match i.zero with | some z => z.cells.size == 37 | none => false)) | none => false) = true := by kernel_rfl
 unfold jo
 cases hq : Tryz.prog.info? 57 with
 | none => rw [hq] at h; cases h
 | some i =>
  exact zwh
structure NOwn (N : Nat) (w : World) (v : Value) (p : NS) : Prop where
 doc : qi p.n.doc
 made : V.MadeV p.n.adv
 ex : ∃ (fs : List Fs) (M M' : Nat), p.n.adv.aff = fs.map (·.1) /\ FRow M w p.u.v fs /\ (∀ q ∈ fs, ∀ c, q.2.v.ownBlock = some c -> M ≤ c /\ c < M') /\ (∀ c, p.u.v.ownBlock = some c -> c < M') /\ N ≤ M /\ M' ≤ w.heap.size /\ ∀ g, v.ownBlock = some g -> g < M ∨ M' ≤ g
theorem zy1 {P : Prop} (h : P := by
 refine h2.kept hg (fun e => ?_) (fun q hq c hc => ?_)
 ·have a1 := GRow.block h2.row g e
  have a2 := h4 g e
  omega
 ·have := h3 q hq c hc
  omega) : P := h
theorem NOwn.keep {N : Nat} {w w' : World} {v : Value} {p : NS} (h : NOwn N w v p) {row : Option Nat} (hg : w.grownBy w' row) (hr : ∀ g, row = some g -> g < N ∨ v.ownBlock = some g) : NOwn N w' v p := by
 obtain ⟨fs, M, M', h1, h2, h3, h4, h5, h6, h7⟩ := h.ex
 refine ⟨h.doc, h.made, fs, M, M', h1, ?_, h3, h4, h5, Nat.le_trans h6 hg.size, h7⟩
 rcases row with _ | g
 ·exact h2.later ⟨hg.os, hg.tape, hg.output, hg.size, fun k hk => hg.block k hk (fun e => by cases e)⟩
 ·have g0 : g < M ∨ M' ≤ g := by
   rcases hr g rfl with hr | hr
   ·exact .inl (by omega)
   ·exact h7 g hr
  exact zy1
theorem NOwn.grown {N : Nat} {w w' : World} {v v' : Value} {p : NS} (h : NOwn N w v p) (hg : w.grownBy w' v.ownBlock) (ho : v'.ownBlock = v.ownBlock ∨ v'.ownBlock = some w.heap.size) : NOwn N w' v' p := by
 have hk := h.keep hg (fun g e => .inr e)
 obtain ⟨fs, M, M', h1, h2, h3, h4, h5, h6, h7⟩ := h.ex
 have g1 : FRow M w' p.u.v fs := by
  cases hv : v.ownBlock with
  | none => rw [hv] at hg; exact h2.later ⟨hg.os, hg.tape, hg.output, hg.size, fun k hk => hg.block k hk (fun e => by cases e)⟩
  | some g =>
   rw [hv] at hg
   have g2 := h7 g hv
   exact zy1
 refine ⟨h.doc, h.made, fs, M, M', h1, g1, h3, h4, h5, Nat.le_trans h6 hg.size, fun g g0 => ?_⟩
 rcases ho with ho | ho
 ·exact h7 g (by rw [← ho]; exact g0)
 ·rw [ho] at g0
  cases g0
  exact .inr h6
structure NRow (N : Nat) (w : World) (v : Value) (us : List NS) : Prop where
 row : GRow 57 37 nE w N v us
 each : ∀ p ∈ us, NOwn N w v p
theorem NRow.nil (N : Nat) (w : World) : NRow N w (.slice none 0 0) [] := ⟨GRow.nil _ _, fun p hp => by simp at hp⟩
theorem NRow.tape {N b : Nat} {w w' : World} {v : Value} {us : List NS} (h : NRow N w v us) (hg : w.grownBy w' (some b)) (hb : b < N) : NRow N w' v us :=
 ⟨kt h.row hg (fun g hv e => by cases e; have := GRow.block h.row b hv; omega), fun p hp => (h.each p hp).keep hg (fun g e => by cases e; exact .inl hb)⟩
theorem NRow.call {N : Nat} {w w' : World} {v : Value} {us : List NS} (h : NRow N w v us) (hb : Below w.heap.size w w') : NRow N w' v us :=
 ⟨GRow.below h.row hb, fun p hp => (h.each p hp).keep (zq hb none) (fun g e => by cases e)⟩
theorem NRow.add {N : Nat} {w w' : World} {v v' : Value} {us : List NS} {p : NS} (h : NRow N w v us) (hp : NOwn N w v p) (hr : GRow 57 37 nE w' N v' (us ++ [p])) (hg : w.grownBy w' v.ownBlock) (ho : v'.ownBlock = v.ownBlock ∨ v'.ownBlock = some w.heap.size) : NRow N w' v' (us ++ [p]) :=
 ⟨hr, fun q hq => by
   have h1 : NOwn N w v q := by
     rcases List.mem_append.1 hq with hq | hq
     · exact h.each q hq
     · rw [List.mem_singleton.1 hq]; exact hp
   exact h1.grown hg ho⟩
theorem its_ne {x : V.Adv} (h : V.MadeV x) : ∀ a ∈ x.aff, a.its ≠ [] := fun a ha e => by
 have := (V.zpp (h.snd a ha)).2.2.1
 rw [e] at this
 simp at this
theorem Itvs.ltS {w : World} {v : Value} {l : List V.Itv} (h : Itvs w v l) (hl : l ≠ []) : ∀ c, v.ownBlock = some c -> c < w.heap.size := fun c hc => by
 obtain ⟨a', cap, e, g0⟩ := h
 have h0 : 0 < l.length := by
  cases l with
  | nil => exact absurd rfl hl
  | cons _ _ => simp
 obtain ⟨b, off, ea, hb, _⟩ := g0 0 h0
 rw [e, ea] at hc
 simp [Value.ownBlock] at hc
 omega
theorem NOwn.new {N b : Nat} {wa wb w : World} {v : Value} {x : V.Adv} {u : Value} {us : List Fs} {d : List Int} {ks : Sd} {su : Sd} (hu : u = su.v) (hx : V.MadeV x) (ha : x.aff = us.map (·.1)) (hf : ∀ W, wb.grownBy W (some b) -> FRow wa.heap.size W u us) (g0 : ∀ p ∈ us, ∀ c, p.2.v.ownBlock = some c -> wa.heap.size ≤ c) (hw : wb.grownBy w (some b)) (hd : qi d) (hN : N ≤ wa.heap.size) (hv : ∀ g, v.ownBlock = some g -> g < wa.heap.size) : NOwn N w v ⟨⟨x, d⟩, su, ks⟩ := by
 subst hu
 have h0 := hf wb (World.grownBy.refl _ _)
 refine ⟨hd, hx, us, wa.heap.size, wb.heap.size, ha, hf w hw, fun q hq c hc => ⟨g0 q hq c hc, ?_⟩, fun c hc => GRow.lt h0.row c hc, hN, hw.size, fun g hg => .inl (hv g hg)⟩
 have hi := (h0.each q hq).2.2.1
 have g1 : q.1.its ≠ [] := its_ne hx q.1 (by rw [ha]; exact List.mem_map_of_mem hq)
 exact Itvs.ltS hi g1 c hc
theorem NOwn.ok {N : Nat} {w : World} {v : Value} {p : NS} (h : NOwn N w v p) : NOk w p.nv := by
 obtain ⟨fs, M, M', h1, h2, _⟩ := h.ex
 refine ⟨h.doc, ?_, rfl, ?_, ?_⟩
 ·show Affs w p.u.v p.n.adv.aff
  rw [h1]; exact h2.affs
 ·have := h.made.idl; show p.n.adv.id.length ≤ maxLen; unfold maxLen; omega
 ·have := h.made.len; show p.n.adv.aff.length ≤ maxLen; unfold maxLen; omega
theorem NRow.notes {N : Nat} {w : World} {v : Value} {us : List NS} (h : NRow N w v us) : Notes w v (us.map (·.nv)) := by
 obtain ⟨a, cap, rfl, hc⟩ := GRow.gsl zr5 h.row
 refine ⟨a, cap, by rw [List.length_map], fun j hj => ?_⟩
 have g0 : j < us.length := by simpa using hj
 obtain ⟨g, off, ea, hg, hcell⟩ := hc j g0
 have hm := h.each _ (List.getElem_mem g0)
 rw [List.getElem_map]
 refine ⟨hm.ok, g, off, ea, hg, fun i u hu => hcell i u ?_⟩
 rw [nE_nl hm.doc]
 exact hu
def zuw (b k most : Nat) (w : World) (e : Ending) (w' : World) : Prop := ∃ v us, e = .returned v /\ us.length ≤ most /\ NRow w.heap.size w' v us /\ Tape w' b (k + 1 + 41 * most) /\ w.grownBy w' (some b)
theorem zun (b k most : Nat) (w : World) (hm : zk w) (h : Tape w b k) (hk : k ≤ 100000) (k6 : most ≤ 100) : Calls Tryz.prog 14 #[.pointer (some ⟨b, 0, none⟩), .int .i64 most] w (zuw b k most w) := by
 have HM := zv2 hm
 have HT := zv2 h
 have HBW := zv2 h.lt
 clear hm h
 go_enter Tryz.func14, Tryz.ntmps14
 go_wp2_with fail
 refine (kh b k ((most : Int) + 1) _ HT.out (by omega) (by omega) (by omega)).mono ?_
 rintro e w1 ⟨r, hr, rfl, ht1, hg1⟩
 have HT1 := zv2 ht1
 have HG1 := zv2 hg1
 have k7 : r ≤ most := by omega
 clear ht1 hg1 hr
 go_wp2_with fail
 go_loopw [5, 6] (fun ov iv wx => ∃ (q : Nat) (us : List NS), q + us.length ≤ most /\ iv = .int .i64 q /\ NRow w.heap.size wx ov us /\ Tape wx b (k + 1 + 41 * (most - q)) /\ w.grownBy wx (some b)) (fun _ iv _ => (intOf iv).toNat)
 case atStart => exact ⟨r, [], by simp; omega, rfl, NRow.nil _ _, HT1.out.le (by omega), HG1.out⟩
 case round =>
  obtain ⟨q, us, hq, rfl, g1, ht, hg⟩ := hrel
  have g2 := zv2 g1
  have g6 := zv2 ht
  have HG := zv2 hg
  obtain ⟨va, vc, j2⟩ := g1.row.slice
  subst j2
  clear g1 ht hg
  rcases q with _ | m
  ·go_wp2
   go_ret
   exact ⟨_, _, rfl, by omega, g2.out, g6.out.le (by omega), HG.out⟩
  ·have h0 : (0 : Int) < ((m + 1 : Nat) : Int) := by omega
   go_wp2_with fail
   refine (zmy b (k + 1 + 41 * (most - (m + 1))) wr (HM.out.tape HT.out HG.out) g6.out (by omega)).mono ?_
   rintro e w2 ⟨x, u, fs, rfl, hx, ha, hf, g7, g8, g9⟩
   have h1 := hf w2 (World.grownBy.refl _ _)
   obtain ⟨xa, xc, h2⟩ := h1.slice
   obtain ⟨xn, h3⟩ : ∃ n, n = fs.length := ⟨_, rfl⟩
   rw [← h3] at h2
   subst h2
   have HX := zv2 hx
   have HA := zv2 ha
   have HF := zv2 hf
   have HGE := zv2 g7
   have j3 := zv2 g8
   have h4 := zv2 g9
   clear hx ha hf g7 g8 g9 h1 h3
   unfold advV
   go_wp2_with fail
   refine (kh b _ 9 _ j3.out (by omega) (by omega) (by omega)).mono ?_
   rintro e w3 ⟨r9, j4, rfl, h5, hg3⟩
   have j5 := zv2 h5
   have g3 := zv2 hg3
   have j6 : IntKind.u8.wrap (1 + (r9 : Int)) = 1 + (r9 : Int) := by rw [IntKind.wrap_u8]; omega
   have HR9 := zv2 j4
   clear h5 hg3
   go_wp2_with (first
     | (refine wpList_buildTo rfl 26 _ rfl _ rfl (dcells (dig1 (1 + (r9 : Int)))) (by kernel_rfl) ?_)
     | fail)
   refine (keys_any b _ w3 j5.out (by omega)).mono ?_
   rintro e w4 ⟨ka, kn, kc, rfl, h6, hg4⟩
   have j7 := zv2 (g3.out.trans hg4)
   have g4 := zv2 (((g2.out.tape h4.out HBW.out).tape g3.out HBW.out).tape hg4 HBW.out)
   have HG4 := zv2 (((HG.out.trans h4.out).trans g3.out).trans hg4)
   have j8 : Hid (Tape w4 b (k + 1 + 41 * (most - m))) := zv2 (h6.le (by omega))
   have j9 : Hid (qi (dig1 (1 + (r9 : Int)))) := zv2 ⟨rfl, fun n hn => by
     have h9 := HR9.out
     unfold dig1 at hn
     rcases List.mem_cons.1 hn with rfl | hn
     · simp [Lit.wf, IntKind.min, IntKind.max, IntKind.signed, IntKind.bits]; omega
     · rw [List.eq_of_mem_replicate hn]; decide⟩
   have k0 : w.heap.size ≤ wr.heap.size := HG.out.size
   have j0 : Hid (NOwn w.heap.size w4 (.slice va us.length vc) ⟨⟨x, dig1 (1 + (r9 : Int))⟩, ⟨xa, xn, xc⟩, ⟨ka, kn, kc⟩⟩) := zv2 (NOwn.new rfl HX.out HA.out HF.out HGE.out j7.out j9.out k0 (fun g hg => GRow.lt g2.out.row g hg))
   have hb5 : Below w4.heap.size w4 (w4.alloc (.cells (nE ⟨⟨x, dig1 (1 + (r9 : Int))⟩, ⟨xa, xn, xc⟩, ⟨ka, kn, kc⟩⟩).toArray 57)) := (zv5 _ w4).alloc (zv4 _) _
   have g0 := zv2 (g4.out.call hb5)
   have g5 := zv2 (j0.out.keep (zq hb5 none) (fun g e => by cases e))
   have h7 := zv2 (HG4.out.trans (zq hb5 (some b)))
   have k1 := zv2 (j8.out.below hb5)
   have j1 := zv2 (GSl.one (enc := nE) (k := 37) (c := ⟨⟨x, dig1 (1 + (r9 : Int))⟩, ⟨xa, xn, xc⟩, ⟨ka, kn, kc⟩⟩) (b := w4.heap.size) (w := w4.alloc (.cells (nE ⟨⟨x, dig1 (1 + (r9 : Int))⟩, ⟨xa, xn, xc⟩, ⟨ka, kn, kc⟩⟩).toArray 57)) (by simp) (fun j u hu => by rw [World.cell?_alloc_new, List.getElem?_toArray]; exact hu))
   have h8 : w.heap.size ≤ (w4.alloc (.cells (nE ⟨⟨x, dig1 (1 + (r9 : Int))⟩, ⟨xa, xn, xc⟩, ⟨ka, kn, kc⟩⟩).toArray 57)).heap.size := h7.out.size
   have k2 := zv2 h8
   clear h6 hg4 hb5 h8 j6
   go_wp2_with (first
     | (refine wpList_buildTo rfl 57 _ rfl _ rfl (nE ⟨⟨x, dig1 (1 + (r9 : Int))⟩, ⟨xa, xn, xc⟩, ⟨ka, kn, kc⟩⟩).toArray (by kernel_rfl) ?_)
     | (refine zjg zr5 (by decide) (by decide) noteGI Tryz.underlying31 rfl _ rfl ⟨⟨x, dig1 (1 + (r9 : Int))⟩, ⟨xa, xn, xc⟩, ⟨ka, kn, kc⟩⟩ rfl ?_)
     | (refine yv zr5 (by decide) nE_one noteGI (by decide) rfl _ _ 31 rfl Tryz.underlying31 w.heap.size (.slice va us.length vc) us rfl g0.out.row (.slice (some ⟨w4.heap.size, 0, none⟩) 1 1) [⟨⟨x, dig1 (1 + (r9 : Int))⟩, ⟨xa, xn, xc⟩, ⟨ka, kn, kc⟩⟩] rfl j1.out (by simp; omega) k2.out ?_
        intro v8 w8 hr8 hg8 ho8)
     | fail)
   have k3 := zv2 (g0.out.add g5.out hr8 hg8 ho8)
   have k4 : Hid (w.grownBy w8 (some b)) := zv2 (yx h7.out hg8 (fun c hc => GRow.block g0.out.row c hc))
   have HT8 : Hid (Tape w8 b (k + 1 + 41 * (most - m))) := zv2 (k1.out.grown hg8 (fun e => by have := GRow.block g0.out.row b e; have := HBW.out; omega) (fun c e => by have := GRow.block g0.out.row c e; have := HBW.out; omega))
   obtain ⟨v8a, v8c, k5⟩ := hr8.slice
   subst k5
   clear hr8 hg8 ho8
   have k8 : ((m + 1 : Nat) : Int) - 1 = (m : Int) := by omega
   go_wp2
   go_roundw
   case rel => exact ⟨m, _, by rw [List.length_append]; simp; omega, by go_num, k3.out, HT8.out, k4.out⟩
   case measure => simp [intOf]
theorem zw2 {P : Prop} (h : P := by
 exact fun w' hSw => za1 (ty := 29) rfl rfl (zdj ((hSw.block w3.heap.size HXl.out).trans HG4.out) Tryz.underlying29 rfl HIN.out)) : P := h
theorem zgp (a : Option Addr) (m cap : Nat) (c : Int) (w : World) (hm : zk w) (ht : Nums w a m) (k2 : m ≤ cap) (hc : (Lit.int .i64 c).wf = true) :
  Calls Tryz.prog 3 #[.slice a m cap, .int .i64 c] w fun e w' => e = .returned (.bool true) /\ Below w.heap.size w w' := by
 have h5 := zv2 hc
 clear hc
 have HM := zv2 hm
 have HT := zv2 (And.intro ht k2)
 clear hm ht k2
 go_enter Tryz.func3, Tryz.ntmps3
 go_wp2_with fail
 refine (zvr a m cap 200 w HT.out.1 HT.out.2 (by decide)).mono ?_
 rintro e w1 ⟨rfl, ht1, hb1, k3⟩
 have HT1 := zv2 ht1
 have HB1 := zv2 hb1
 have k4 := zv2 k3
 clear ht1 hb1 k3
 go_wp2_with fail
 refine (cinv_any w.heap.size 0 7 w1 HT1.out (by decide) (by decide)).mono ?_
 rintro e w2 ⟨x, r, v, l, k5, k6, k7, hl, k8, rfl, h6, k9, h7⟩
 have HX1 := zv2 k5
 have v0 := zv2 k6
 have HR9 := zv2 k7
 have v1 := zv2 hl
 have HTO := zv2 k8
 have v3 := zv2 h6
 have q0 := zv2 k9
 have v4 := zv2 h7
 have v6 := zv2 (HM.out.below HB1.out)
 have q1 := zv2 (v6.out.tape HT1.out h7)
 obtain ⟨va, vc, v7, k1⟩ := h6.comps
 subst v7
 obtain ⟨ic, h9⟩ : ∃ ic, ic = (icells (dig1 x) r (.slice va l.length vc)) := ⟨_, rfl⟩
 have g2 := zv2 h9
 rw [← h9]
 clear k5 k6 k7 hl k8 h6 k9 h7 k1 h9
 go_wp2_with fail
 refine (zun w.heap.size (0 + 3 + 6 * 7) 6 w2 q1.out q0.out (by decide) (by decide)).mono ?_
 rintro e w3 ⟨nv, us, rfl, j0, g4, q2, hg3⟩
 have z1 := zv2 j0
 have z2 := zv2 g4
 have v8 := zv2 q2
 have v9 := zv2 (q1.out.tape q0.out hg3)
 have j1 := zv2 (v3.out.kept hg3 (fun g e => by cases e; exact k4.out))
 have HB3 := zv2 (HB1.out.trans ((jg (v4.out.trans hg3) (zv4 _) (Nat.le_of_lt k4.out)).mono (zv4 _)))
 have HN3 := zv2 g4.notes
 obtain ⟨na, nc, y0⟩ := g4.row.slice
 subst y0
 have j2 := qo (d := dig1 x) rfl r (.slice va l.length vc)
 have HIN : Hid ((Tryz.prog.info? 29).map (·.size) = some ic.size) := zv2 (by rw [g2.out, xt, j2])
 have y1 : Hid (ic.size = 34) := zv2 (by rw [g2.out, j2])
 have HS : Hid ((icells zu 0 (.slice none 0 0)).size = ic.size) := zv2 (by rw [y1.out, qo rfl])
 have HO : Hid (ic.all (·.oneCell') = true) := zv2 (by rw [g2.out]; exact ze0 j1.out.comps.one)
 have j3 : (w3.alloc (.cells (icells zu 0 (.slice none 0 0)) 29)).heap[w3.heap.size]? = some (.cells (icells zu 0 (.slice none 0 0)) 29 (0, 0)) := heap_alloc_new w3 _
 have g1 : Below w3.heap.size w3 ((w3.alloc (.cells (icells zu 0 (.slice none 0 0)) 29)).setRow w3.heap.size ic) :=
  ((zv5 _ w3).alloc (zv4 _) _).trans (jg (qc _ _ _) (zv4 _) (by simp))
 obtain ⟨W4, g5⟩ : ∃ W4, W4 = (w3.alloc (.cells (icells zu 0 (.slice none 0 0)) 29)).setRow w3.heap.size ic := ⟨_, rfl⟩
 rw [← g5] at g1
 have j4 := zv2 g5
 have z0 := zv2 g1
 have HB4 := zv3 HB3 g1
 have g6 := zv2 (v9.out.below g1)
 have h0 := zv2 (j1.out.comps.below g1)
 have HN4 := zv2 (HN3.out.below g1)
 have z3 := zv2 (v8.out.below g1)
 have HG4 : Hid (W4.heap[w3.heap.size]? = some (.cells ic 29 (0, 0))) := zv2 (by rw [g5]; exact setRow_heap _ _ _ _ _ _ j3)
 have y2 : Hid (W4.heap.size = w3.heap.size + 1) := zv2 (by rw [g5]; simp)
 have j5 := zv2 j3
 have y3 : Hid ((us.map (·.nv)).length ≤ 6) := zv2 (by rw [List.length_map]; exact j0)
 have q3 : Hid (us.length = (us.map (·.nv)).length) := zv2 (by rw [List.length_map])
 rw [q3.out] at HN4
 rw [q3.out]
 have y9 : Hid (∀ y ∈ us.map (·.nv), V.MadeV y.n.adv) := zv2 (fun y hy => by
   obtain ⟨p, hp, rfl⟩ := List.mem_map.1 hy
   exact (g4.each p hp).made)
 have h2 : Hid ((dig1 x).length = 32) := zv2 rfl
 have h4 : Hid (∀ n ∈ dig1 (x : Int), (Lit.int .u8 n).wf = true) := zv2 (dig1_ok x v0.out)
 generalize us.map (·.nv) = xs at *
 clear j0 g4 q2 hg3 j2 j3 g1 g5
 have g0 : Hid (l.length ≤ 12 /\ xs.length ≤ 8) := zv2 ⟨by have := v1.out; omega, by have := y3.out; omega⟩
 have HXl : Hid (w3.heap.size < W4.heap.size) := zv2 (by rw [y2.out]; omega)
 have h3 : 8 < c ∨ c < -1 ∨ (¬ 8 < c /\ ¬ c < -1) := by omega
 rcases h3 with h8 | h1 | h8
 case' inl =>
  go_wp2_with (first | (rw [zdr]; refine wpList_store_row rfl _ _ _ rfl w3.heap.size ic rfl rfl 29 _ j5.out HIN.out HS.out HO.out ?_; rw [← j4.out]) | fail)
  refine (zhj c 8 W4 h5.out (by decide) (by decide)).mono ?_
  rintro e W5 ⟨r2, rfl, _, g3⟩
  replace g3 := g3.symm
  subst g3
  go_wp2_with fail
  generalize (r2 : Int) = cc at *
 case' inr.inl =>
  have h8 : ¬ 8 < c := by omega
  go_wp2_with (first | (rw [zdr]; refine wpList_store_row rfl _ _ _ rfl w3.heap.size ic rfl rfl 29 _ j5.out HIN.out HS.out HO.out ?_; rw [← j4.out]) | fail)
  refine (zhj c 8 W4 h5.out (by decide) (by decide)).mono ?_
  rintro e W5 ⟨r2, rfl, _, g3⟩
  replace g3 := g3.symm
  subst g3
  go_wp2_with fail
  generalize (r2 : Int) = cc at *
 case' inr.inr =>
  obtain ⟨h8, h1⟩ := h8
  go_wp2_with (first | (rw [zdr]; refine wpList_store_row rfl _ _ _ rfl w3.heap.size ic rfl rfl 29 _ j5.out HIN.out HS.out HO.out ?_; rw [← j4.out]) | fail)
  clear h5 h8 h1
  generalize c = cc at *
 all_goals
  refine wp_region_held_drew (S := (fun W' => Below W4.heap.size W4 W')) (by kernel_rfl) ((zv5 _ W4).drew) (fun hHeld => ?_)
  refine tv 0 (.agg ic) ?_ ?_
  ·exact zw2
  refine tk 1 ?_
  refine tv 3 (.agg ic) ?_ ?_
  ·exact zw2
  refine tk 4 ?_
  refine rd 2 fun K hK => ?_
  go_simp
  have j6 := zi0 (dig1 x) r (.slice va l.length vc) l (.slice na xs.length nc) xs _ (g6.out.below hHeld) h2.out h4.out (h0.out.below hHeld) (by have := g0.out.1; omega) (HN4.out.below hHeld) (by have := g0.out.2; omega)
  rw [← g2.out] at j6
  refine j6.mono ?_
  clear j6
  rintro e w2 ⟨v2, us2, rfl, y4, j7, hb2⟩
  try dsimp only
  have H2 := zv2 y4.list
  refine hK.out _ _ ?_ (fun hHeld => nx ?_)
  ·(try dsimp only); exact hHeld.trans (hb2.mono hHeld.size)
  clear hK K
  refine rd 5 fun K hK => ?_
  go_simp
  have j8 := zlp (dig1 x) r (.slice va l.length vc) l (.slice na xs.length nc) xs _ (g6.out.below hHeld) h2.out h4.out (h0.out.below hHeld) (by have := g0.out.1; omega) (HN4.out.below hHeld) (by have := g0.out.2; omega)
  rw [← g2.out] at j8
  refine j8.mono ?_
  clear j8
  rintro e w5 ⟨v5, us5, rfl, y5, y6, hb5⟩
  try dsimp only
  have H5 := zv2 y5.list
  replace H2 := zv2 (H2.out.below hb5)
  refine hK.out _ _ ?_ (fun hHeld => nx ?_)
  ·(try dsimp only); exact hHeld.trans (hb5.mono hHeld.size)
  clear hK K
  refine rd 6 fun K hK => ?_
  go_simp
  refine (zes _ _ us2 us5 _ H2.out H5.out (j7.trans y6.symm) (fun p hp => zvu g0.out.2 j7 p hp) (zkx g0.out j7)).mono ?_
  rintro e w6 ⟨rfl, y7⟩
  try dsimp only
  refine hK.out _ _ ?_ (fun hHeld => nx ?_)
  ·(try dsimp only); exact hHeld.trans (y7.mono hHeld.size)
  clear hK K
  refine tk 7 ?_
  refine tv 8 (.agg ic) ?_ ?_
  ·exact zw2
  refine tk 9 ?_
  refine tk 10 ?_
  refine tv 12 (.agg ic) ?_ ?_
  ·exact zw2
  refine tk 13 ?_
  refine tk 14 ?_
  refine rd 11 fun K hK => ?_
  go_simp
  have g7 := zl5 (dig1 x) r (.slice va l.length vc) l (.slice na xs.length nc) xs cc _ (g6.out.below hHeld) h2.out h4.out (h0.out.below hHeld) (by have := g0.out.1; omega) (HN4.out.below hHeld) (by have := g0.out.2; omega)
  rw [← g2.out] at g7
  refine g7.mono ?_
  clear g7
  rintro e w11 ⟨v11, us11, rfl, q4, g8, q5⟩
  try dsimp only
  have j9 := zv2 q4
  refine hK.out _ _ ?_ (fun hHeld => nx ?_)
  ·(try dsimp only); exact hHeld.trans (q5.mono hHeld.size)
  clear hK K
  refine rd 15 fun K hK => ?_
  go_simp
  have g9 := zr3 (dig1 x) r (.slice va l.length vc) l (.slice na xs.length nc) xs cc _ (g6.out.below hHeld) h2.out h4.out (h0.out.below hHeld) (by have := g0.out.1; omega) (HN4.out.below hHeld) (by have := g0.out.2; omega)
  rw [← g2.out] at g9
  refine g9.mono ?_
  clear g9
  rintro e w15 ⟨v15, us15, rfl, q6, q7, k0⟩
  try dsimp only
  have y8 := zv2 q6
  replace j9 := zv2 (j9.out.below k0)
  refine hK.out _ _ ?_ (fun hHeld => nx ?_)
  ·(try dsimp only); exact hHeld.trans (k0.mono hHeld.size)
  clear hK K
  refine rd 16 fun K hK => ?_
  go_simp
  refine (zes _ _ us11 us15 _ j9.out y8.out (g8.trans q7.symm) (fun p hp => zr0 g0.out.2 g8 p hp) (zi6 g0.out g8)).mono ?_
  rintro e w16 ⟨rfl, q8⟩
  try dsimp only
  refine hK.out _ _ ?_ (fun hHeld => nx ?_)
  ·(try dsimp only); exact hHeld.trans (q8.mono hHeld.size)
  clear hK K
  refine tk 17 ?_
  refine tk 18 ?_
  refine rd 19 fun K hK => ?_
  go_simp
  refine (zpu _ (g6.out.below hHeld)).mono ?_
  rintro e w19 ⟨rfl, q9⟩
  try dsimp only
  refine hK.out _ _ ?_ (fun hHeld => nx ?_)
  ·(try dsimp only); exact hHeld.trans (q9.mono hHeld.size)
  clear hK K
  refine tk 20 ?_
  refine tk 21 ?_
  refine wpAnyH_done (by kernel_rfl) ?_ _
  have HE := zv3 HB4 hHeld
  clear hHeld
  go_wp2
  go_ret
  exact ⟨rfl, HE.out⟩
open Go.ChangeShapes Go.WideShapes Go.ChangeAt Go.RowKit
theorem cellsI : Tryz.prog.cellsOf 3 = 1 := by kernel_rfl
theorem zu8 {H : Type} {enc : TypeId × Value -> H} {W : World} {base : Nat} {v : Value} {d : DataW H} {p : List MemPlace} (hv : Value.okWide Tryz.prog W .any base 22 v)
  (h : DataW.Trod enc Tryz.prog W 0 (fun _ => true) true 22 v d p) : ∃ a m cap, v = .slice a m cap /\ Nums W a m := by
 obtain ⟨a0, len, cap, rfl⟩ := okWide_slice Tryz.underlying22 hv
 refine ⟨a0, len, cap, rfl, ?_⟩
 obtain ⟨fuel0, hf⟩ := h
 rcases open_ints Tryz.underlying22 Tryz.underlying3 cellsI hf with ⟨hcs, hx⟩ | ⟨a, len', cap', zs, hcs, _, hl, hm, hz, hx, hcell, g1⟩
 ·simp [Value.cells] at hcs
  obtain ⟨rfl, rfl, rfl⟩ := hcs
  exact ⟨by decide, fun j hj => absurd hj (by omega)⟩
 ·simp [Value.cells] at hcs
  obtain ⟨rfl, rfl, rfl⟩ := hcs
  simp only [if_true] at hz
  refine ⟨by omega, fun j hj => ?_⟩
  obtain ⟨b, off, spot⟩ := a
  have g0 : spot = none := by simpa [Addr.add] using World.cell?_spot (hcell 0 (by omega))
  subst g0
  have hc := hcell j (by omega)
  rw [add_plain] at hc
  have g2 : zs.getD j 0 ∈ zs := by rw [List.getD_eq_getElem?_getD, List.getElem?_eq_getElem (by omega)]; exact List.getElem_mem _
  exact ⟨b, off, zs.getD j 0, rfl, World.block_lt_of_cell? _ _ hc, hc, g1 _ g2⟩
open Go.ChangeShapes Go.WideShapes Go.ChangeAt Go.RowKit
theorem zr7 {H : Type} {enc : TypeId × Value -> H} {W : World} {base : Nat} {v : Value} {d : DataW H} {p : List MemPlace} (hv : Value.okWide Tryz.prog W .any base 22 v)
  (h : DataW.Trod enc Tryz.prog W 0 (fun _ => true) true 22 v d p) : ∃ a m cap, v = .slice a m cap /\ Nums W a m /\ m ≤ cap := by
 obtain ⟨a1, m1, c1, e1, hn⟩ := zu8 hv h
 obtain ⟨a0, len, cap, rfl⟩ := okWide_slice Tryz.underlying22 hv
 cases e1
 refine ⟨_, _, _, rfl, hn, ?_⟩
 obtain ⟨fuel0, hf⟩ := h
 rcases open_ints Tryz.underlying22 Tryz.underlying3 cellsI hf with ⟨hcs, hx⟩ | ⟨a, len', cap', zs, hcs, _, hl, hm, hz, hx, hcell, g0⟩
 ·simp [Value.cells] at hcs
  obtain ⟨rfl, rfl, rfl⟩ := hcs
  exact zv4 _
 ·simp [Value.cells] at hcs
  obtain ⟨rfl, rfl, rfl⟩ := hcs
  exact hl
end Go.Proofs.YtbikeahmldobkaaGreatDoor
namespace Go.Proofs.YtbikeahmldobkaaGreatDoor.laying
open Go.RowKit
theorem own : ownKnob Tryz.prog.godebug = none := by kernel_rfl
theorem laidOut : laidOutB Tryz.prog = true := by kernel_rfl
mutual
def flat : DataW Unit -> List Value
 | .lit (.int k n) => [.int k n]
 | .agg ps => ztu ps
 | _ => []
def ztu : List (DataW Unit) -> List Value
 | [] => []
 | d :: r => flat d ++ ztu r
end
def zpn (l : List Value) : Obj -> Obj
 | .cells _ t frozen => .cells l.toArray t frozen
 | o => o
noncomputable def laidWorld (os : Os) : World :=
 { World.holding Tryz.prog os ⟨#[], #[], []⟩ with
   heap := ((World.holding Tryz.prog os ⟨#[], #[], []⟩).heap.modify 2 (zpn (flat Rows.laid_unicode_utf8_acceptRanges))).modify 1 (zpn (flat Rows.laid_unicode_utf8_first)) }
end Go.Proofs.YtbikeahmldobkaaGreatDoor.laying
namespace Go.Proofs.YtbikeahmldobkaaGreatDoor
open Go.RowKit
theorem zui : laidOutB Tryz.prog = true := by kernel_rfl
theorem zvm : mapsRowed Tryz.prog = true := by kernel_rfl
end Go.Proofs.YtbikeahmldobkaaGreatDoor
