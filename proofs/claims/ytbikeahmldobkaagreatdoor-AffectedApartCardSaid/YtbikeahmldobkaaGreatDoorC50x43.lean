/-
  Lemmas for the law.
-/
import Derived.Test.YtbikeahmldobkaaGreatDoorC50x32
import Derived.Test.YtbikeahmldobkaaGreatDoorC50x39
import Derived.Test.YtbikeahmldobkaaGreatDoorC50x42
import Derived.Test.YtbikeahmldobkaaGreatDoorC50x31
import Derived.Test.YtbikeahmldobkaaGreatDoorC50x08
import Derived.Test.YtbikeahmldobkaaGreatDoorC50x02
import Derived.Test.YtbikeahmldobkaaGreatDoorCards
import Derived.Test.YtbikeahmldobkaaGreatDoorTie
import Derived.Test.YtbikeahmldobkaaGreatDoorRows
import Derived.ProofKit
import Derived.SliceStrings
import Derived.OpenShut
import Derived.Deep.DeepHandedRow
import Derived.Lib.LaidTab
import Derived.JoinedOf
set_option linter.all false
set_option maxRecDepth 100000
set_option maxHeartbeats 6400000
namespace Go.Proofs.YtbikeahmldobkaaGreatDoor
open Go.RowKit
structure NS where
 n : V.Note
 u : Sd
 k : Sd
def NS.nv (x : NS) : NV := ⟨x.n, x.u.v, x.k.v⟩
def nE (x : NS) : List Value := [.string ⟨x.n.adv.id.toArray⟩, .int .i64 x.n.adv.rev, .int .i64 x.n.adv.sev, x.u.v] ++ (dE x.n.doc ++ [x.k.v])
theorem vz (x : NS) : (nE x).length = 37 := by
 unfold nE
 rw [List.length_append, List.length_append, xi]
 rfl
theorem zn1 (x : NS) : ∀ u ∈ nE x, u.oneCell' = true := fun u hu => by
 unfold nE at hu
 rcases List.mem_append.1 hu with hu | hu
 ·exact z0r
 ·rcases List.mem_append.1 hu with hu | hu
  ·exact zb3 _ u hu
  ·rw [List.mem_singleton.1 hu]; rfl
theorem nE_nl {x : NS} (h : qj x.n.doc) : nE x = nl x.nv := by
 unfold nE nl NS.nv
 rw [zg5 h]
theorem zfm : jp 57 37 112 := by
 have h : (match Tryz.prog.info? 57 with | some i => i.size == 37 && (i.bytes == 112 && (match i.zero with | some z => z.cells.size == 37 | none => false)) | none => false) = true := by kernel_rfl
 unfold jp
 cases hq : Tryz.prog.info? 57 with
 | none => rw [hq] at h; cases h
 | some i =>
  exact zwv
structure NOwn (N : Nat) (w : World) (v : Value) (p : NS) : Prop where
 doc : qj p.n.doc
 made : V.MadeV p.n.adv
 ex : ∃ (fs : List Fs) (M M' : Nat), p.n.adv.aff = fs.map (·.1) /\ FRow M w p.u.v fs /\ (∀ q ∈ fs, ∀ c, q.2.v.ownBlock = some c -> M ≤ c /\ c < M') /\ (∀ c, p.u.v.ownBlock = some c -> c < M') /\ N ≤ M /\ M' ≤ w.heap.size /\ ∀ g, v.ownBlock = some g -> g < M ∨ M' ≤ g
theorem zzn {P : Prop} (h : P := by
 refine h2.kept hg (fun e => ?_) (fun q hq c hc => ?_)
 ·have a1 := GRow.block h2.row g e
  have a2 := h4 g e
  omega
 ·have := h3 q hq c hc
  omega) : P := h
theorem NOwn.keep {N : Nat} {w w' : World} {v : Value} {p : NS} (h : NOwn N w v p) {row : Option Nat} (hg : w.grownBy w' row) (hr : ∀ g, row = some g -> g < N ∨ v.ownBlock = some g) : NOwn N w' v p := by
 obtain ⟨fs, M, M', h1, h2, h3, h4, h5, h6, h7⟩ := h.ex
 refine ⟨h.doc, h.made, fs, M, M', h1, ?_, h3, h4, h5, Nat.le_trans h6 hg.size, h7⟩
 rcases row with _ | g
 ·exact h2.later ⟨hg.os, hg.tape, hg.output, hg.size, fun k hk => hg.block k hk (fun e => by cases e)⟩
 ·have g0 : g < M ∨ M' ≤ g := by
   rcases hr g rfl with hr | hr
   ·exact .inl (by omega)
   ·exact h7 g hr
  exact zzn
theorem NOwn.grown {N : Nat} {w w' : World} {v v' : Value} {p : NS} (h : NOwn N w v p) (hg : w.grownBy w' v.ownBlock) (ho : v'.ownBlock = v.ownBlock ∨ v'.ownBlock = some w.heap.size) : NOwn N w' v' p := by
 have hk := h.keep hg (fun g e => .inr e)
 obtain ⟨fs, M, M', h1, h2, h3, h4, h5, h6, h7⟩ := h.ex
 have g1 : FRow M w' p.u.v fs := by
  cases hv : v.ownBlock with
  | none => rw [hv] at hg; exact h2.later ⟨hg.os, hg.tape, hg.output, hg.size, fun k hk => hg.block k hk (fun e => by cases e)⟩
  | some g =>
   rw [hv] at hg
   have g2 := h7 g hv
   exact zzn
 refine ⟨h.doc, h.made, fs, M, M', h1, g1, h3, h4, h5, Nat.le_trans h6 hg.size, fun g g0 => ?_⟩
 rcases ho with ho | ho
 ·exact h7 g (by rw [← ho]; exact g0)
 ·rw [ho] at g0
  cases g0
  exact .inr h6
structure NRow (N : Nat) (w : World) (v : Value) (us : List NS) : Prop where
 row : GRow 57 37 nE w N v us
 each : ∀ p ∈ us, NOwn N w v p
theorem NRow.nil (N : Nat) (w : World) : NRow N w (.slice none 0 0) [] := ⟨GRow.nil _ _, fun p hp => by simp at hp⟩
theorem NRow.tape {N b : Nat} {w w' : World} {v : Value} {us : List NS} (h : NRow N w v us) (hg : w.grownBy w' (some b)) (hb : b < N) : NRow N w' v us :=
 ⟨jz h.row hg (fun g hv e => by cases e; have := GRow.block h.row b hv; omega), fun p hp => (h.each p hp).keep hg (fun g e => by cases e; exact .inl hb)⟩
theorem NRow.call {N : Nat} {w w' : World} {v : Value} {us : List NS} (h : NRow N w v us) (hb : Below w.heap.size w w') : NRow N w' v us :=
 ⟨GRow.below h.row hb, fun p hp => (h.each p hp).keep (zn hb none) (fun g e => by cases e)⟩
theorem NRow.add {N : Nat} {w w' : World} {v v' : Value} {us : List NS} {p : NS} (h : NRow N w v us) (hp : NOwn N w v p) (hr : GRow 57 37 nE w' N v' (us ++ [p])) (hg : w.grownBy w' v.ownBlock) (ho : v'.ownBlock = v.ownBlock ∨ v'.ownBlock = some w.heap.size) : NRow N w' v' (us ++ [p]) :=
 ⟨hr, fun q hq => by
   have h1 : NOwn N w v q := by
     rcases List.mem_append.1 hq with hq | hq
     · exact h.each q hq
     · rw [List.mem_singleton.1 hq]; exact hp
   exact h1.grown hg ho⟩
theorem its_ne {x : V.Adv} (h : V.MadeV x) : ∀ a ∈ x.aff, a.its ≠ [] := fun a ha e => by
 have := (V.zpw (h.snd a ha)).2.2.1
 rw [e] at this
 simp at this
theorem Itvs.ltS {w : World} {v : Value} {l : List V.Itv} (h : Itvs w v l) (hl : l ≠ []) : ∀ c, v.ownBlock = some c -> c < w.heap.size := fun c hc => by
 obtain ⟨a', cap, e, g0⟩ := h
 have h0 : 0 < l.length := by
  cases l with
  | nil => exact absurd rfl hl
  | cons _ _ => simp
 obtain ⟨b, off, ea, hb, _⟩ := g0 0 h0
 rw [e, ea] at hc
 simp [Value.ownBlock] at hc
 omega
theorem NOwn.new {N b : Nat} {wa wb w : World} {v : Value} {x : V.Adv} {u : Value} {us : List Fs} {d : List Int} {ks : Sd} {su : Sd} (hu : u = su.v) (hx : V.MadeV x) (ha : x.aff = us.map (·.1)) (hf : ∀ W, wb.grownBy W (some b) -> FRow wa.heap.size W u us) (hge : ∀ p ∈ us, ∀ c, p.2.v.ownBlock = some c -> wa.heap.size ≤ c) (hw : wb.grownBy w (some b)) (hd : qj d) (hN : N ≤ wa.heap.size) (hv : ∀ g, v.ownBlock = some g -> g < wa.heap.size) : NOwn N w v ⟨⟨x, d⟩, su, ks⟩ := by
 subst hu
 have h0 := hf wb (World.grownBy.refl _ _)
 refine ⟨hd, hx, us, wa.heap.size, wb.heap.size, ha, hf w hw, fun q hq c hc => ⟨hge q hq c hc, ?_⟩, fun c hc => GRow.lt h0.row c hc, hN, hw.size, fun g hg => .inl (hv g hg)⟩
 have hi := (h0.each q hq).2.2.1
 have g0 : q.1.its ≠ [] := its_ne hx q.1 (by rw [ha]; exact List.mem_map_of_mem hq)
 exact Itvs.ltS hi g0 c hc
theorem NOwn.ok {N : Nat} {w : World} {v : Value} {p : NS} (h : NOwn N w v p) : NOk w p.nv := by
 obtain ⟨fs, M, M', h1, h2, _⟩ := h.ex
 refine ⟨h.doc, ?_, rfl, ?_, ?_⟩
 ·show Affs w p.u.v p.n.adv.aff
  rw [h1]; exact h2.affs
 ·have := h.made.idl; show p.n.adv.id.length ≤ maxLen; unfold maxLen; omega
 ·have := h.made.len; show p.n.adv.aff.length ≤ maxLen; unfold maxLen; omega
theorem NRow.notes {N : Nat} {w : World} {v : Value} {us : List NS} (h : NRow N w v us) : Notes w v (us.map (·.nv)) := by
 obtain ⟨a, cap, rfl, hc⟩ := GRow.gsl vz h.row
 refine ⟨a, cap, by rw [List.length_map], fun j hj => ?_⟩
 have g0 : j < us.length := by simpa using hj
 obtain ⟨g, off, ea, hg, hcell⟩ := hc j g0
 have hm := h.each _ (List.getElem_mem g0)
 rw [List.getElem_map]
 refine ⟨hm.ok, g, off, ea, hg, fun i u hu => hcell i u ?_⟩
 rw [nE_nl hm.doc]
 exact hu
def zve (b k most : Nat) (w : World) (e : Ending) (w' : World) : Prop := ∃ v us, e = .returned v /\ us.length ≤ most /\ NRow w.heap.size w' v us /\ Tape w' b (k + 1 + 41 * most) /\ w.grownBy w' (some b)
theorem zcf (b k most : Nat) (w : World) (hm : zj w) (h : Tape w b k) (hk : k ≤ 100000) (k3 : most ≤ 100) : Calls Tryz.prog 14 #[.pointer (some ⟨b, 0, none⟩), .int .i64 most] w (zve b k most w) := by
 have HM := zwg hm
 have HT := zwg h
 have HBW := zwg h.lt
 clear hm h
 go_enter Tryz.func14, Tryz.ntmps14
 go_wp2_with fail
 refine (jf b k ((most : Int) + 1) _ HT.out (by omega) (by omega) (by omega)).mono ?_
 rintro e w1 ⟨r, hr, rfl, ht1, hg1⟩
 have HT1 := zwg ht1
 have HG1 := zwg hg1
 have k4 : r ≤ most := by omega
 clear ht1 hg1 hr
 go_wp2_with fail
 go_loopw [5, 6] (fun ov iv wx => ∃ (q : Nat) (us : List NS), q + us.length ≤ most /\ iv = .int .i64 q /\ NRow w.heap.size wx ov us /\ Tape wx b (k + 1 + 41 * (most - q)) /\ w.grownBy wx (some b)) (fun _ iv _ => (intOf iv).toNat)
 case atStart => exact ⟨r, [], by simp; omega, rfl, NRow.nil _ _, HT1.out.le (by omega), HG1.out⟩
 case round =>
  obtain ⟨q, us, hq, rfl, g1, ht, hg⟩ := hrel
  have g2 := zwg g1
  have g6 := zwg ht
  have HG := zwg hg
  obtain ⟨va, vc, j1⟩ := g1.row.slice
  subst j1
  clear g1 ht hg
  rcases q with _ | m
  ·go_wp2
   go_ret
   exact ⟨_, _, rfl, by omega, g2.out, g6.out.le (by omega), HG.out⟩
  ·have h0 : (0 : Int) < ((m + 1 : Nat) : Int) := by omega
   go_wp2_with fail
   refine (zna b (k + 1 + 41 * (most - (m + 1))) wr (HM.out.tape HT.out HG.out) g6.out (by omega)).mono ?_
   rintro e w2 ⟨x, u, fs, rfl, hx, ha, hf, hge, g7, g8⟩
   have g9 := hf w2 (World.grownBy.refl _ _)
   obtain ⟨xa, xc, h1⟩ := g9.slice
   obtain ⟨xn, h2⟩ : ∃ n, n = fs.length := ⟨_, rfl⟩
   rw [← h2] at h1
   subst h1
   have HX := zwg hx
   have HA := zwg ha
   have HF := zwg hf
   have HGE := zwg hge
   have j2 := zwg g7
   have h3 := zwg g8
   clear hx ha hf hge g7 g8 g9 h2
   unfold advV
   go_wp2_with fail
   refine (jf b _ 9 _ j2.out (by omega) (by omega) (by omega)).mono ?_
   rintro e w3 ⟨r9, hr9, rfl, h4, hg3⟩
   have j3 := zwg h4
   have g3 := zwg hg3
   have j4 : IntKind.u8.wrap (1 + (r9 : Int)) = 1 + (r9 : Int) := by rw [IntKind.wrap_u8]; omega
   have HR9 := zwg hr9
   clear h4 hg3
   go_wp2_with (first
     | (refine wpList_buildTo rfl 26 _ rfl _ rfl (dcells (dig1 (1 + (r9 : Int)))) (by kernel_rfl) ?_)
     | fail)
   refine (keys_any b _ w3 j3.out (by omega)).mono ?_
   rintro e w4 ⟨ka, kn, kc, rfl, h5, hg4⟩
   have j5 := zwg (g3.out.trans hg4)
   have g4 := zwg (((g2.out.tape h3.out HBW.out).tape g3.out HBW.out).tape hg4 HBW.out)
   have HG4 := zwg (((HG.out.trans h3.out).trans g3.out).trans hg4)
   have j6 : Hid (Tape w4 b (k + 1 + 41 * (most - m))) := zwg (h5.le (by omega))
   have j7 : Hid (qj (dig1 (1 + (r9 : Int)))) := zwg ⟨rfl, fun n hn => by
     have h9 := HR9.out
     unfold dig1 at hn
     rcases List.mem_cons.1 hn with rfl | hn
     · simp [Lit.wf, IntKind.min, IntKind.max, IntKind.signed, IntKind.bits]; omega
     · rw [List.eq_of_mem_replicate hn]; decide⟩
   have j8 : w.heap.size ≤ wr.heap.size := HG.out.size
   have h8 : Hid (NOwn w.heap.size w4 (.slice va us.length vc) ⟨⟨x, dig1 (1 + (r9 : Int))⟩, ⟨xa, xn, xc⟩, ⟨ka, kn, kc⟩⟩) := zwg (NOwn.new rfl HX.out HA.out HF.out HGE.out j5.out j7.out j8 (fun g hg => GRow.lt g2.out.row g hg))
   have hb5 : Below w4.heap.size w4 (w4.alloc (.cells (nE ⟨⟨x, dig1 (1 + (r9 : Int))⟩, ⟨xa, xn, xc⟩, ⟨ka, kn, kc⟩⟩).toArray 57)) := (zwj _ w4).alloc (zwi _) _
   have g0 := zwg (g4.out.call hb5)
   have g5 := zwg (h8.out.keep (zn hb5 none) (fun g e => by cases e))
   have h6 := zwg (HG4.out.trans (zn hb5 (some b)))
   have j9 := zwg (j6.out.below hb5)
   have j0 := zwg (GSl.one (enc := nE) (k := 37) (c := ⟨⟨x, dig1 (1 + (r9 : Int))⟩, ⟨xa, xn, xc⟩, ⟨ka, kn, kc⟩⟩) (b := w4.heap.size) (w := w4.alloc (.cells (nE ⟨⟨x, dig1 (1 + (r9 : Int))⟩, ⟨xa, xn, xc⟩, ⟨ka, kn, kc⟩⟩).toArray 57)) (by simp) (fun j u hu => by rw [World.cell?_alloc_new, List.getElem?_toArray]; exact hu))
   have h7 : w.heap.size ≤ (w4.alloc (.cells (nE ⟨⟨x, dig1 (1 + (r9 : Int))⟩, ⟨xa, xn, xc⟩, ⟨ka, kn, kc⟩⟩).toArray 57)).heap.size := h6.out.size
   have k0 := zwg h7
   clear h5 hg4 hb5 h7 j4
   go_wp2_with (first
     | (refine wpList_buildTo rfl 57 _ rfl _ rfl (nE ⟨⟨x, dig1 (1 + (r9 : Int))⟩, ⟨xa, xn, xc⟩, ⟨ka, kn, kc⟩⟩).toArray (by kernel_rfl) ?_)
     | (refine zc9 vz (by decide) (by decide) zfm Tryz.underlying31 rfl _ rfl ⟨⟨x, dig1 (1 + (r9 : Int))⟩, ⟨xa, xn, xc⟩, ⟨ka, kn, kc⟩⟩ rfl ?_)
     | (refine xj vz (by decide) zn1 zfm (by decide) rfl _ _ 31 rfl Tryz.underlying31 w.heap.size (.slice va us.length vc) us rfl g0.out.row (.slice (some ⟨w4.heap.size, 0, none⟩) 1 1) [⟨⟨x, dig1 (1 + (r9 : Int))⟩, ⟨xa, xn, xc⟩, ⟨ka, kn, kc⟩⟩] rfl j0.out (by simp; omega) k0.out ?_
        intro v8 w8 hr8 hg8 ho8)
     | fail)
   have HR8 := zwg (g0.out.add g5.out hr8 hg8 ho8)
   have k1 : Hid (w.grownBy w8 (some b)) := zwg (xk h6.out hg8 (fun c hc => GRow.block g0.out.row c hc))
   have HT8 : Hid (Tape w8 b (k + 1 + 41 * (most - m))) := zwg (j9.out.grown hg8 (fun e => by have := GRow.block g0.out.row b e; have := HBW.out; omega) (fun c e => by have := GRow.block g0.out.row c e; have := HBW.out; omega))
   obtain ⟨v8a, v8c, k2⟩ := hr8.slice
   subst k2
   clear hr8 hg8 ho8
   have hm1 : ((m + 1 : Nat) : Int) - 1 = (m : Int) := by omega
   go_wp2
   go_roundw
   case rel => exact ⟨m, _, by rw [List.length_append]; simp; omega, by go_num, HR8.out, HT8.out, k1.out⟩
   case measure => simp [intOf]
theorem zxg {P : Prop} (h : P := by
 obtain ⟨sb, sf⟩ := st
 have HM8 := zwg (HM9.out.below hb8)
 clear hb8
 simp only at hc ⊢
 go_wp2_with fail
 refine hc.mono ?_
 rintro e w10 ⟨rfl, hb10⟩
 have HB10 := zwh HB8 hb10
 have HM10 := zwg (HM8.out.below hb10)
 clear hb10 hc
 go_wp2_with fail
 refine (ji w10 HM10.out).mono ?_
 rintro e w11 ⟨rfl, hb11⟩
 have HB11 := zwh HB10 hb11
 clear hb11
 go_wp2
 go_ret
 exact ⟨rfl, HB11.out⟩) : P := h
theorem zxx {P : Prop} (h : P := by
 obtain ⟨v9a, v9c, hv9⟩ := hr9.slice
 subst hv9
 clear hr9 hgg9
 have hm1 : ((j + 1 : Nat) : Int) - 1 = (j : Int) := by omega
 go_wp2
 go_roundw
 case rel => exact ⟨j, _, by rw [List.length_append]; simp; omega, by go_num, HR9.out, HVS9.out, HTF.out, HGF.out⟩
 case measure => simp [intOf]) : P := h
theorem zyf {P : Prop} (h : P := by
 rintro e w8 ⟨rfl, hb8⟩
 have HB8 := zwh HB9 hb8
 clear hb8
 go_wp2
 go_ret
 exact ⟨rfl, HB8.out⟩) : P := h
theorem zey (a : Option Addr) (m cap : Nat) (n : Int) (cs : ByteArray) (L : List V.Bs) (lv : Value) (raw : Bool) (w : World) (hm : zj w) (ht : Nums w a m) (j4 : m ≤ cap) (hn : (Lit.int .i64 n).wf = true) (hcs : cs.size ≤ maxLen) (hL : Strs w lv L) (q6 : L.length ≤ maxLen) (j5 : ∀ x ∈ L, x.length ≤ maxLen) :
  Calls Tryz.prog 5 #[.slice a m cap, .int .i64 n, .string cs, lv, .bool raw] w fun e w' => e = .returned (.bool true) /\ Below w.heap.size w w' := by
 obtain ⟨cur, rfl⟩ : ∃ cur : V.Bs, cs = ⟨cur.toArray⟩ := ⟨cs.data.toList, by simp⟩
 have HM := zwg hm
 have HT := zwg (And.intro ht j4)
 have HL := zwg hL
 have j6 := zwg j5
 obtain ⟨la, lc, rfl⟩ := hL.slice
 unfold maxLen at q6
 clear hm ht j4 hn hcs hL j5
 go_enter Tryz.func5, Tryz.ntmps5
 go_wp2_with fail
 refine (zcu a m cap 200 w HT.out.1 HT.out.2 (by decide)).mono ?_
 rintro e w1 ⟨rfl, ht1, hb1, j7⟩
 have HT1 := zwg ht1
 have HB1 := zwg hb1
 have g2 := zwg j7
 have j8 := zwg (HM.out.below hb1)
 clear ht1 hb1 j7
 go_wp2_with fail
 refine (zcf w.heap.size 0 5 w1 j8.out HT1.out (by decide) (by decide)).mono ?_
 rintro e w2 ⟨nv, us, rfl, j9, h2, k0, h4⟩
 have q7 := zwg h2
 have h5 := zwg k0
 have q8 := zwg h4
 have q9 := zwg (j8.out.tape HT1.out h4)
 obtain ⟨na, nc, v0⟩ := h2.row.slice
 subst v0
 have h6 := zwg j9
 clear j9 h2 k0 h4
 go_wp2_with fail
 refine (zdw w2).mono ?_
 rintro e w3 ⟨rfl, h7⟩
 have hb3 : Below w2.heap.size w2 w3 := by rw [h7]; exact (zwj _ w2).alloc (zwi _) _
 have k1 : ∀ j, j < 4 -> w3.cell? ⟨w2.heap.size, 0 + j, none⟩ = some (.string ⟨(ym.getD j []).toArray⟩) := fun j hj => by
  rw [h7, World.cell?_alloc_new, Nat.zero_add]
  exact zx8
 have HB3 := zwg hb3
 have v1 := zwg k1
 clear h7 hb3 k1
 go_wp2_with fail
 refine (ut w.heap.size _ w3 ⟨w2.heap.size, 0, none⟩ 4 ym (h5.out.below HB3.out) (by decide) (by decide) (by decide) (by have := h5.out.lt; simp; omega) rfl v1.out).mono ?_
 rintro e w4 ⟨nm, v2, rfl, k2, hg4⟩
 have h8 := zwg ((q7.out.call HB3.out).tape hg4 g2.out)
 have h9 := zwg k2
 have k3 := zwg ((q9.out.below HB3.out).tape (h5.out.below HB3.out) hg4)
 have HG4 := zwg ((q8.out.trans (zn HB3.out (some w.heap.size))).trans hg4)
 clear v2 k2 hg4
 rcases raw with _ | _
 ·have y5 : w.heap.size < w4.heap.size := h9.out.lt
  go_wp2_with fail
  refine (jf w.heap.size _ 3 w4 h9.out (by decide) (by decide) (by decide)).mono ?_
  rintro e w5 ⟨r, hr, rfl, k4, j0⟩
  have k5 := zwg k4
  have v3 := zwg (k3.out.tape h9.out j0)
  have HSC : Hid (V.scheme (1 + (r : Int)) = true) := zwg (by
    have h3 : r = 0 ∨ r = 1 ∨ r = 2 := by omega
    rcases h3 with rfl | rfl | rfl <;> decide)
  have v4 := zwg j0
  clear k4 j0
  go_wp2_with fail
  clear hr
  generalize (1 + (r : Int)) = sch at *
  refine (yb w.heap.size _ sch w5 k5.out (by decide) HSC.out).mono ?_
  rintro e w6 ⟨cv, hcv, rfl, k6, j1⟩
  have k7 := zwg k6
  have v5 := zwg (v3.out.tape k5.out j1)
  have v6 := zwg (v4.out.trans j1)
  have HCV : Hid (cv.length ≤ 64) := zwg (valid_len hcv)
  clear hcv k6 j1
  go_wp2_with fail
  refine (jf w.heap.size _ 7 w6 k7.out (by decide) (by decide) (by decide)).mono ?_
  rintro e w7 ⟨r7, y7, rfl, ht7, hg7⟩
  have j2 := zwg ht7
  have v7 := zwg (v5.out.tape k7.out hg7)
  have HG7 := zwg (v6.out.trans hg7)
  have q3 := zwg (h8.out.tape HG7.out g2.out)
  have y6 : w.heap.size < w7.heap.size := j2.out.lt
  clear ht7 hg7
  go_wp2_with fail
  go_loopw [3, 14] (fun sv iv wx => ∃ (q : Nat) (vs : List V.Bs), q + vs.length ≤ 6 /\ iv = .int .i64 q /\ GRow 9 1 sE wx w7.heap.size sv vs /\ (∀ x ∈ vs, x.length ≤ 64) /\ Tape wx w.heap.size (220 - q) /\ w7.grownBy wx (some w.heap.size)) (fun _ iv _ => (intOf iv).toNat)
  case atStart => exact ⟨r7, [], by simp; omega, rfl, GRow.nil _ _, fun x hx => by simp at hx, j2.out.le (by omega), vt _ _⟩
  case round =>
   obtain ⟨q, vs, hq, rfl, g7, k8, ht, hg⟩ := hrel
   have g8 := zwg g7
   have HVS := zwg k8
   have v8 := zwg ht
   have HG := zwg hg
   have y0 := zwg (v7.out.tape j2.out hg)
   obtain ⟨va, vc, y1⟩ := g7.slice
   subst y1
   clear g7 k8 ht hg
   rcases q with _ | j
   ·have q4 := zwg (q3.out.tape HG.out g2.out)
    have HB4 : Hid (Below w.heap.size w wr) := zwg (HB1.out.trans (qi ((HG4.out.trans HG7.out).trans HG.out) (zwi _) (Nat.le_of_lt g2.out)))
    have HN4 := zwg q4.out.notes
    have g3 : Hid ((us.map (·.nv)).length ≤ 5) := zwg (by rw [List.length_map]; exact h6.out)
    have g4 : Hid (us.length = (us.map (·.nv)).length) := zwg (by rw [List.length_map])
    have g9 := (GRow.gsl uh g8.out).strs
    have k9 : Hid (∀ x ∈ vs, x.length ≤ maxLen) := zwg (fun x hx => by have := HVS.out x hx; unfold maxLen; omega)
    have y4 : cv.length ≤ 64 := HCV.out
    rw [g4.out] at HN4
    rw [g4.out]
    generalize us.map (·.nv) = xs at *
    have g5 := zwg HN4.out
    have g1 : Hid (Strs wr (.slice va vs.length vc) vs) := zwg g9
    have HM9 : Hid (zj wr) := zwg y0.out
    have HB9 : Hid (Below w.heap.size w wr) := zwg HB4.out
    by_cases h12 : (12 : Int) < (vs.length : Int)
    ·go_wp2_with fail
     refine (ji wr HM9.out).mono ?_
     exact zyf
    ·by_cases h200 : (200 : Int) < (cv.length : Int)
     ·go_wp2_with fail
      refine (ji wr HM9.out).mono ?_
      exact zyf
     ·have g6 : cv.length ≤ maxLen := by unfold maxLen; omega
      go_wp2_with fail
      refine (zbv _ xs _ _ cv (.slice va vs.length vc) vs wr HM9.out g5.out (by have := g3.out; omega) g6 g1.out (by omega) k9.out).mono ?_
      rintro e w8 ⟨rfl, hb8⟩
      have HB8 := zwh HB9 hb8
      have hc := zgs (.slice na xs.length nc) xs sch nm cv (.slice va vs.length vc) vs w8 (HM9.out.below hb8) (g5.out.below hb8) (by have := g3.out; omega) g6 (g1.out.below hb8) (by omega) k9.out
      generalize V.upTo sch nm cv (xs.map (·.n)) vs vs.length = st at *
      exact zxg
   ·have h0 : (0 : Int) < ((j + 1 : Nat) : Int) := by omega
    go_wp2_with fail
    refine (yb w.heap.size _ sch wr v8.out (by omega) HSC.out).mono ?_
    rintro e w8 ⟨x8, q0, rfl, q1, hg8⟩
    have y2 : Hid (x8.length ≤ 64) := zwg (valid_len q0)
    have j3 := zwg (jz g8.out hg8 (fun g hv e => by cases e; have := GRow.block g8.out _ hv; omega))
    have y3 := zwg (HG.out.trans hg8)
    have HT8 : Hid (Tape w8 w.heap.size (220 - j)) := zwg (q1.le (by omega))
    have h1 : Below w8.heap.size w8 (w8.alloc (.cells #[.string ⟨x8.toArray⟩] 9)) := (zwj _ w8).alloc (zwi _) _
    have g0 := zwg (GRow.below j3.out h1)
    have HG9 := zwg (y3.out.trans (zn h1 (some w.heap.size)))
    have HT9 := zwg (HT8.out.below h1)
    have q5 := zwg (GSl.one (enc := sE) (k := 1) (c := x8) (b := w8.heap.size) (w := w8.alloc (.cells #[.string ⟨x8.toArray⟩] 9)) (by simp) (fun j u hu => by rw [World.cell?_alloc_new]; show (sE x8).toArray[j]? = some u; rw [List.getElem?_toArray]; exact hu))
    have q2 : w7.heap.size ≤ (w8.alloc (.cells #[.string ⟨x8.toArray⟩] 9)).heap.size := HG9.out.size
    have g1 := zwg q2
    clear q0 q1 hg8 h1 q2
    go_wp2_with (first
      | (refine xj uh (by decide) zd1 zfx (by decide) rfl _ _ 42 rfl Tryz.underlying42 w7.heap.size (.slice va vs.length vc) vs rfl g0.out (.slice (some ⟨w8.heap.size, 0, none⟩) 1 1) [x8] rfl q5.out (by simp; omega) g1.out ?_
         intro v9 w9 hr9 hgg9 _)
      | fail)
    have HR9 := zwg hr9
    have HGF := zwg (xk HG9.out hgg9 (fun c hc => GRow.block g0.out c hc))
    have HTF : Hid (Tape w9 w.heap.size (220 - j)) := zwg (HT9.out.grown hgg9 (fun e => by have := GRow.block g0.out _ e; omega) (fun c e => by have := GRow.block g0.out c e; omega))
    have HVS9 : Hid (∀ x ∈ vs ++ [x8], x.length ≤ 64) := zwg (fun x hx => by
      rcases List.mem_append.1 hx with hx | hx
      · exact HVS.out x hx
      · rw [List.mem_singleton.1 hx]; exact y2.out)
    exact zxx
 ·have HB4 : Hid (Below w.heap.size w w4) := zwg (HB1.out.trans (qi HG4.out (zwi _) (Nat.le_of_lt g2.out)))
  have HN4 := zwg h8.out.notes
  have g3 : Hid ((us.map (·.nv)).length ≤ 5) := zwg (by rw [List.length_map]; exact h6.out)
  have g4 : Hid (us.length = (us.map (·.nv)).length) := zwg (by rw [List.length_map])
  rw [g4.out] at HN4
  rw [g4.out]
  generalize us.map (·.nv) = xs at *
  have g9 := HL.out.below HB4.out
  have g5 := zwg HN4.out
  have g1 : Hid (Strs w4 (.slice la L.length lc) L) := zwg g9
  have HM9 : Hid (zj w4) := zwg k3.out
  have HB9 : Hid (Below w.heap.size w w4) := zwg HB4.out
  by_cases h12 : (12 : Int) < (L.length : Int)
  ·go_wp2_with fail
   refine (ji w4 HM9.out).mono ?_
   exact zyf
  ·by_cases h200 : (200 : Int) < (cur.length : Int)
   ·go_wp2_with fail
    refine (ji w4 HM9.out).mono ?_
    exact zyf
   ·have g6 : cur.length ≤ maxLen := by unfold maxLen; omega
    go_wp2_with fail
    refine (zbv _ xs _ _ cur (.slice la L.length lc) L w4 HM9.out g5.out (by have := g3.out; omega) g6 g1.out (by omega) j6.out).mono ?_
    rintro e w8 ⟨rfl, hb8⟩
    have HB8 := zwh HB9 hb8
    have hc := zgs (.slice na xs.length nc) xs n nm cur (.slice la L.length lc) L w8 (HM9.out.below hb8) (g5.out.below hb8) (by have := g3.out; omega) g6 (g1.out.below hb8) (by omega) j6.out
    generalize V.upTo n nm cur (xs.map (·.n)) L L.length = st at *
    exact zxg
open Go.ChangeShapes Go.WideShapes Go.ChangeAt Go.RowKit
theorem cellsI : Tryz.prog.cellsOf 3 = 1 := by kernel_rfl
theorem cellsS : Tryz.prog.cellsOf 9 = 1 := by kernel_rfl
theorem zvp {H : Type} {enc : TypeId × Value -> H} {W : World} {base : Nat} {v : Value} {d : DataW H} {p : List MemPlace} (hv : Value.okWide Tryz.prog W .any base 22 v)
  (h : DataW.Trod enc Tryz.prog W 0 (fun _ => true) true 22 v d p) : ∃ a m cap, v = .slice a m cap /\ Nums W a m := by
 obtain ⟨a0, len, cap, rfl⟩ := okWide_slice Tryz.underlying22 hv
 refine ⟨a0, len, cap, rfl, ?_⟩
 obtain ⟨fuel0, hf⟩ := h
 rcases open_ints Tryz.underlying22 Tryz.underlying3 cellsI hf with ⟨hcs, hx⟩ | ⟨a, len', cap', zs, hcs, _, hl, hm, hz, hx, hcell, g1⟩
 ·simp [Value.cells] at hcs
  obtain ⟨rfl, rfl, rfl⟩ := hcs
  exact ⟨by decide, fun j hj => absurd hj (by omega)⟩
 ·simp [Value.cells] at hcs
  obtain ⟨rfl, rfl, rfl⟩ := hcs
  simp only [if_true] at hz
  refine ⟨by omega, fun j hj => ?_⟩
  obtain ⟨b, off, spot⟩ := a
  have g0 : spot = none := by simpa [Addr.add] using World.cell?_spot (hcell 0 (by omega))
  subst g0
  have hc := hcell j (by omega)
  rw [add_plain] at hc
  have g2 : zs.getD j 0 ∈ zs := by rw [List.getD_eq_getElem?_getD, List.getElem?_eq_getElem (by omega)]; exact List.getElem_mem _
  exact ⟨b, off, zs.getD j 0, rfl, World.block_lt_of_cell? _ _ hc, hc, g1 _ g2⟩
theorem zwa {H : Type} {enc : TypeId × Value -> H} {W : World} {base : Nat} {v : Value} {d : DataW H} {p : List MemPlace} (hv : Value.okWide Tryz.prog W .any base 42 v)
  (h : DataW.Trod enc Tryz.prog W 0 (fun _ => true) true 42 v d p) : ∃ L : List V.Bs, Strs W v L /\ L.length ≤ maxLen /\ ∀ x ∈ L, x.length ≤ maxLen := by
 obtain ⟨a0, len, cap, rfl⟩ := okWide_slice Tryz.underlying42 hv
 obtain ⟨fuel0, hf⟩ := h
 rcases open_strings Tryz.underlying42 Tryz.underlying9 cellsS hf with ⟨hcs, hx⟩ | ⟨a, len', cap', ss, hcs, _, hl, hm, hz, hx, hcell, g2⟩
 ·simp [Value.cells] at hcs
  obtain ⟨rfl, rfl, rfl⟩ := hcs
  exact ⟨[], Strs.nil W, by simp, fun x hx => by simp at hx⟩
 ·simp [Value.cells] at hcs
  obtain ⟨rfl, rfl, rfl⟩ := hcs
  simp only [if_true] at hz
  have g1 : ((ss.take len).map fun s : ByteArray => s.data.toList).length = len := by rw [List.length_map, List.length_take]; omega
  refine ⟨(ss.take len).map fun s : ByteArray => s.data.toList, ⟨some a, cap, by rw [g1], fun j hj => ?_⟩, by omega, fun x hx => ?_⟩
  ·rw [g1] at hj
   obtain ⟨b, off, spot⟩ := a
   have g0 : spot = none := by simpa [Addr.add] using World.cell?_spot (hcell 0 (by omega))
   subst g0
   have hc := hcell j (by omega)
   rw [add_plain] at hc
   refine ⟨b, off, rfl, World.block_lt_of_cell? _ _ hc, ?_⟩
   rw [hc]
   congr 2
   rw [List.getElem_map, List.getElem_take, List.getD_eq_getElem?_getD, List.getElem?_eq_getElem (by omega)]
   exact (zi8 _).symm
  ·rw [List.mem_map] at hx
   obtain ⟨s, hs, rfl⟩ := hx
   rw [zi]
   exact g2 s (List.mem_of_mem_take hs)
open Go.ChangeShapes Go.WideShapes Go.ChangeAt Go.RowKit
theorem zbi {H : Type} {enc : TypeId × Value -> H} {W : World} {base : Nat} {v : Value} {d : DataW H} {p : List MemPlace} (hv : Value.okWide Tryz.prog W .any base 22 v)
  (h : DataW.Trod enc Tryz.prog W 0 (fun _ => true) true 22 v d p) : ∃ a m cap, v = .slice a m cap /\ Nums W a m /\ m ≤ cap := by
 obtain ⟨a1, m1, c1, e1, hn⟩ := zvp hv h
 obtain ⟨a0, len, cap, rfl⟩ := okWide_slice Tryz.underlying22 hv
 cases e1
 refine ⟨_, _, _, rfl, hn, ?_⟩
 obtain ⟨fuel0, hf⟩ := h
 rcases open_ints Tryz.underlying22 Tryz.underlying3 cellsI hf with ⟨hcs, hx⟩ | ⟨a, len', cap', zs, hcs, _, hl, hm, hz, hx, hcell, g0⟩
 ·simp [Value.cells] at hcs
  obtain ⟨rfl, rfl, rfl⟩ := hcs
  exact zwi _
 ·simp [Value.cells] at hcs
  obtain ⟨rfl, rfl, rfl⟩ := hcs
  exact hl
open Go.ChangeShapes Go.WideShapes Go.ChangeAt Go.RowKit
section
variable {H : Type} {enc : TypeId × Value -> H} {P : Program} {w : World} {base : Nat} {spare : Nat -> Bool} {held : Bool}
theorem zob {t t' t'' t3 t4 : TypeId} {args : Array Value} {ds : List (DataW H)} {ps : List MemPlace} (h : DataW.TrodAll enc P w base spare held [t, t', t'', t3, t4] args.toList ds ps) :
  ∃ v v' v'' v3 v4 d d' d'' d3 d4 p p' p'' p3 p4, args = #[v, v', v'', v3, v4] /\ ds = [d, d', d'', d3, d4] /\ ps = p ++ p' ++ p'' ++ p3 ++ p4 /\ DataW.Trod enc P w base spare held t v d p /\ DataW.Trod enc P w base spare held t' v' d' p' /\ DataW.Trod enc P w base spare held t'' v'' d'' p'' /\ DataW.Trod enc P w base spare held t3 v3 d3 p3 /\ DataW.Trod enc P w base spare held t4 v4 d4 p4 := by
 obtain ⟨v, vs, d, ds', p, q, g9, rfl, rfl, hd, g4⟩ := trodAll_cons h
 obtain ⟨v', vs', d', ds'', p', q', rfl, rfl, rfl, g6, g1⟩ := trodAll_cons g4
 obtain ⟨v'', vs'', d'', ds''', p'', q'', rfl, rfl, rfl, g5, g0⟩ := trodAll_cons g1
 obtain ⟨v3, vs3, d3, ds3, p3, q3, rfl, rfl, rfl, g7, g2⟩ := trodAll_cons g0
 obtain ⟨v4, vs4, d4, ds4, p4, q4, rfl, rfl, rfl, g8, g3⟩ := trodAll_cons g2
 obtain ⟨rfl, rfl, rfl⟩ := trodAll_nil g3
 exact ⟨v, v', v'', v3, v4, d, d', d'', d3, d4, p, p', p'', p3, p4, by cases args; simp_all, rfl, by simp, hd, g6, g5, g7, g8⟩
theorem zrd {t t' t'' t3 t4 : TypeId} {v v' v'' v3 v4 : Value} {d d' d'' d3 d4 : DataW H} {p p' p'' p3 p4 : List MemPlace} (h : DataW.Trod enc P w base spare held t v d p) (h' : DataW.Trod enc P w base spare held t' v' d' p')
  (g0 : DataW.Trod enc P w base spare held t'' v'' d'' p'') (h3 : DataW.Trod enc P w base spare held t3 v3 d3 p3) (h4 : DataW.Trod enc P w base spare held t4 v4 d4 p4) : DataW.TrodAll enc P w base spare held [t, t', t'', t3, t4] [v, v', v'', v3, v4] [d, d', d'', d3, d4] (p ++ (p' ++ (p'' ++ (p3 ++ p4)))) :=
 ⟨p, p' ++ (p'' ++ (p3 ++ p4)), h, trodAll_mk4 h' g0 h3 h4, rfl⟩
end
end Go.Proofs.YtbikeahmldobkaaGreatDoor
namespace Go.Proofs.YtbikeahmldobkaaGreatDoor.laying
open Go.RowKit
theorem own : ownKnob Tryz.prog.godebug = none := by kernel_rfl
theorem laidOut : laidOutB Tryz.prog = true := by kernel_rfl
mutual
def flat : DataW Unit -> List Value
 | .lit (.int k n) => [.int k n]
 | .agg ps => zub ps
 | _ => []
def zub : List (DataW Unit) -> List Value
 | [] => []
 | d :: r => flat d ++ zub r
end
def zpu (l : List Value) : Obj -> Obj
 | .cells _ t frozen => .cells l.toArray t frozen
 | o => o
noncomputable def laidWorld (os : Os) : World :=
 { World.holding Tryz.prog os ⟨#[], #[], []⟩ with
   heap := ((World.holding Tryz.prog os ⟨#[], #[], []⟩).heap.modify 2 (zpu (flat Rows.laid_unicode_utf8_acceptRanges))).modify 1 (zpu (flat Rows.laid_unicode_utf8_first)) }
end Go.Proofs.YtbikeahmldobkaaGreatDoor.laying
namespace Go.Proofs.YtbikeahmldobkaaGreatDoor
open Go.RowKit
theorem zcc : laidOutB Tryz.prog = true := by kernel_rfl
theorem zct : mapsRowed Tryz.prog = true := by kernel_rfl
end Go.Proofs.YtbikeahmldobkaaGreatDoor
