/-
  Lemmas for the law.
-/
import Derived.Test.YtiloljoancdcbaaGreatDoorC40x26
import Derived.Test.YtiloljoancdcbaaGreatDoorC40x28
import Derived.Test.YtiloljoancdcbaaGreatDoorC40x22
import Derived.Test.YtiloljoancdcbaaGreatDoorC40x39
import Derived.Test.YtiloljoancdcbaaGreatDoorC40x38
set_option linter.all false
set_option maxRecDepth 100000
set_option maxHeartbeats 6400000
namespace Go.Proofs.YtiloljoancdcbaaGreatDoor
open Go.RowKit
namespace V
theorem words_at {P l : List Bs} {j : Nat} (h : qg P = (qg (P.drop j)).map (l ++ ·)) (hj : j < P.length) :
  (unwP P[j] = ([], false) -> qg P = none) /\ (∀ w, unwP P[j] = (w, true) -> qg P = (qg (P.drop (j + 1))).map ((l ++ [w]) ++ ·)) := by
 rw [List.drop_eq_getElem_cons hj, qg] at h
 unfold unwP
 cases hu : unwR P[j] with
 | none =>
  rw [hu] at h
  exact ⟨fun _ => h, fun w e => by simp at e⟩
 | some w0 =>
  rw [hu] at h
  refine ⟨fun e => by simp at e, fun w e => ?_⟩
  simp only [Prod.mk.injEq, and_true] at e
  subst e
  rw [h]
  cases qg (P.drop (j + 1)) <;> simp
theorem zfk (s : Bs) : unwP s = ([], false) ∨ ∃ w, unwP s = (w, true) /\ unwR s = some w := by
 unfold unwP
 cases unwR s with
 | none => exact .inl rfl
 | some w => exact .inr ⟨w, rfl, rfl⟩
theorem rows_at {R : List Bs} {ls : List (List Bs)} {k : Nat} (h : kz R = (kz (R.drop k)).map (ls ++ ·)) (hk : k < R.length) :
  (qg (zd 32 R[k]) = none -> kz R = none) /\ (∀ l, qg (zd 32 R[k]) = some l -> kz R = (kz (R.drop (k + 1))).map ((ls ++ [l]) ++ ·)) := by
 rw [List.drop_eq_getElem_cons hk, kz] at h
 refine ⟨fun e => ?_, fun l e => ?_⟩
 ·rw [e] at h; exact h
 ·rw [e] at h
  rw [h]
  simp only
  cases kz (R.drop (k + 1)) <;> simp
theorem unwR_len {s w : Bs} (h : unwR s = some w) : w.length ≤ s.length := by
 have h1 := vm w
 rw [zm1 h] at h1
 rw [h1]
 unfold wj
 have := le_sum w
 omega
theorem zda (c : UInt8) {s x : Bs} (h : x ∈ zd c s) : x.length ≤ s.length := by
 have h1 := zdl c s
 have h2 : ∀ {l : List Bs} {x : Bs}, x ∈ l -> x.length + 1 ≤ (l.map fun x => x.length + 1).sum := by
  intro l x hx
  induction l with
  | nil => cases hx
  | cons y l ih =>
   rw [List.map_cons, List.sum_cons]
   rcases List.mem_cons.1 hx with rfl | hx
   ·omega
   ·have := ih hx; omega
 have := h2 h
 omega
theorem zfu (c : UInt8) (s : Bs) : (zd c s).length ≤ s.length + 1 := by
 have h1 := zdl c s
 have h2 : ∀ l : List Bs, l.length ≤ (l.map fun x => x.length + 1).sum := by
  intro l
  induction l with
  | nil => simp
  | cons y l ih => rw [List.map_cons, List.sum_cons, List.length_cons]; omega
 have := h2 (zd c s)
 omega
theorem zhb : ∀ {P l : List Bs} {M : Nat}, qg P = some l -> (∀ s ∈ P, s.length ≤ M) -> ∀ w ∈ l, w.length ≤ M
 | [], l, M, h, _ => by cases h; intro w hw; cases hw
 | s :: P, l, M, h, hm => by
  rw [qg] at h
  cases hs : unwR s with
  | none => rw [hs] at h; cases h
  | some w =>
   rw [hs] at h
   simp only at h
   cases hr : qg P with
   | none => rw [hr] at h; cases h
   | some l' =>
    rw [hr] at h
    cases h
    intro x hx
    rcases List.mem_cons.1 hx with rfl | hx
    ·have := unwR_len hs
     have := hm s (List.mem_cons_self ..)
     omega
    ·exact zhb hr (fun s hs => hm s (List.mem_cons_of_mem _ hs)) x hx
theorem zqw : ∀ {R : List Bs} {ls : List (List Bs)} {M : Nat}, kz R = some ls -> (∀ s ∈ R, s.length ≤ M) -> ∀ l ∈ ls, ∀ w ∈ l, w.length ≤ M
 | [], ls, M, h, _ => by cases h; intro l hl; cases hl
 | x :: R, ls, M, h, hm => by
  rw [kz] at h
  cases hs : qg (zd 32 x) with
  | none => rw [hs] at h; cases h
  | some l =>
   rw [hs] at h
   simp only at h
   cases hr : kz R with
   | none => rw [hr] at h; cases h
   | some ls' =>
    rw [hr] at h
    cases h
    intro y hy
    rcases List.mem_cons.1 hy with rfl | hy
    ·exact zhb hs (fun s hs => Nat.le_trans (zda 32 hs) (hm x (List.mem_cons_self ..)))
    ·exact zqw hr (fun s hs => hm s (List.mem_cons_of_mem _ hs)) y hy
end V
def zae (w : World) (v : Value) (bs : V.Bs) : Prop :=
 ∃ a cap, v = .slice a bs.length cap /\ bs.length ≤ cap /\ ∀ j (h : j < bs.length), ∃ b off, a = some ⟨b, off, none⟩ /\ b < w.heap.size /\ w.cell? ⟨b, off + j, none⟩ = some (.int .u8 (bs[j]).toNat)
theorem zae.below {w w' : World} {v : Value} {bs : V.Bs} (h : zae w v bs) (hb : Below w.heap.size w w') : zae w' v bs := by
 obtain ⟨a, cap, e, hc, hat⟩ := h
 refine ⟨a, cap, e, hc, fun j hj => ?_⟩
 obtain ⟨b, off, ea, hlt, hr⟩ := hat j hj
 exact z1h
theorem zfr (w : World) (g off n cap : Nat) (bs : V.Bs) (hn : bs.length = n) (hc : ∀ j (h : j < bs.length), w.cell? ⟨g, off + j, none⟩ = some (.int .u8 (bs[j]).toNat)) :
  (convert 36 9 (.slice (some ⟨g, off, none⟩) n cap)).run Tryz.prog w = .ok (.string ⟨bs.toArray⟩) w := by
 subst hn
 have r := run_convert_bytes_arg (P := Tryz.prog) w 36 5 Tryz.underlying36 Tryz.underlying5 g off bs.length cap (bs.map fun b => (b.toNat : Int)) (by simp) (fun i hi => by
   rw [hc i hi, List.getD_eq_getElem?_getD, List.getElem?_map, List.getElem?_eq_getElem hi]
   rfl) 9 Tryz.underlying9
 refine r.trans (congrArg (fun x => Result.ok (Value.string x) w) (jj ?_))
 rw [strOfNums_data, List.map_map]
 simp only [wl]
 conv => rhs; rw [← List.map_id bs]
 apply List.map_congr_left
 intro b _
 simp
def strsV (l : List V.Bs) : Array Value := (l.map fun x => Value.string ⟨x.toArray⟩).toArray
theorem zku (c : UInt8) (s : V.Bs) (w : World) (hm : zg w) (hs : s.length < 4294967281) :
  Calls Tryz.prog 63 #[.string ⟨s.toArray⟩, .string ⟨#[c]⟩] w fun e w' =>
   e = .returned (.slice (some ⟨w.heap.size, 0, none⟩) (V.zd c s).length (V.zd c s).length) /\ w' = w.alloc (.cells (strsV (V.zd c s)) 9) := by
 obtain ⟨m, hm⟩ := hm
 have hsp : (Lib.splitB ⟨#[c]⟩ 0 (Lib.countB ⟨s.toArray⟩ ⟨#[c]⟩) ⟨s.toArray⟩).map (·.data.toList) = V.zd c s := by
  rw [Lib.splitB_data]
  exact V.zg3 c _ s (zvs _)
 have hlen := Lib.splitB_all ⟨#[c]⟩ (zvs 1) 0 _ ⟨s.toArray⟩ rfl
 have hl : (V.zd c s).length = Lib.countB ⟨s.toArray⟩ ⟨#[c]⟩ + 1 := by rw [← hsp, List.length_map, hlen]
 have hcs : strsV (V.zd c s) = ((Lib.splitB ⟨#[c]⟩ 0 (Lib.countB ⟨s.toArray⟩ ⟨#[c]⟩) ⟨s.toArray⟩).map Value.string).toArray := by
  unfold strsV
  rw [← hsp, List.map_map]
  congr 1
 refine (Tryz.strings_Split ⟨s.toArray⟩ ⟨#[c]⟩ m w (by rw [yi]; exact hs) hm (zvs 1)).mono ?_
 rintro e w' ⟨rfl, rfl⟩
 rw [hl, hcs]
 exact ⟨rfl, rfl⟩
theorem zjx {α : Type} {enc : α -> List Value} {k : Nat} {T : TypeId} {ops : Array Oper} {rest : List Oper} {o : Oper} {a : Act} {w : World} {Q : Exit -> Act -> World -> Prop} (hk : ∀ x, (enc x).length = k) (hk0 : 0 < k) (h1c : ∀ x, ∀ u ∈ enc x, u.oneCell' = true) {bytes : Nat} (hi : ye T k bytes) (hby : bytes ≤ 1000) (hgd : o.guard = none) (s x : Operand) (S : TypeId)
  (ho : o.op = .call { callee := .builtin .append, args := #[s, x], argTypes := #[S, S] }) (hu : Tryz.prog.underlying S = some (.slice T))
  (N : Nat) (v : Value) (l : List α) (hs : a.eval s = v) (hown : GRow T k enc w N v l) (b : Nat) (c : α) (hx : a.eval x = .slice (some ⟨b, 0, none⟩) 1 1) (hr : ∀ j u, (enc c)[j]? = some u -> w.cell? ⟨b, j, none⟩ = some u) (hl : l.length ≤ 1000000) (hN : N ≤ w.heap.size)
  (h : ∀ v' w', GRow T k enc w' N v' (l ++ [c]) -> w.grownBy w' v.ownBlock -> (v'.ownBlock = v.ownBlock ∨ v'.ownBlock = some w.heap.size) -> wpList Tryz.prog ops Q rest (a.put o.dst v') w') : wpList Tryz.prog ops Q (o :: rest) a w := by
 obtain ⟨ie, z, hie, hz, h1, h2, h3⟩ := hi
 refine wpList_append_own_at w hgd s x S ho N T ie z k bytes hu hie hz h1 h2 h3 hk0 v l.length (l.flatMap enc) hs hown ⟨b, 0, none⟩ 1 1 (enc c) hx (by rw [hk]; omega) ?_ (h1c c) (by unfold maxLen; omega) ?_ hN ?_
 ·exact z05
 ·exact z0c
 ·intro v' w' ho' hg _ hob
  refine h v' w' ?_ hg hob
  exact zz2
def wrdE (s : V.Bs) : List Value := [.string ⟨s.toArray⟩]
theorem zrk (s : V.Bs) : (wrdE s).length = 1 := rfl
theorem zrb (s : V.Bs) : ∀ u ∈ wrdE s, u.oneCell' = true := by
 intro u hu
 simp [wrdE] at hu
 subst hu
 rfl
theorem zub : ye 9 1 16 := by
 have h : (match Tryz.prog.info? 9 with | some i => i.size == 1 && (i.bytes == 16 && (match i.zero with | some z => z.cells.size == 1 | none => false)) | none => false) = true := by kernel_rfl
 unfold ye
 cases hq : Tryz.prog.info? 9 with
 | none => rw [hq] at h; cases h
 | some i =>
  exact zwg
theorem zrf {w : World} {N : Nat} {v : Value} {l : List V.Bs} (h : GRow 9 1 wrdE w N v l) : Strs w v l := by
 obtain ⟨a, cap, rfl⟩ := GRow.slice h
 refine ⟨a, cap, rfl, fun j hj => ?_⟩
 obtain ⟨g, cap2, e, hN, hg, hc⟩ := GRow.at zrk h j hj
 cases e
 exact ⟨g, 0, rfl, hg, by simpa using hc 0 _ rfl⟩
theorem Lines.nil (w : World) : Lines w (.slice none 0 0) [] := ⟨none, 0, rfl, fun j h => by simp at h⟩
def CapOk (v : Value) : Prop := ∃ a n c, v = .slice a n c /\ n ≤ c
theorem LRow.cap {N : Nat} {w : World} {v : Value} {us : List Lsl} {ls : List (List V.Bs)} (h : LRow N w v us ls) : CapOk v := by
 rcases h.row.2 with ⟨rfl, hn⟩ | ⟨g, cap, cur, rfl, _, _, hc, _⟩
 ·exact ⟨_, _, _, rfl, zvs _⟩
 ·exact ⟨_, _, _, rfl, hc⟩
def xq (bs : V.Bs) (w : World) (e : Ending) (w' : World) : Prop :=
 ∃ u, e = .returned (.tuple #[u, .int .i64 (V.decP bs).2]) /\ Lines w' u (V.decP bs).1 /\ CapOk u /\ Below w.heap.size w w'
theorem xq.err {bs : V.Bs} {w w' : World} {c : Int} (h : V.decP bs = ([], c)) (hb : Below w.heap.size w w') : xq bs w (.returned (.tuple #[.slice none 0 0, .int .i64 c])) w' :=
 ⟨_, by rw [h], by rw [h]; exact Lines.nil _, ⟨_, _, _, rfl, zvs _⟩, hb⟩
open Go.RowKit
theorem Lines.at {w : World} {a : Option Addr} {n cap : Nat} {ls : List (List V.Bs)} (h : Lines w (.slice a n cap) ls) (j : Nat) (hj : j < ls.length) : ∃ b off u, a = some ⟨b, off, none⟩ /\ b < w.heap.size /\ w.cell? ⟨b, off + j, none⟩ = some u /\ Strs w u ls[j] := by
 obtain ⟨a', c, e, hc⟩ := h
 cases e
 exact hc j hj
theorem zr0 {w : World} {B off cap m : Nat} {l0 : List V.Bs} {rest : List (List V.Bs)} (h : Lines w (.slice (some ⟨B, off, none⟩) m cap) (l0 :: rest)) (hm : m = rest.length + 1) (hc : m ≤ cap) :
  ∃ o', (if cap = 1 then some (⟨B, off, none⟩ : Addr) else some ⟨B, off + 1, none⟩) = some ⟨B, o', none⟩ /\ ∀ j (hj : j < rest.length), ∃ u, w.cell? ⟨B, o' + j, none⟩ = some u /\ Strs w u rest[j] := by
 by_cases h1 : cap = 1
 ·refine ⟨off, if_pos h1, fun j hj => by omega⟩
 ·refine ⟨off + 1, if_neg h1, fun j hj => ?_⟩
  obtain ⟨b, o, u, e, _, hu, hs⟩ := h.at (j + 1) (by simp; omega)
  cases e
  refine ⟨u, ?_, by simpa using hs⟩
  rw [Nat.add_assoc, Nat.add_comm 1 j]
  exact hu
theorem V.decP_words {bs : V.Bs} : ∀ l ∈ (V.decP bs).1, ∀ x ∈ l, x.length ≤ 32768 := by
 intro l hl x hx
 unfold V.decP at hl
 split at hl
 ·simp at hl
 ·split at hl
  ·rename_i ls hls
   split at hl
   ·simp only at hl
    have hp : ∀ (r : List V.Bs) (ls : List (List V.Bs)), V.jn r = some ls -> ∀ l ∈ ls, V.chk l = 0 := by
     intro r
     induction r with
     | nil => intro ls h; simp [V.jn] at h
     | cons x t ih =>
      intro ls h
      by_cases ht : t = []
      ·subst ht
       unfold V.jn at h
       split at h
       ·cases h; intro l hl; simp at hl
       ·cases h
      ·rw [V.zb6 ht] at h
       split at h
       ·cases h
       ·rename_i l0 _
        split at h
        ·rename_i hc
         rw [Option.map_eq_some_iff] at h
         obtain ⟨ls', h1, rfl⟩ := h
         intro l hl
         rcases List.mem_cons.1 hl with rfl | hl
         ·exact hc
         ·exact ih _ h1 l hl
        ·cases h
    exact (V.zcw.1 (hp _ _ hls l hl)).2.2 x hx
   ·simp at hl
  ·simp at hl
theorem V.decP_len (bs : V.Bs) : (V.decP bs).1.length ≤ 1000 := by
 unfold V.decP
 split
 ·simp
 ·split
  ·split
   ·assumption
   ·simp
  ·simp
def znq (ls : List (List V.Bs)) (w : World) (e : Ending) (w' : World) : Prop :=
 ∃ u us, e = .returned (.tuple #[advV ((V.jk ls).getD V.zV) u, .bool (V.jk ls).isSome]) /\ (FRow w.heap.size w' u us /\ us.map (·.1) = ((V.jk ls).getD V.zV).aff /\ ∀ p ∈ us, ∀ c, p.2.v.ownBlock = some c -> w.heap.size ≤ c) /\ Below w.heap.size w w'
theorem zmv (s : V.Bs) : 0 ≤ (V.numP s).1 /\ (V.numP s).1 ≤ 1099511627776 := by
 unfold V.numP
 split
 ·rename_i h
  constructor
  ·show (0 : Int) ≤ ((V.valD s : Nat) : Int); omega
  ·show ((V.valD s : Nat) : Int) ≤ _; have := h.2.2.2.2; omega
 ·decide
theorem zu0 (n : Int) (s : V.Bs) : Lens (V.parP n s).2.1 /\ (V.parP n s).2.1.length ≤ 32 := by
 unfold V.parP
 split
 ·rename_i l c h
  have hp := (V.zr8 (n := n) (s := s) (l := l) (by rw [h])).1
  exact ⟨zaf hp, hp.len⟩
 ·exact ⟨(fun x hx => by simp at hx), Nat.zero_le _⟩
theorem V.readF_wf {l : List V.Bs} (hw : ∀ x ∈ l, x.length ≤ 32768) : AffWf (V.vh l).1 := by
 have hz : AffWf V.zA := ⟨Nat.zero_le _, (fun x hx => by simp [V.zA] at hx), Nat.zero_le _⟩
 unfold V.vh
 split
 ·rename_i a s n r
  split
  ·have h1 := hw n (by simp)
   have h2 := zu0 (V.qh s) r
   exact ⟨by show n.length ≤ maxLen; unfold maxLen; omega, h2.1, Nat.le_trans h2.2 (by decide)⟩
  ·exact hz
 ·exact hz
theorem zlg (w : World) : Below w.heap.size w (w.alloc (.cells #[.string ⟨#[]⟩, .int .i64 0, .int .i64 0, .slice none 0 0] 25)) /\ (w.alloc (.cells #[.string ⟨#[]⟩, .int .i64 0, .int .i64 0, .slice none 0 0] 25)).heap[w.heap.size]? = some (.cells #[.string ⟨#[]⟩, .int .i64 0, .int .i64 0, .slice none 0 0] 25 (0, 0)) /\ (w.alloc (.cells #[.string ⟨#[]⟩, .int .i64 0, .int .i64 0, .slice none 0 0] 25)).heap.size = w.heap.size + 1 :=
 ⟨(zvt _ w).alloc (zvs _) _, heap_alloc_new w _, by simp⟩
theorem zwj {P : Prop} (h : P := by
 go_wp2_with (first | (refine qr rfl qa _ _ rfl w.heap.size #[.string ⟨#[]⟩, .int .i64 0, .int .i64 0, .slice none 0 0] 25 HK0.out rfl (.string ⟨#[]⟩) (.int .i64 0) (.int .i64 0) (.slice none 0 0) ⟨rfl, rfl, rfl, rfl⟩ rfl rfl ?_) | fail)
 exact HEX.out _ HE.out HK0.out HB0.out _ Tryz.results41 _ rfl rfl rfl) : P := h
theorem zqs (v : Value) (ls : List (List V.Bs)) (w : World) (hm : zg w) (hv : Lines w v ls) (hcap : CapOk v) (hw : ∀ l ∈ ls, ∀ x ∈ l, x.length ≤ 32768) (hn : ls.length ≤ 1000) :
  Calls Tryz.prog 41 #[v] w (znq ls w) := by
 obtain ⟨hb0, hk0, hz0⟩ := zlg w
 have HM := zvq hm
 have HB0 := zvq hb0
 have HK0 := zvq hk0
 have HZ0 := zvq hz0
 clear hz0
 have HU0 := zvq (hv.below hb0)
 have HWD := zvq hw
 obtain ⟨va, vn, vc, rfl, hvc⟩ := hcap
 obtain rfl : vn = ls.length := by obtain ⟨_, _, e, _⟩ := hv; cases e; rfl
 have HEX : Hid (∀ (W : World), V.jk ls = none -> W.heap[w.heap.size]? = some (.cells #[.string ⟨#[]⟩, .int .i64 0, .int .i64 0, .slice none 0 0] 25 (0, 0)) -> Below w.heap.size w W ->
     ∀ fn : Func, fn.results = #[.cell 2 25, .tmp 3] -> ∀ a : Act, a.tmps.getD 2 undef = .pointer (some ⟨w.heap.size, 0, none⟩) -> a.tmps.getD 3 undef = .bool false -> a.defers = [] ->
     bodyPost Tryz.prog fn (znq ls w) .ret a (W.setRow w.heap.size #[.string ⟨#[]⟩, .int .i64 0, .int .i64 0, .slice none 0 0])) := zvq (by
   intro W hr hg hb fn hfn a h4 h5 h6
   refine bodyPost_ret (jz hfn h4 h5 (zdg Tryz.underlying25 qa (setRow_heap _ _ _ _ _ _ hg))) h6 ?_
   exact ⟨.slice none 0 0, [], by rw [hr]; rfl, ⟨FRow.nil _ _, by rw [hr]; rfl, fun p hp => by simp at hp⟩, qu hb _ _ (zvs _) (Array.getElem?_eq_some_iff.1 hg).1⟩)
 clear hm hv hw hb0 hk0
 match ls, HU0, HWD, hvc, hn, HEX with
 | [], HU0, HWD, hvc, hn, HEX =>
  have HE : Hid (V.jk [] = none) := zvq rfl
  clear HU0 HWD
  go_enter Tryz.func41, Tryz.ntmps41
  exact zwj
 | l0 :: rest, HU0, HWD, hvc, hn, HEX =>
  obtain ⟨B, off, u0, rfl, hBlt, hu0, hs0⟩ := HU0.out.at 0 (by simp)
  rw [Nat.add_zero] at hu0
  simp only [List.getElem_cons_zero] at hs0
  obtain ⟨m, hmm⟩ : ∃ m, m = rest.length + 1 := ⟨_, rfl⟩
  have hls : (l0 :: rest).length = m := by rw [hmm]; rfl
  rw [hls] at hvc hn HU0 ⊢
  have HMM := zvq hmm
  have q1 : (m : Int) ≠ 0 := by omega
  have q2 : ((m : Int) == 0) = false := by rw [zvu]; omega
  have q3 : (0 : Int) < (m : Int) := by omega
  clear hls hmm
  by_cases h4 : l0.length = 4
  case neg =>
   have HE := zvq (V.zne (rest := rest) h4)
   obtain ⟨a0, c0, rfl, hjunk⟩ := hs0
   have q4 : ((l0.length : Int) != 4) = true := by simp; omega
   have q5 : ¬ (l0.length : Int) = 4 := by omega
   clear hjunk HU0 HWD h4
   generalize l0.length = m0 at *
   go_enter Tryz.func41, Tryz.ntmps41
   exact zwj
  obtain ⟨a, i, r, s, rfl⟩ := zde h4
  obtain ⟨b0, o0, c0, rfl, hb0lt, ca, ci, cr, cs⟩ := zd4 hs0
  have hrl : (⟨r.toArray⟩ : ByteArray).size ≤ maxLen := by rw [yi]; have := HWD.out _ (List.mem_cons_self ..) r (by simp); unfold maxLen; omega
  have hsl : (⟨s.toArray⟩ : ByteArray).size ≤ maxLen := by rw [yi]; have := HWD.out _ (List.mem_cons_self ..) s (by simp); unfold maxLen; omega
  clear h4 hs0
  by_cases ha : a = V.advW
  case neg =>
   have HE : Hid (V.jk ([a, i, r, s] :: rest) = none) := zvq (by rw [V.zbr, if_neg (fun e => ha e.1)])
   have hne : (a == [97, 100, 118, 105, 115, 111, 114, 121]) = false := by rw [zvu]; exact ha
   clear HU0 HWD ha ci cr cs hrl hsl
   go_enter Tryz.func41, Tryz.ntmps41
   exact zwj
  subst ha
  have hcw : (⟨V.advW.toArray⟩ : ByteArray) = ⟨#[97, 100, 118, 105, 115, 111, 114, 121]⟩ := rfl
  rw [hcw] at ca
  clear hcw
  have HF := zvq (V.zbr V.advW i r s rest)
  have HRL := zvq hrl
  have HSL := zvq hsl
  clear hrl hsl
  go_enter Tryz.func41, Tryz.ntmps41
  go_wp2_with fail
  generalize w.alloc (.cells #[.string ⟨#[]⟩, .int .i64 0, .int .i64 0, .slice none 0 0] 25) = w0 at *
  refine (zbt ⟨r.toArray⟩ w0 HRL.out).mono ?_
  rintro e w' ⟨rfl, rfl⟩
  rw [kk] at *
  have HF1 : Hid ((V.numP r).2 = false -> V.jk ([V.advW, i, r, s] :: rest) = none) := zvq (fun h => by rw [HF.out, if_neg (fun e => by rw [h] at e; cases e.2.1)])
  have HF2 : Hid ((V.numP s).2 = false -> V.jk ([V.advW, i, r, s] :: rest) = none) := zvq (fun h => by rw [HF.out, if_neg (fun e => by rw [h] at e; cases e.2.2)])
  have HF3 : Hid ((V.numP r).2 = true -> (V.numP s).2 = true -> V.jk ([V.advW, i, r, s] :: rest) = (V.ks rest).map fun l => ⟨i, (V.numP r).1, (V.numP s).1, l⟩) := zvq (fun h g => by rw [HF.out, if_pos (by simp [h, g])])
  clear HF
  generalize (V.numP r).1 = nr at *
  generalize (V.numP r).2 = okr at *
  go_wp2_with fail
  refine (zbt ⟨s.toArray⟩ _ HSL.out).mono ?_
  rintro e w' ⟨rfl, rfl⟩
  rw [kk] at *
  have hns := zmv s
  generalize (V.numP s).1 = ns at *
  generalize (V.numP s).2 = oks at *
  by_cases hno : okr = true /\ oks = true
  case neg =>
   have HE : Hid (V.jk ([V.advW, i, r, s] :: rest) = none) := zvq (by
     rcases okr with _ | _
     · exact HF1.out rfl
     · rcases oks with _ | _
       · exact HF2.out rfl
       · exact absurd ⟨rfl, rfl⟩ hno)
   clear HF1 HF2 HF3 HU0 HWD ca ci cr cs hu0
   rcases okr with _ | _
   ·exact zwj
   ·rcases oks with _ | _
    ·exact zwj
    ·exact absurd ⟨rfl, rfl⟩ hno
  obtain ⟨rfl, rfl⟩ := hno
  have HN3 : Hid (V.ks rest = none -> V.jk ([V.advW, i, r, s] :: rest) = none) := zvq (fun h => by rw [HF3.out rfl rfl, h]; rfl)
  have HN4 : Hid (∀ l, V.ks rest = some l -> V.jk ([V.advW, i, r, s] :: rest) = some ⟨i, nr, ns, l⟩) := zvq (fun l h => by rw [HF3.out rfl rfl, h]; rfl)
  obtain ⟨o2, hpart, hparts⟩ := zr0 HU0.out HMM.out hvc
  have HPT := zvq hparts
  have hm1 : m - 1 = rest.length := by have := HMM.out; omega
  have wns : IntKind.i64.wrap ns = ns := IntWalk.i64_in _ (by omega)
  have hb5 : Below w'.heap.size w' (w'.alloc (.cells #[.string ⟨i.toArray⟩, .int .i64 nr, .int .i64 ns, .slice none 0 0] 25)) := (zvt _ w').alloc (zvs _) _
  have HD5 : Hid (VInv w' w.heap.size w'.heap.size (.string ⟨i.toArray⟩) (.int .i64 nr) (.int .i64 ns) (.slice none 0 0) [] (w'.alloc (.cells #[.string ⟨i.toArray⟩, .int .i64 nr, .int .i64 ns, .slice none 0 0] 25))) := zvq ⟨FRow.nil _ _, heap_alloc_new w' _, (hb5.block _ (by have := HZ0.out; omega)).trans HK0.out, (fun p hp => by simp at hp), hb5, by have := HZ0.out; omega⟩
  have HBO : Hid (w.heap.size + 1 ≤ w'.heap.size /\ B < w'.heap.size /\ rest.length ≤ 999) := zvq ⟨by have := HZ0.out; omega, hBlt, by have := HMM.out; omega⟩
  clear hb5 HF1 HF2 HF3 hparts ca cr cs
  go_wp2_with fail
  generalize w'.alloc (.cells #[.string ⟨i.toArray⟩, .int .i64 nr, .int .i64 ns, .slice none 0 0] 25) = w5 at *
  obtain ⟨O, hO⟩ : ∃ O, O = w'.heap.size := ⟨_, rfl⟩
  try rw [hm1]
  rw [← hO] at HD5 HBO ⊢
  have HOE := zvq hO
  clear hO hpart hm1 hBlt hb0lt hvc hn q1 q2 q3 hu0 ci
  go_loopw [68] (fun jv W => ∃ (k : Nat) (vo : Value) (us : List Fs), k ≤ rest.length /\ us.length = k /\ jv = .int .i64 k /\ V.vx rest k (us.map (·.1)) /\ VInv w' w.heap.size O (.string ⟨i.toArray⟩) (.int .i64 nr) (.int .i64 ns) vo us W) (fun jv _ => rest.length - (intOf jv).toNat)
  case atStart => exact ⟨0, _, [], Nat.zero_le _, rfl, rfl, V.zgr _, HD5.out⟩
  case round =>
   obtain ⟨k, vo, us, hk, hok, rfl, hrt, hdi⟩ := hrel
   have HRT := zvq hrt
   have HOK := zvq hok
   have HDI := zvq hdi
   obtain ⟨vao, vco, hvo⟩ := hdi.row.slice
   subst hvo
   have hBO := HBO.out
   clear hok hrt HD5
   by_cases hlt : k < rest.length
   ·obtain ⟨u, hu, hs⟩ := HPT.out k hlt
    have hold : Below w'.heap.size w' wr := by rw [← HOE.out]; exact hdi.old
    have huW := zb hold hu
    have HSW := zvq (kp hs hold)
    have HWL : Hid (∀ x ∈ rest[k], x.length ≤ 32768) := zvq (fun x hx => HWD.out _ (List.mem_cons_of_mem _ (List.getElem_mem hlt)) x hx)
    have HWM : Hid (∀ x ∈ rest[k], x.length ≤ maxLen) := zvq (fun x hx => by have := HWL.out x hx; unfold maxLen; omega)
    have HMW := zvq (HM.out.below (HB0.out.trans (hold.mono HB0.out.size)))
    obtain ⟨au, cu, hue, hj⟩ := HSW.out
    subst hue
    have HNO := zvq (V.zkz HRT.out hlt)
    have HYES := zvq (V.zgq HRT.out hlt)
    have HWF := zvq (V.readF_wf HWL.out)
    have hi1 : (0 : Int) ≤ (k : Int) := by omega
    have hi2 : (k : Int) < (rest.length : Int) := by omega
    clear hj hold hu hs hdi hBO
    go_wp2_with fail
    refine (zix _ rest[k] wr HMW.out HSW.out HWM.out).mono ?_
    rintro e w6 ⟨u6, rfl, hu6, how6, hb6⟩
    have HD6 := zvq (HDI.out.call hb6)
    have HOW6 : Hid (∀ c, u6.ownBlock = some c -> O < c) := zvq (fun c hc => by have := how6 c hc; have := HDI.out.lt; omega)
    have HRO : Hid (∀ c, u6.ownBlock = some c -> (Value.slice vao us.length vco).ownBlock ≠ some c) := zvq (fun c hc e => by
      have h1 := how6 c hc
      obtain ⟨_, hq⟩ := HDI.out.row.row
      rcases hq with ⟨e2, _⟩ | ⟨b, cap, cur, e2, _, hgg, _⟩
      · rw [e2] at e; cases e
      · rw [e2] at e
        simp [Value.ownBlock] at e
        subst e
        have := (Array.getElem?_eq_some_iff.1 hgg).1
        omega)
    obtain ⟨ua6, uc6, hue6⟩ := hu6.slice
    subst hue6
    have HI6 := zvq hu6
    clear hb6 HDI HSW HWL HWM HRT huW how6 hu6
    generalize (V.vh rest[k]).1 = a at *
    generalize (V.vh rest[k]).2 = ok at *
    unfold affV
    obtain ⟨hb7, y0, y1, y2, y3⟩ := zc6 a (.slice ua6 a.its.length uc6) w6
    have HD7 := zvq (HD6.out.call hb7)
    have HI7 := zvq (HI6.out.below hb7)
    have hXO : O < w6.heap.size := HD6.out.lt
    clear hb7 HD6 HI6
    rcases ok with _ | _
    ·have HE := zvq (HN3.out (HNO.out rfl))
     have HB7 : Hid (Below w.heap.size w (w6.alloc (.cells #[.int .i64 a.sch, .string ⟨a.name.toArray⟩, .int .i64 a.rs, .slice ua6 a.its.length uc6] 34))) := zvq (HB0.out.trans (HD7.out.old.mono (show w.heap.size ≤ O by have := HD7.out.base; omega)))
     go_wp2_with (first | (refine qr rfl qa _ _ rfl w.heap.size #[.string ⟨#[]⟩, .int .i64 0, .int .i64 0, .slice none 0 0] 25 HD7.out.zero rfl (.string ⟨#[]⟩) (.int .i64 0) (.int .i64 0) (.slice none 0 0) ⟨rfl, rfl, rfl, rfl⟩ rfl rfl ?_) | fail)
     exact HEX.out _ HE.out HD7.out.zero HB7.out _ Tryz.results41 _ rfl rfl rfl
    ·have HR8 := zvq (HYES.out rfl)
     have hi3 := (zau HD7.out.inv).2.2.2
     have hout : us.length ≤ 1000 := by have := HBO.out; have := HOK.out; omega
     have hr9 : rest.length ≤ 999 := HBO.out.2.2
     have wr1 : IntKind.i64.wrap ((k : Int) + 1) = (k : Int) + 1 := IntWalk.i64_in _ (by omega)
     have hO7 : O ≤ (w6.alloc (.cells #[.int .i64 a.sch, .string ⟨a.name.toArray⟩, .int .i64 a.rs, .slice ua6 a.its.length uc6] 34)).heap.size := Nat.le_of_lt HD7.out.lt
     have HP7 : Hid (FOk (w6.alloc (.cells #[.int .i64 a.sch, .string ⟨a.name.toArray⟩, .int .i64 a.rs, .slice ua6 a.its.length uc6] 34)) (.slice vao us.length vco) (a, ⟨ua6, a.its.length, uc6⟩)) := zvq ⟨HWF.out, rfl, HI7.out, fun _ => HRO.out⟩
     clear HNO HYES hi1 hi2
     have hb8 : Below (w6.alloc (.cells #[.int .i64 a.sch, .string ⟨a.name.toArray⟩, .int .i64 a.rs, .slice ua6 a.its.length uc6] 34)).heap.size (w6.alloc (.cells #[.int .i64 a.sch, .string ⟨a.name.toArray⟩, .int .i64 a.rs, .slice ua6 a.its.length uc6] 34)) ((w6.alloc (.cells #[.int .i64 a.sch, .string ⟨a.name.toArray⟩, .int .i64 a.rs, .slice ua6 a.its.length uc6] 34)).alloc (.cells #[.int .i64 a.sch, .string ⟨a.name.toArray⟩, .int .i64 a.rs, .slice ua6 a.its.length uc6] 34)) := (zvt _ _).alloc (zvs _) _
     have HA := zvq (HD7.out.call hb8)
     have HP8 : Hid (FOk ((w6.alloc (.cells #[.int .i64 a.sch, .string ⟨a.name.toArray⟩, .int .i64 a.rs, .slice ua6 a.its.length uc6] 34)).alloc (.cells #[.int .i64 a.sch, .string ⟨a.name.toArray⟩, .int .i64 a.rs, .slice ua6 a.its.length uc6] 34)) (.slice vao us.length vco) (a, ⟨ua6, a.its.length, uc6⟩)) := zvq ⟨HP7.out.1, HP7.out.2.1, HP7.out.2.2.1.below hb8, HP7.out.2.2.2⟩
     have HNW : Hid (∀ j u, (fE (a, ⟨ua6, a.its.length, uc6⟩))[j]? = some u -> ((w6.alloc (.cells #[.int .i64 a.sch, .string ⟨a.name.toArray⟩, .int .i64 a.rs, .slice ua6 a.its.length uc6] 34)).alloc (.cells #[.int .i64 a.sch, .string ⟨a.name.toArray⟩, .int .i64 a.rs, .slice ua6 a.its.length uc6] 34)).cell? ⟨w6.heap.size + 1, j, none⟩ = some u) := zvq (fun j u hj => by rw [ze, if_pos (by simp)]; simpa [fE, Sl.v] using hj)
     have HO8 : Hid (O ≤ ((w6.alloc (.cells #[.int .i64 a.sch, .string ⟨a.name.toArray⟩, .int .i64 a.rs, .slice ua6 a.its.length uc6] 34)).alloc (.cells #[.int .i64 a.sch, .string ⟨a.name.toArray⟩, .int .i64 a.rs, .slice ua6 a.its.length uc6] 34)).heap.size) := zvq (Nat.le_of_lt HA.out.lt)
     clear hb8 hO7
     go_wp2_with (first | (refine uy zhk (by decide) zon affGI (by decide) rfl _ _ 23 rfl Tryz.underlying23 O (.slice vao us.length vco) us rfl HA.out.row.row (w6.heap.size + 1) (a, ⟨ua6, a.its.length, uc6⟩) rfl HNW.out (by omega) HO8.out ?_
                           intro v8 w8 hr8 hg8 ho8
                           have hk8 := HA.out.invKept hg8
                           have hc8 : w8.cell? ⟨O, 3, none⟩ = some (.slice vao us.length vco) := (zau hk8).2.2.2
                           have hf8 : w8.frozen? ⟨O, 3, none⟩ = false := zbj hk8
                           have hfr := HA.out.row.add hr8 hg8 ho8 HP8.out
                           have HM9 := zvq (HA.out.append hfr hg8 HOW6.out)
                           obtain ⟨va8, vc8, hv8⟩ := hfr.slice
                           subst hv8
                           rw [show (us ++ [((a, ⟨ua6, a.its.length, uc6⟩) : Fs)]).length = us.length + 1 by simp] at HM9 ⊢
                           clear hr8 hg8 ho8 hk8 hfr)
                        | (refine zpb rfl 23 _ _ rfl O 3 rfl (.slice va8 (us.length + 1) vc8) rfl _ hc8 hf8 zev rfl ?_
                           clear hc8 hf8
                           generalize w8.setCell ⟨O, 3, none⟩ (.slice va8 (us.length + 1) vc8) = w9 at *) | fail)
     go_roundw
     case rel => exact ⟨k + 1, _, us ++ [(a, ⟨ua6, a.its.length, uc6⟩)], by omega, by rw [List.length_append, HOK.out]; rfl, by go_num, by rw [List.map_append]; exact HR8.out, HM9.out⟩
     case measure => simp [intOf]; omega
   ·obtain rfl : k = rest.length := by omega
    have HAL := zvq (HN4.out _ (V.zii HRT.out))
    have HBW : Hid (Below w.heap.size w wr) := zvq (HB0.out.trans (hdi.old.mono (show w.heap.size ≤ O by omega)))
    have HAF := zvq hdi.row.affs
    have hc4 := zau hdi.inv
    obtain ⟨z0, z1, z2, z3⟩ := hc4
    clear hdi hBO
    go_wp2_with (first | (refine qr rfl qa _ _ rfl w.heap.size #[.string ⟨#[]⟩, .int .i64 0, .int .i64 0, .slice none 0 0] 25 HDI.out.zero rfl (.string ⟨i.toArray⟩) (.int .i64 nr) (.int .i64 ns) (.slice vao us.length vco) ⟨rfl, rfl, rfl, rfl⟩ rfl rfl ?_) | fail)
    refine bodyPost_ret (v := .tuple #[.agg #[.string ⟨i.toArray⟩, .int .i64 nr, .int .i64 ns, .slice vao us.length vco], .bool true]) (jz Tryz.results41 rfl rfl (zdg Tryz.underlying25 qa (setRow_heap _ _ _ _ _ _ HDI.out.zero))) rfl ?_
    have hbase : w.heap.size + 1 ≤ O := HDI.out.base
    refine ⟨.slice vao us.length vco, us, by rw [HAL.out]; rfl, ⟨?_, by rw [HAL.out]; rfl, fun p hp c hc => by have := HDI.out.own p hp c hc; omega⟩, qu HBW.out _ _ (zvs _) (Array.getElem?_eq_some_iff.1 HDI.out.zero).1⟩
    exact (HDI.out.row.kept (qk _ _ _) (HDI.out.rowNe HDI.out.zero (by decide)) (fun p hp c hc => by have := HDI.out.own p hp c hc; omega)).weaken (by omega)
end Go.Proofs.YtiloljoancdcbaaGreatDoor
