import Derived.Test.YtcfbkcapbbhmpaaGreatDoorC39x15
import Derived.Test.YtcfbkcapbbhmpaaGreatDoorC39x13
import Derived.Test.YtcfbkcapbbhmpaaGreatDoorC39x23
import Derived.Test.YtcfbkcapbbhmpaaGreatDoorC39x14
import Derived.Test.YtcfbkcapbbhmpaaGreatDoorC39x12
import Derived.Test.YtcfbkcapbbhmpaaGreatDoorC39x11
set_option linter.all false
set_option maxRecDepth 100000
set_option maxHeartbeats 6400000
namespace Go.Proofs.YtcfbkcapbbhmpaaGreatDoor
open Go.RowKit
namespace V
theorem words_at {P l : List Bs} {j : Nat} (h : qg P = (qg (P.drop j)).map (l ++ ·)) (hj : j < P.length) :
  (unwP P[j] = ([], false) -> qg P = none) /\ (∀ w, unwP P[j] = (w, true) -> qg P = (qg (P.drop (j + 1))).map ((l ++ [w]) ++ ·)) := by
 rw [List.drop_eq_getElem_cons hj, qg] at h
 unfold unwP
 cases hu : unwR P[j] with
 | none =>
  rw [hu] at h
  exact ⟨fun _ => h, fun w e => by simp at e⟩
 | some w0 =>
  rw [hu] at h
  refine ⟨fun e => by simp at e, fun w e => ?_⟩
  simp only [Prod.mk.injEq, and_true] at e
  subst e
  rw [h]
  cases qg (P.drop (j + 1)) <;> simp
theorem zfw (s : Bs) : unwP s = ([], false) ∨ ∃ w, unwP s = (w, true) /\ unwR s = some w := by
 unfold unwP
 cases unwR s with
 | none => exact .inl rfl
 | some w => exact .inr ⟨w, rfl, rfl⟩
theorem rows_at {R : List Bs} {ls : List (List Bs)} {k : Nat} (h : xd R = (xd (R.drop k)).map (ls ++ ·)) (hk : k < R.length) :
  (qg (zd 32 R[k]) = none -> xd R = none) /\ (∀ l, qg (zd 32 R[k]) = some l -> xd R = (xd (R.drop (k + 1))).map ((ls ++ [l]) ++ ·)) := by
 rw [List.drop_eq_getElem_cons hk, xd] at h
 refine ⟨fun e => ?_, fun l e => ?_⟩
 ·rw [e] at h; exact h
 ·rw [e] at h
  rw [h]
  simp only
  cases xd (R.drop (k + 1)) <;> simp
theorem unwR_len {s w : Bs} (h : unwR s = some w) : w.length ≤ s.length := by
 have h1 := vx w
 rw [znk h] at h1
 rw [h1]
 unfold ww
 have := le_sum w
 omega
theorem zdl (c : UInt8) {s x : Bs} (h : x ∈ zd c s) : x.length ≤ s.length := by
 have h1 := zdx c s
 have h2 : ∀ {l : List Bs} {x : Bs}, x ∈ l -> x.length + 1 ≤ (l.map fun x => x.length + 1).sum := by
  intro l x hx
  induction l with
  | nil => cases hx
  | cons y l ih =>
   rw [List.map_cons, List.sum_cons]
   rcases List.mem_cons.1 hx with rfl | hx
   ·omega
   ·have := ih hx; omega
 have := h2 h
 omega
theorem zf9 (c : UInt8) (s : Bs) : (zd c s).length ≤ s.length + 1 := by
 have h1 := zdx c s
 have h2 : ∀ l : List Bs, l.length ≤ (l.map fun x => x.length + 1).sum := by
  intro l
  induction l with
  | nil => simp
  | cons y l ih => rw [List.map_cons, List.sum_cons, List.length_cons]; omega
 have := h2 (zd c s)
 omega
theorem zhq : ∀ {P l : List Bs} {M : Nat}, qg P = some l -> (∀ s ∈ P, s.length ≤ M) -> ∀ w ∈ l, w.length ≤ M
 | [], l, M, h, _ => by cases h; intro w hw; cases hw
 | s :: P, l, M, h, hm => by
  rw [qg] at h
  cases hs : unwR s with
  | none => rw [hs] at h; cases h
  | some w =>
   rw [hs] at h
   simp only at h
   cases hr : qg P with
   | none => rw [hr] at h; cases h
   | some l' =>
    rw [hr] at h
    cases h
    intro x hx
    rcases List.mem_cons.1 hx with rfl | hx
    ·have := unwR_len hs
     have := hm s (List.mem_cons_self ..)
     omega
    ·exact zhq hr (fun s hs => hm s (List.mem_cons_of_mem _ hs)) x hx
theorem zrn : ∀ {R : List Bs} {ls : List (List Bs)} {M : Nat}, xd R = some ls -> (∀ s ∈ R, s.length ≤ M) -> ∀ l ∈ ls, ∀ w ∈ l, w.length ≤ M
 | [], ls, M, h, _ => by cases h; intro l hl; cases hl
 | x :: R, ls, M, h, hm => by
  rw [xd] at h
  cases hs : qg (zd 32 x) with
  | none => rw [hs] at h; cases h
  | some l =>
   rw [hs] at h
   simp only at h
   cases hr : xd R with
   | none => rw [hr] at h; cases h
   | some ls' =>
    rw [hr] at h
    cases h
    intro y hy
    rcases List.mem_cons.1 hy with rfl | hy
    ·exact zhq hs (fun s hs => Nat.le_trans (zdl 32 hs) (hm x (List.mem_cons_self ..)))
    ·exact zrn hr (fun s hs => hm s (List.mem_cons_of_mem _ hs)) y hy
end V
def wl (w : World) (v : Value) (bs : V.Bs) : Prop :=
 ∃ a cap, v = .slice a bs.length cap /\ bs.length ≤ cap /\ ∀ j (h : j < bs.length), ∃ b off, a = some ⟨b, off, none⟩ /\ b < w.heap.size /\ w.cell? ⟨b, off + j, none⟩ = some (.int .u8 (bs[j]).toNat)
theorem wl.below {w w' : World} {v : Value} {bs : V.Bs} (h : wl w v bs) (hb : Below w.heap.size w w') : wl w' v bs := by
 obtain ⟨a, cap, e, hc, hat⟩ := h
 refine ⟨a, cap, e, hc, fun j hj => ?_⟩
 obtain ⟨b, off, ea, hlt, hr⟩ := hat j hj
 exact z10
theorem zf5 (w : World) (g off n cap : Nat) (bs : V.Bs) (hn : bs.length = n) (hc : ∀ j (h : j < bs.length), w.cell? ⟨g, off + j, none⟩ = some (.int .u8 (bs[j]).toNat)) :
  (convert 23 9 (.slice (some ⟨g, off, none⟩) n cap)).run Tryz.prog w = .ok (.string ⟨bs.toArray⟩) w := by
 subst hn
 have r := run_convert_bytes_arg (P := Tryz.prog) w 23 5 Tryz.underlying23 Tryz.underlying5 g off bs.length cap (bs.map fun b => (b.toNat : Int)) (by simp) (fun i hi => by
   rw [hc i hi, List.getD_eq_getElem?_getD, List.getElem?_map, List.getElem?_eq_getElem hi]
   rfl) 9 Tryz.underlying9
 refine r.trans (congrArg (fun x => Result.ok (Value.string x) w) (jk ?_))
 rw [strOfNums_data, List.map_map]
 simp only [zaa]
 conv => rhs; rw [← List.map_id bs]
 apply List.map_congr_left
 intro b _
 simp
def strsV (l : List V.Bs) : Array Value := (l.map fun x => Value.string ⟨x.toArray⟩).toArray
theorem zlc (c : UInt8) (s : V.Bs) (w : World) (hm : zg w) (hs : s.length < 4294967281) :
  Calls Tryz.prog 54 #[.string ⟨s.toArray⟩, .string ⟨#[c]⟩] w fun e w' =>
   e = .returned (.slice (some ⟨w.heap.size, 0, none⟩) (V.zd c s).length (V.zd c s).length) /\ w' = w.alloc (.cells (strsV (V.zd c s)) 9) := by
 obtain ⟨m, hm⟩ := hm
 have hsp : (Lib.splitB ⟨#[c]⟩ 0 (Lib.countB ⟨s.toArray⟩ ⟨#[c]⟩) ⟨s.toArray⟩).map (·.data.toList) = V.zd c s := by
  rw [Lib.splitB_data]
  exact V.zhi c _ s (zwg _)
 have hlen := Lib.splitB_all ⟨#[c]⟩ (zwg 1) 0 _ ⟨s.toArray⟩ rfl
 have hl : (V.zd c s).length = Lib.countB ⟨s.toArray⟩ ⟨#[c]⟩ + 1 := by rw [← hsp, List.length_map, hlen]
 have hcs : strsV (V.zd c s) = ((Lib.splitB ⟨#[c]⟩ 0 (Lib.countB ⟨s.toArray⟩ ⟨#[c]⟩) ⟨s.toArray⟩).map Value.string).toArray := by
  unfold strsV
  rw [← hsp, List.map_map]
  congr 1
 refine (Tryz.strings_Split ⟨s.toArray⟩ ⟨#[c]⟩ m w (by rw [yo]; exact hs) hm (zwg 1)).mono ?_
 rintro e w' ⟨rfl, rfl⟩
 rw [hl, hcs]
 exact ⟨rfl, rfl⟩
theorem zkf {α : Type} {enc : α -> List Value} {k : Nat} {T : TypeId} {ops : Array Oper} {rest : List Oper} {o : Oper} {a : Act} {w : World} {Q : Exit -> Act -> World -> Prop} (hk : ∀ x, (enc x).length = k) (hk0 : 0 < k) (h1c : ∀ x, ∀ u ∈ enc x, u.oneCell' = true) {bytes : Nat} (hi : xq T k bytes) (hby : bytes ≤ 1000) (hgd : o.guard = none) (s x : Operand) (S : TypeId)
  (ho : o.op = .call { callee := .builtin .append, args := #[s, x], argTypes := #[S, S] }) (hu : Tryz.prog.underlying S = some (.slice T))
  (N : Nat) (v : Value) (l : List α) (hs : a.eval s = v) (hown : GRow T k enc w N v l) (b : Nat) (c : α) (hx : a.eval x = .slice (some ⟨b, 0, none⟩) 1 1) (hr : ∀ j u, (enc c)[j]? = some u -> w.cell? ⟨b, j, none⟩ = some u) (hl : l.length ≤ 1000000) (hN : N ≤ w.heap.size)
  (h : ∀ v' w', GRow T k enc w' N v' (l ++ [c]) -> w.grownBy w' v.ownBlock -> (v'.ownBlock = v.ownBlock ∨ v'.ownBlock = some w.heap.size) -> wpList Tryz.prog ops Q rest (a.put o.dst v') w') : wpList Tryz.prog ops Q (o :: rest) a w := by
 obtain ⟨ie, z, hie, hz, h1, h2, h3⟩ := hi
 refine wpList_append_own_at w hgd s x S ho N T ie z k bytes hu hie hz h1 h2 h3 hk0 v l.length (l.flatMap enc) hs hown ⟨b, 0, none⟩ 1 1 (enc c) hx (by rw [hk]; omega) ?_ (h1c c) (by unfold maxLen; omega) ?_ hN ?_
 ·exact z1o
 ·exact z0v
 ·intro v' w' ho' hg _ hob
  refine h v' w' ?_ hg hob
  exact z0l
def wrdE (s : V.Bs) : List Value := [.string ⟨s.toArray⟩]
theorem zsb (s : V.Bs) : (wrdE s).length = 1 := rfl
theorem zr3 (s : V.Bs) : ∀ u ∈ wrdE s, u.oneCell' = true := by
 intro u hu
 simp [wrdE] at hu
 subst hu
 rfl
theorem zu0 : xq 9 1 16 := by
 have h : (match Tryz.prog.info? 9 with | some i => i.size == 1 && (i.bytes == 16 && (match i.zero with | some z => z.cells.size == 1 | none => false)) | none => false) = true := by kernel_rfl
 unfold xq
 cases hq : Tryz.prog.info? 9 with
 | none => rw [hq] at h; cases h
 | some i =>
  exact zw1
theorem zr6 {w : World} {N : Nat} {v : Value} {l : List V.Bs} (h : GRow 9 1 wrdE w N v l) : Strs w v l := by
 obtain ⟨a, cap, rfl⟩ := GRow.slice h
 refine ⟨a, cap, rfl, fun j hj => ?_⟩
 obtain ⟨g, cap2, e, hN, hg, hc⟩ := GRow.at zsb h j hj
 cases e
 exact ⟨g, 0, rfl, hg, by simpa using hc 0 _ rfl⟩
theorem Lines.nil (w : World) : Lines w (.slice none 0 0) [] := ⟨none, 0, rfl, fun j h => by simp at h⟩
def CapOk (v : Value) : Prop := ∃ a n c, v = .slice a n c /\ n ≤ c
theorem LRow.cap {N : Nat} {w : World} {v : Value} {us : List Lsl} {ls : List (List V.Bs)} (h : LRow N w v us ls) : CapOk v := by
 rcases h.row.2 with ⟨rfl, hn⟩ | ⟨g, cap, cur, rfl, _, _, hc, _⟩
 ·exact ⟨_, _, _, rfl, zwg _⟩
 ·exact ⟨_, _, _, rfl, hc⟩
def xx (bs : V.Bs) (w : World) (e : Ending) (w' : World) : Prop :=
 ∃ u, e = .returned (.tuple #[u, .int .i64 (V.decP bs).2]) /\ Lines w' u (V.decP bs).1 /\ CapOk u /\ Below w.heap.size w w'
theorem xx.err {bs : V.Bs} {w w' : World} {c : Int} (h : V.decP bs = ([], c)) (hb : Below w.heap.size w w') : xx bs w (.returned (.tuple #[.slice none 0 0, .int .i64 c])) w' :=
 ⟨_, by rw [h], by rw [h]; exact Lines.nil _, ⟨_, _, _, rfl, zwg _⟩, hb⟩
open Go.RowKit
theorem Lines.at {w : World} {a : Option Addr} {n cap : Nat} {ls : List (List V.Bs)} (h : Lines w (.slice a n cap) ls) (j : Nat) (hj : j < ls.length) : ∃ b off u, a = some ⟨b, off, none⟩ /\ b < w.heap.size /\ w.cell? ⟨b, off + j, none⟩ = some u /\ Strs w u ls[j] := by
 obtain ⟨a', c, e, hc⟩ := h
 cases e
 exact hc j hj
theorem zst {w : World} {B off cap m : Nat} {l0 : List V.Bs} {rest : List (List V.Bs)} (h : Lines w (.slice (some ⟨B, off, none⟩) m cap) (l0 :: rest)) (hm : m = rest.length + 1) (hc : m ≤ cap) :
  ∃ o', (if cap = 1 then some (⟨B, off, none⟩ : Addr) else some ⟨B, off + 1, none⟩) = some ⟨B, o', none⟩ /\ ∀ j (hj : j < rest.length), ∃ u, w.cell? ⟨B, o' + j, none⟩ = some u /\ Strs w u rest[j] := by
 by_cases h1 : cap = 1
 ·refine ⟨off, if_pos h1, fun j hj => by omega⟩
 ·refine ⟨off + 1, if_neg h1, fun j hj => ?_⟩
  obtain ⟨b, o, u, e, _, hu, hs⟩ := h.at (j + 1) (by simp; omega)
  cases e
  refine ⟨u, ?_, by simpa using hs⟩
  rw [Nat.add_assoc, Nat.add_comm 1 j]
  exact hu
theorem V.decP_words {bs : V.Bs} : ∀ l ∈ (V.decP bs).1, ∀ x ∈ l, x.length ≤ 32768 := by
 intro l hl x hx
 unfold V.decP at hl
 split at hl
 ·simp at hl
 ·split at hl
  ·rename_i ls hls
   split at hl
   ·simp only at hl
    have hp : ∀ (r : List V.Bs) (ls : List (List V.Bs)), V.jo r = some ls -> ∀ l ∈ ls, V.chk l = 0 := by
     intro r
     induction r with
     | nil => intro ls h; simp [V.jo] at h
     | cons x t ih =>
      intro ls h
      by_cases ht : t = []
      ·subst ht
       unfold V.jo at h
       split at h
       ·cases h; intro l hl; simp at hl
       ·cases h
      ·rw [V.zcd ht] at h
       split at h
       ·cases h
       ·rename_i l0 _
        split at h
        ·rename_i hc
         rw [Option.map_eq_some_iff] at h
         obtain ⟨ls', h1, rfl⟩ := h
         intro l hl
         rcases List.mem_cons.1 hl with rfl | hl
         ·exact hc
         ·exact ih _ h1 l hl
        ·cases h
    exact (V.zc5.1 (hp _ _ hls l hl)).2.2 x hx
   ·simp at hl
  ·simp at hl
theorem V.decP_len (bs : V.Bs) : (V.decP bs).1.length ≤ 1000 := by
 unfold V.decP
 split
 ·simp
 ·split
  ·split
   ·assumption
   ·simp
  ·simp
def zn9 (ls : List (List V.Bs)) (w : World) (e : Ending) (w' : World) : Prop :=
 ∃ u us, e = .returned (.tuple #[advV ((V.jm ls).getD V.zV) u, .bool (V.jm ls).isSome]) /\ (FRow w.heap.size w' u us /\ us.map (·.1) = ((V.jm ls).getD V.zV).aff /\ ∀ p ∈ us, ∀ c, p.2.v.ownBlock = some c -> w.heap.size ≤ c) /\ Below w.heap.size w w'
theorem znd (s : V.Bs) : 0 ≤ (V.numP s).1 /\ (V.numP s).1 ≤ 1099511627776 := by
 unfold V.numP
 split
 ·rename_i h
  constructor
  ·show (0 : Int) ≤ ((V.valD s : Nat) : Int); omega
  ·show ((V.valD s : Nat) : Int) ≤ _; have := h.2.2.2.2; omega
 ·decide
theorem zvr (n : Int) (s : V.Bs) : Lens (V.parP n s).2.1 /\ (V.parP n s).2.1.length ≤ 32 := by
 unfold V.parP
 split
 ·rename_i l c h
  have hp := (V.zkl (n := n) (s := s) (l := l) (by rw [h])).1
  exact ⟨ux hp, hp.len⟩
 ·exact ⟨(fun x hx => by simp at hx), Nat.zero_le _⟩
theorem V.readF_wf {l : List V.Bs} (hw : ∀ x ∈ l, x.length ≤ 32768) : AffWf (V.vs l).1 := by
 have hz : AffWf V.zA := ⟨Nat.zero_le _, (fun x hx => by simp [V.zA] at hx), Nat.zero_le _⟩
 unfold V.vs
 split
 ·rename_i a s n r
  split
  ·have h1 := hw n (by simp)
   have h2 := zvr (V.qh s) r
   exact ⟨by show n.length ≤ maxLen; unfold maxLen; omega, h2.1, Nat.le_trans h2.2 (by decide)⟩
  ·exact hz
 ·exact hz
theorem zg3 (w : World) : Below w.heap.size w (w.alloc (.cells #[.string ⟨#[]⟩, .int .i64 0, .int .i64 0, .slice none 0 0] 29)) /\ (w.alloc (.cells #[.string ⟨#[]⟩, .int .i64 0, .int .i64 0, .slice none 0 0] 29)).heap[w.heap.size]? = some (.cells #[.string ⟨#[]⟩, .int .i64 0, .int .i64 0, .slice none 0 0] 29 (0, 0)) /\ (w.alloc (.cells #[.string ⟨#[]⟩, .int .i64 0, .int .i64 0, .slice none 0 0] 29)).heap.size = w.heap.size + 1 :=
 ⟨(zwh _ w).alloc (zwg _) _, heap_alloc_new w _, by simp⟩
theorem zw5 {P : Prop} (h : P := by
 go_wp2_with (first | (refine qr rfl qa _ _ rfl w.heap.size #[.string ⟨#[]⟩, .int .i64 0, .int .i64 0, .slice none 0 0] 29 HK0.out rfl (.string ⟨#[]⟩) (.int .i64 0) (.int .i64 0) (.slice none 0 0) ⟨rfl, rfl, rfl, rfl⟩ rfl rfl ?_) | fail)
 exact HEX.out _ HE.out HK0.out HB0.out _ Tryz.results25 _ rfl rfl rfl) : P := h
theorem zrh (v : Value) (ls : List (List V.Bs)) (w : World) (hm : zg w) (hv : Lines w v ls) (hcap : CapOk v) (hw : ∀ l ∈ ls, ∀ x ∈ l, x.length ≤ 32768) (hn : ls.length ≤ 1000) :
  Calls Tryz.prog 25 #[v] w (zn9 ls w) := by
 obtain ⟨hb0, hk0, hz0⟩ := zg3 w
 have HM := zwe hm
 have HB0 := zwe hb0
 have HK0 := zwe hk0
 have HZ0 := zwe hz0
 clear hz0
 have HU0 := zwe (hv.below hb0)
 have HWD := zwe hw
 obtain ⟨va, vn, vc, rfl, hvc⟩ := hcap
 obtain rfl : vn = ls.length := by obtain ⟨_, _, e, _⟩ := hv; cases e; rfl
 have HEX : Hid (∀ (W : World), V.jm ls = none -> W.heap[w.heap.size]? = some (.cells #[.string ⟨#[]⟩, .int .i64 0, .int .i64 0, .slice none 0 0] 29 (0, 0)) -> Below w.heap.size w W ->
     ∀ fn : Func, fn.results = #[.cell 2 29, .tmp 3] -> ∀ a : Act, a.tmps.getD 2 undef = .pointer (some ⟨w.heap.size, 0, none⟩) -> a.tmps.getD 3 undef = .bool false -> a.defers = [] ->
     bodyPost Tryz.prog fn (zn9 ls w) .ret a (W.setRow w.heap.size #[.string ⟨#[]⟩, .int .i64 0, .int .i64 0, .slice none 0 0])) := zwe (by
   intro W hr hg hb fn hfn a h4 h5 h6
   refine bodyPost_ret (kb hfn h4 h5 (zcw Tryz.underlying29 qa (setRow_heap _ _ _ _ _ _ hg))) h6 ?_
   exact ⟨.slice none 0 0, [], by rw [hr]; rfl, ⟨FRow.nil _ _, by rw [hr]; rfl, fun p hp => by simp at hp⟩, qu hb _ _ (zwg _) (Array.getElem?_eq_some_iff.1 hg).1⟩)
 clear hm hv hw hb0 hk0
 match ls, HU0, HWD, hvc, hn, HEX with
 | [], HU0, HWD, hvc, hn, HEX =>
  have HE : Hid (V.jm [] = none) := zwe rfl
  clear HU0 HWD
  go_enter Tryz.func25, Tryz.ntmps25
  exact zw5
 | l0 :: rest, HU0, HWD, hvc, hn, HEX =>
  obtain ⟨B, off, u0, rfl, hBlt, hu0, hs0⟩ := HU0.out.at 0 (by simp)
  rw [Nat.add_zero] at hu0
  simp only [List.getElem_cons_zero] at hs0
  obtain ⟨m, hmm⟩ : ∃ m, m = rest.length + 1 := ⟨_, rfl⟩
  have hls : (l0 :: rest).length = m := by rw [hmm]; rfl
  rw [hls] at hvc hn HU0 ⊢
  have HMM := zwe hmm
  have q1 : (m : Int) ≠ 0 := by omega
  have q2 : ((m : Int) == 0) = false := by rw [zwi]; omega
  have q3 : (0 : Int) < (m : Int) := by omega
  clear hls hmm
  by_cases h4 : l0.length = 4
  case neg =>
   have HE := zwe (V.znx (rest := rest) h4)
   obtain ⟨a0, c0, rfl, hjunk⟩ := hs0
   have q4 : ((l0.length : Int) != 4) = true := by simp; omega
   have q5 : ¬ (l0.length : Int) = 4 := by omega
   clear hjunk HU0 HWD h4
   generalize l0.length = m0 at *
   go_enter Tryz.func25, Tryz.ntmps25
   exact zw5
  obtain ⟨a, i, r, s, rfl⟩ := zdp h4
  obtain ⟨b0, o0, c0, rfl, hb0lt, ca, ci, cr, cs⟩ := zeh hs0
  have hrl : (⟨r.toArray⟩ : ByteArray).size ≤ maxLen := by rw [yo]; have := HWD.out _ (List.mem_cons_self ..) r (by simp); unfold maxLen; omega
  have hsl : (⟨s.toArray⟩ : ByteArray).size ≤ maxLen := by rw [yo]; have := HWD.out _ (List.mem_cons_self ..) s (by simp); unfold maxLen; omega
  clear h4 hs0
  by_cases ha : a = V.advW
  case neg =>
   have HE : Hid (V.jm ([a, i, r, s] :: rest) = none) := zwe (by rw [V.zb0, if_neg (fun e => ha e.1)])
   have hne : (a == [97, 100, 118, 105, 115, 111, 114, 121]) = false := by rw [zwi]; exact ha
   clear HU0 HWD ha ci cr cs hrl hsl
   go_enter Tryz.func25, Tryz.ntmps25
   exact zw5
  subst ha
  have hcw : (⟨V.advW.toArray⟩ : ByteArray) = ⟨#[97, 100, 118, 105, 115, 111, 114, 121]⟩ := rfl
  rw [hcw] at ca
  clear hcw
  have HF := zwe (V.zb0 V.advW i r s rest)
  have HRL := zwe hrl
  have HSL := zwe hsl
  clear hrl hsl
  go_enter Tryz.func25, Tryz.ntmps25
  go_wp2_with fail
  generalize w.alloc (.cells #[.string ⟨#[]⟩, .int .i64 0, .int .i64 0, .slice none 0 0] 29) = w0 at *
  refine (zb2 ⟨r.toArray⟩ w0 HRL.out).mono ?_
  rintro e w' ⟨rfl, rfl⟩
  rw [kn] at *
  have HF1 : Hid ((V.numP r).2 = false -> V.jm ([V.advW, i, r, s] :: rest) = none) := zwe (fun h => by rw [HF.out, if_neg (fun e => by rw [h] at e; cases e.2.1)])
  have HF2 : Hid ((V.numP s).2 = false -> V.jm ([V.advW, i, r, s] :: rest) = none) := zwe (fun h => by rw [HF.out, if_neg (fun e => by rw [h] at e; cases e.2.2)])
  have HF3 : Hid ((V.numP r).2 = true -> (V.numP s).2 = true -> V.jm ([V.advW, i, r, s] :: rest) = (V.kw rest).map fun l => ⟨i, (V.numP r).1, (V.numP s).1, l⟩) := zwe (fun h g => by rw [HF.out, if_pos (by simp [h, g])])
  clear HF
  generalize (V.numP r).1 = nr at *
  generalize (V.numP r).2 = okr at *
  go_wp2_with fail
  refine (zb2 ⟨s.toArray⟩ _ HSL.out).mono ?_
  rintro e w' ⟨rfl, rfl⟩
  rw [kn] at *
  have hns := znd s
  generalize (V.numP s).1 = ns at *
  generalize (V.numP s).2 = oks at *
  by_cases hno : okr = true /\ oks = true
  case neg =>
   have HE : Hid (V.jm ([V.advW, i, r, s] :: rest) = none) := zwe (by
     rcases okr with _ | _
     · exact HF1.out rfl
     · rcases oks with _ | _
       · exact HF2.out rfl
       · exact absurd ⟨rfl, rfl⟩ hno)
   clear HF1 HF2 HF3 HU0 HWD ca ci cr cs hu0
   rcases okr with _ | _
   ·exact zw5
   ·rcases oks with _ | _
    ·exact zw5
    ·exact absurd ⟨rfl, rfl⟩ hno
  obtain ⟨rfl, rfl⟩ := hno
  have HN3 : Hid (V.kw rest = none -> V.jm ([V.advW, i, r, s] :: rest) = none) := zwe (fun h => by rw [HF3.out rfl rfl, h]; rfl)
  have HN4 : Hid (∀ l, V.kw rest = some l -> V.jm ([V.advW, i, r, s] :: rest) = some ⟨i, nr, ns, l⟩) := zwe (fun l h => by rw [HF3.out rfl rfl, h]; rfl)
  obtain ⟨o2, hpart, hparts⟩ := zst HU0.out HMM.out hvc
  have HPT := zwe hparts
  have hm1 : m - 1 = rest.length := by have := HMM.out; omega
  have wns : IntKind.i64.wrap ns = ns := IntWalk.i64_in _ (by omega)
  have hb5 : Below w'.heap.size w' (w'.alloc (.cells #[.string ⟨i.toArray⟩, .int .i64 nr, .int .i64 ns, .slice none 0 0] 29)) := (zwh _ w').alloc (zwg _) _
  have HD5 : Hid (VInv w' w.heap.size w'.heap.size (.string ⟨i.toArray⟩) (.int .i64 nr) (.int .i64 ns) (.slice none 0 0) [] (w'.alloc (.cells #[.string ⟨i.toArray⟩, .int .i64 nr, .int .i64 ns, .slice none 0 0] 29))) := zwe ⟨FRow.nil _ _, heap_alloc_new w' _, (hb5.block _ (by have := HZ0.out; omega)).trans HK0.out, (fun p hp => by simp at hp), hb5, by have := HZ0.out; omega⟩
  have HBO : Hid (w.heap.size + 1 ≤ w'.heap.size /\ B < w'.heap.size /\ rest.length ≤ 999) := zwe ⟨by have := HZ0.out; omega, hBlt, by have := HMM.out; omega⟩
  clear hb5 HF1 HF2 HF3 hparts ca cr cs
  go_wp2_with fail
  generalize w'.alloc (.cells #[.string ⟨i.toArray⟩, .int .i64 nr, .int .i64 ns, .slice none 0 0] 29) = w5 at *
  obtain ⟨O, hO⟩ : ∃ O, O = w'.heap.size := ⟨_, rfl⟩
  try rw [hm1]
  rw [← hO] at HD5 HBO ⊢
  have HOE := zwe hO
  clear hO hpart hm1 hBlt hb0lt hvc hn q1 q2 q3 hu0 ci
  go_loopw [68] (fun jv W => ∃ (k : Nat) (vo : Value) (us : List Fs), k ≤ rest.length /\ us.length = k /\ jv = .int .i64 k /\ V.wm rest k (us.map (·.1)) /\ VInv w' w.heap.size O (.string ⟨i.toArray⟩) (.int .i64 nr) (.int .i64 ns) vo us W) (fun jv _ => rest.length - (intOf jv).toNat)
  case atStart => exact ⟨0, _, [], Nat.zero_le _, rfl, rfl, V.zg6 _, HD5.out⟩
  case round =>
   obtain ⟨k, vo, us, hk, hok, rfl, hrt, hdi⟩ := hrel
   have HRT := zwe hrt
   have HOK := zwe hok
   have HDI := zwe hdi
   obtain ⟨vao, vco, hvo⟩ := hdi.row.slice
   subst hvo
   have hBO := HBO.out
   clear hok hrt HD5
   by_cases hlt : k < rest.length
   ·obtain ⟨u, hu, hs⟩ := HPT.out k hlt
    have hold : Below w'.heap.size w' wr := by rw [← HOE.out]; exact hdi.old
    have huW := zb hold hu
    have HSW := zwe (xt hs hold)
    have HWL : Hid (∀ x ∈ rest[k], x.length ≤ 32768) := zwe (fun x hx => HWD.out _ (List.mem_cons_of_mem _ (List.getElem_mem hlt)) x hx)
    have HWM : Hid (∀ x ∈ rest[k], x.length ≤ maxLen) := zwe (fun x hx => by have := HWL.out x hx; unfold maxLen; omega)
    have HMW := zwe (HM.out.below (HB0.out.trans (hold.mono HB0.out.size)))
    obtain ⟨au, cu, hue, hj⟩ := HSW.out
    subst hue
    have HNO := zwe (V.zlh HRT.out hlt)
    have HYES := zwe (V.zg4 HRT.out hlt)
    have HWF := zwe (V.readF_wf HWL.out)
    have hi1 : (0 : Int) ≤ (k : Int) := by omega
    have hi2 : (k : Int) < (rest.length : Int) := by omega
    clear hj hold hu hs hdi hBO
    go_wp2_with fail
    refine (zjb _ rest[k] wr HMW.out HSW.out HWM.out).mono ?_
    rintro e w6 ⟨u6, rfl, hu6, how6, hb6⟩
    have HD6 := zwe (HDI.out.call hb6)
    have HOW6 : Hid (∀ c, u6.ownBlock = some c -> O < c) := zwe (fun c hc => by have := how6 c hc; have := HDI.out.lt; omega)
    have HRO : Hid (∀ c, u6.ownBlock = some c -> (Value.slice vao us.length vco).ownBlock ≠ some c) := zwe (fun c hc e => by
      have h1 := how6 c hc
      obtain ⟨_, hq⟩ := HDI.out.row.row
      rcases hq with ⟨e2, _⟩ | ⟨b, cap, cur, e2, _, hgg, _⟩
      · rw [e2] at e; cases e
      · rw [e2] at e
        simp [Value.ownBlock] at e
        subst e
        have := (Array.getElem?_eq_some_iff.1 hgg).1
        omega)
    obtain ⟨ua6, uc6, hue6⟩ := hu6.slice
    subst hue6
    have HI6 := zwe hu6
    clear hb6 HDI HSW HWL HWM HRT huW how6 hu6
    generalize (V.vs rest[k]).1 = a at *
    generalize (V.vs rest[k]).2 = ok at *
    unfold affV
    obtain ⟨hb7, y0, y1, y2, y3⟩ := zdh a (.slice ua6 a.its.length uc6) w6
    have HD7 := zwe (HD6.out.call hb7)
    have HI7 := zwe (HI6.out.below hb7)
    have hXO : O < w6.heap.size := HD6.out.lt
    clear hb7 HD6 HI6
    rcases ok with _ | _
    ·have HE := zwe (HN3.out (HNO.out rfl))
     have HB7 : Hid (Below w.heap.size w (w6.alloc (.cells #[.int .i64 a.sch, .string ⟨a.name.toArray⟩, .int .i64 a.rs, .slice ua6 a.its.length uc6] 47))) := zwe (HB0.out.trans (HD7.out.old.mono (show w.heap.size ≤ O by have := HD7.out.base; omega)))
     go_wp2_with (first | (refine qr rfl qa _ _ rfl w.heap.size #[.string ⟨#[]⟩, .int .i64 0, .int .i64 0, .slice none 0 0] 29 HD7.out.zero rfl (.string ⟨#[]⟩) (.int .i64 0) (.int .i64 0) (.slice none 0 0) ⟨rfl, rfl, rfl, rfl⟩ rfl rfl ?_) | fail)
     exact HEX.out _ HE.out HD7.out.zero HB7.out _ Tryz.results25 _ rfl rfl rfl
    ·have HR8 := zwe (HYES.out rfl)
     have hi3 := (xk HD7.out.inv).2.2.2
     have hout : us.length ≤ 1000 := by have := HBO.out; have := HOK.out; omega
     have hr9 : rest.length ≤ 999 := HBO.out.2.2
     have wr1 : IntKind.i64.wrap ((k : Int) + 1) = (k : Int) + 1 := IntWalk.i64_in _ (by omega)
     have hO7 : O ≤ (w6.alloc (.cells #[.int .i64 a.sch, .string ⟨a.name.toArray⟩, .int .i64 a.rs, .slice ua6 a.its.length uc6] 47)).heap.size := Nat.le_of_lt HD7.out.lt
     have HP7 : Hid (FOk (w6.alloc (.cells #[.int .i64 a.sch, .string ⟨a.name.toArray⟩, .int .i64 a.rs, .slice ua6 a.its.length uc6] 47)) (.slice vao us.length vco) (a, ⟨ua6, a.its.length, uc6⟩)) := zwe ⟨HWF.out, rfl, HI7.out, fun _ => HRO.out⟩
     clear HNO HYES hi1 hi2
     have hb8 : Below (w6.alloc (.cells #[.int .i64 a.sch, .string ⟨a.name.toArray⟩, .int .i64 a.rs, .slice ua6 a.its.length uc6] 47)).heap.size (w6.alloc (.cells #[.int .i64 a.sch, .string ⟨a.name.toArray⟩, .int .i64 a.rs, .slice ua6 a.its.length uc6] 47)) ((w6.alloc (.cells #[.int .i64 a.sch, .string ⟨a.name.toArray⟩, .int .i64 a.rs, .slice ua6 a.its.length uc6] 47)).alloc (.cells #[.int .i64 a.sch, .string ⟨a.name.toArray⟩, .int .i64 a.rs, .slice ua6 a.its.length uc6] 47)) := (zwh _ _).alloc (zwg _) _
     have HA := zwe (HD7.out.call hb8)
     have HP8 : Hid (FOk ((w6.alloc (.cells #[.int .i64 a.sch, .string ⟨a.name.toArray⟩, .int .i64 a.rs, .slice ua6 a.its.length uc6] 47)).alloc (.cells #[.int .i64 a.sch, .string ⟨a.name.toArray⟩, .int .i64 a.rs, .slice ua6 a.its.length uc6] 47)) (.slice vao us.length vco) (a, ⟨ua6, a.its.length, uc6⟩)) := zwe ⟨HP7.out.1, HP7.out.2.1, HP7.out.2.2.1.below hb8, HP7.out.2.2.2⟩
     have HNW : Hid (∀ j u, (fE (a, ⟨ua6, a.its.length, uc6⟩))[j]? = some u -> ((w6.alloc (.cells #[.int .i64 a.sch, .string ⟨a.name.toArray⟩, .int .i64 a.rs, .slice ua6 a.its.length uc6] 47)).alloc (.cells #[.int .i64 a.sch, .string ⟨a.name.toArray⟩, .int .i64 a.rs, .slice ua6 a.its.length uc6] 47)).cell? ⟨w6.heap.size + 1, j, none⟩ = some u) := zwe (fun j u hj => by rw [ze, if_pos (by simp)]; simpa [fE, Sl.v] using hj)
     have HO8 : Hid (O ≤ ((w6.alloc (.cells #[.int .i64 a.sch, .string ⟨a.name.toArray⟩, .int .i64 a.rs, .slice ua6 a.its.length uc6] 47)).alloc (.cells #[.int .i64 a.sch, .string ⟨a.name.toArray⟩, .int .i64 a.rs, .slice ua6 a.its.length uc6] 47)).heap.size) := zwe (Nat.le_of_lt HA.out.lt)
     clear hb8 hO7
     go_wp2_with (first | (refine zd4 zee (by decide) zf1 zla (by decide) rfl _ _ 27 rfl Tryz.underlying27 O (.slice vao us.length vco) us rfl HA.out.row.row (w6.heap.size + 1) (a, ⟨ua6, a.its.length, uc6⟩) rfl HNW.out (by omega) HO8.out ?_
                           intro v8 w8 hr8 hg8 ho8
                           have hk8 := HA.out.invKept hg8
                           have hc8 : w8.cell? ⟨O, 3, none⟩ = some (.slice vao us.length vco) := (xk hk8).2.2.2
                           have hf8 : w8.frozen? ⟨O, 3, none⟩ = false := zbs hk8
                           have hfr := HA.out.row.add hr8 hg8 ho8 HP8.out
                           have HM9 := zwe (HA.out.append hfr hg8 HOW6.out)
                           obtain ⟨va8, vc8, hv8⟩ := hfr.slice
                           subst hv8
                           rw [show (us ++ [((a, ⟨ua6, a.its.length, uc6⟩) : Fs)]).length = us.length + 1 by simp] at HM9 ⊢
                           clear hr8 hg8 ho8 hk8 hfr)
                        | (refine zpz rfl 27 _ _ rfl O 3 rfl (.slice va8 (us.length + 1) vc8) rfl _ hc8 hf8 zah rfl ?_
                           clear hc8 hf8
                           generalize w8.setCell ⟨O, 3, none⟩ (.slice va8 (us.length + 1) vc8) = w9 at *) | fail)
     go_roundw
     case rel => exact ⟨k + 1, _, us ++ [(a, ⟨ua6, a.its.length, uc6⟩)], by omega, by rw [List.length_append, HOK.out]; rfl, by go_num, by rw [List.map_append]; exact HR8.out, HM9.out⟩
     case measure => simp [intOf]; omega
   ·obtain rfl : k = rest.length := by omega
    have HAL := zwe (HN4.out _ (V.zix HRT.out))
    have HBW : Hid (Below w.heap.size w wr) := zwe (HB0.out.trans (hdi.old.mono (show w.heap.size ≤ O by omega)))
    have HAF := zwe hdi.row.affs
    have hc4 := xk hdi.inv
    obtain ⟨z0, z1, z2, z3⟩ := hc4
    clear hdi hBO
    go_wp2_with (first | (refine qr rfl qa _ _ rfl w.heap.size #[.string ⟨#[]⟩, .int .i64 0, .int .i64 0, .slice none 0 0] 29 HDI.out.zero rfl (.string ⟨i.toArray⟩) (.int .i64 nr) (.int .i64 ns) (.slice vao us.length vco) ⟨rfl, rfl, rfl, rfl⟩ rfl rfl ?_) | fail)
    refine bodyPost_ret (v := .tuple #[.agg #[.string ⟨i.toArray⟩, .int .i64 nr, .int .i64 ns, .slice vao us.length vco], .bool true]) (kb Tryz.results25 rfl rfl (zcw Tryz.underlying29 qa (setRow_heap _ _ _ _ _ _ HDI.out.zero))) rfl ?_
    have hbase : w.heap.size + 1 ≤ O := HDI.out.base
    refine ⟨.slice vao us.length vco, us, by rw [HAL.out]; rfl, ⟨?_, by rw [HAL.out]; rfl, fun p hp c hc => by have := HDI.out.own p hp c hc; omega⟩, qu HBW.out _ _ (zwg _) (Array.getElem?_eq_some_iff.1 HDI.out.zero).1⟩
    exact (HDI.out.row.kept (qj _ _ _) (HDI.out.rowNe HDI.out.zero (by decide)) (fun p hp c hc => by have := HDI.out.own p hp c hc; omega)).weaken (by omega)
open Go.RowKit
def txtB (x : V.Itv) : ByteArray := ⟨(V.zw x).toArray⟩
def zt6 (r : V.Bs × Int) (w : World) (e : Ending) (w' : World) : Prop := e = .returned (.tuple #[.string ⟨r.1.toArray⟩, .int .i64 r.2]) /\ Below w.heap.size w w'
theorem zrf {l : List V.Itv} {k : Nat} (h : k < l.length) : (l.take (k + 1)).map txtB = (l.take k).map txtB ++ [txtB l[k]] := by
 rw [List.take_succ_eq_append_getElem h, List.map_append]
 rfl
theorem zha {l : List V.Itv} (h : l ≠ []) : Lib.join ((l.map txtB).map (·.data.toList)) V.orT = V.xm l := by
 unfold V.xm
 rw [if_neg (by simpa using h), List.map_map]
 rfl
theorem zo2 {n : Int} {l : List V.Itv} (h : V.Ok n l) (h0 : l ≠ []) : (V.xm l).length ≤ 10000 := by
 rcases l with _ | ⟨x, r⟩
 ·exact absurd rfl h0
 ·have hle : ∀ y ∈ V.zw x :: r.map V.zw, y.length ≤ 133 := by
   intro y hy
   rw [← List.map_cons (f := V.zw), List.mem_map] at hy
   obtain ⟨z, hz, rfl⟩ := hy
   exact (V.zhl (V.zqe h hz)).len
  have h1 := V.zpu hle
  have h2 := h.len
  rw [List.length_map] at h1
  rw [List.length_cons] at h2
  show (Lib.join (V.zw x :: r.map V.zw) V.orT).length ≤ _
  omega
theorem zlg {w W1 W2 : World} {N : Nat} {v : Value} {l : List ByteArray} {o : Obj} (h1 : Below N w W1) (hN : N ≤ w.heap.size) (hr : SRow W1 N v l) (h2 : (W1.alloc o).grownBy W2 v.ownBlock) : Below N w W2 :=
 (h1.alloc (Nat.le_trans hN h1.size) o).trans ⟨h2.os, h2.tape, h2.output, h2.size, fun k hk => h2.block k (by have := h1.size; simp; omega) (fun e => by have := GRow.block hr k e.symm; omega)⟩
theorem zxq {P : Prop} (h : P := by
 clear hb2 h0 h1 h2 h3
 go_wp2_with (first | (refine zl ja (by decide) qz qy (by decide) rfl _ _ 41 rfl Tryz.underlying41 w1.heap.size _ L rfl (GRow.below HR0.out (HB2.out.alloc HB2.out.size _)) w2.heap.size (txtB x) rfl (fun j u hu => by rw [World.cell?_alloc_new]; simpa [baE, txtB] using hu) (by have := HLK.out; omega) (by have := HB2.out.size; have := HBX.out.size; simp; omega) ?_; intro v2 W2 hr2 hg2) | fail)
 have HR2 : Hid (SRow W2 w1.heap.size v2 (L ++ [txtB x])) := zwe hr2
 have HB3 := zwe (zlg (HBX.out.trans (HB2.out.mono HBX.out.size)) (zwg _) (GRow.below HR0.out HB2.out) hg2)
 clear hr2 hg2
 go_wp2_with fail
 go_roundw
 case rel => exact ⟨k + 1, by omega, by go_num, by rw [HST.out]; exact HR2.out, HB3.out⟩
 case measure => simp [intOf]; omega) : P := h
theorem zxt {P : Prop} (h : P := by
 obtain rfl : k = l.length := by omega
 have HRA : Hid (SRow wr w1.heap.size _ (l.map txtB)) := zwe (by have := HR0.out; rw [List.take_length] at this; exact this)
 go_wp2_with fail
 refine (jc wr w1.heap.size _ (l.map txtB) ⟨#[32, 124, 124, 32]⟩ HRA.out (by simpa using HNE.out) (by simp; omega) (by rw [show (ByteArray.mk #[32, 124, 124, 32]).data.toList = V.orT from rfl, zha HNE.out]; have := zo2 HOK.out HNE.out; omega)).mono ?_
 rintro e w3 ⟨rfl, hb3⟩
 have HB3 := zwf HBF hb3
 have HT : Hid (Lib.join ((l.map txtB).map (·.data.toList)) (ByteArray.mk #[32, 124, 124, 32]).data.toList = V.xm l) := zwe (zha HNE.out)
 clear hb3
 rw [HT.out]
 go_wp2
 go_ret2
 exact (by rw [HF2.out]; exact ⟨rfl, HB3.out⟩)) : P := h
theorem zzw {P : Prop} (h : P := by
 have hq : ((l.length : Int) == 0) = true := by rw [h0]; rfl
 have HR : Hid (V.yk n l = (V.zc3, 0)) := zwe (by rw [HF2.out, h0]; rfl)
 clear h0
 go_wp2
 go_ret2
 exact (by rw [HR.out]; exact ⟨rfl, HB1.out⟩)) : P := h
theorem z0x {P : Prop} (h : P := by
 have HR : Hid (V.yk n l = ([], 1)) := zwe (by rw [HF.out, hok]; rfl)
 clear hok
 go_wp2
 go_ret2
 exact (by rw [HR.out]; exact ⟨rfl, HB1.out⟩)) : P := h
theorem zph (n : Int) (v : Value) (l : List V.Itv) (w : World) (hm : zg w) (hv : Itvs w v l) (hs : Lens l) (hl : l.length ≤ maxLen) :
  Calls Tryz.prog 33 #[setV n v] w (zt6 (V.yk n l) w) := by
 have HV := zwe hv
 obtain ⟨va, vc, rfl⟩ := hv.slice
 have HL := zwe hl
 unfold maxLen at hl
 have HS := zwe hs
 have HF : Hid (V.yk n l = if V.okR n l then (V.xm l, 0) else ([], 1)) := zwe rfl
 have hb0 : Below w.heap.size w (w.alloc (.cells #[.int .i64 n, .slice va l.length vc] 45)) := (zwh _ w).alloc (zwg _) _
 have HB0 := zwe hb0
 have HM := zwe (hm.below hb0)
 have c0 : (w.alloc (.cells #[.int .i64 n, .slice va l.length vc] 45)).cell? ⟨w.heap.size, 0, none⟩ = some (.int .i64 n) := by simp [ze]
 have c1 : (w.alloc (.cells #[.int .i64 n, .slice va l.length vc] 45)).cell? ⟨w.heap.size, 1, none⟩ = some (.slice va l.length vc) := by simp [ze]
 have hz0 : w.heap.size < (w.alloc (.cells #[.int .i64 n, .slice va l.length vc] 45)).heap.size := by simp
 clear hv hs hb0 hm
 unfold setV
 go_enter Tryz.func33, Tryz.ntmps33
 go_wp2_with fail
 generalize w.alloc (.cells #[.int .i64 n, .slice va l.length vc] 45) = w0 at *
 refine (zaz n (.slice va l.length vc) l w0 HM.out (HV.out.below HB0.out) HS.out HL.out).mono ?_
 rintro e w1 ⟨rfl, hb1⟩
 have HB1 := zwf HB0 hb1
 have d0 := za hb1 c0
 have d1 := za hb1 c1
 have hz1 : w.heap.size < w1.heap.size := Nat.lt_of_lt_of_le hz0 hb1.size
 clear hb1 c0 c1 hz0 HM
 rcases hok : V.okR n l with _ | _
 ·exact z0x
 ·have HOK := zwe (V.zab hok)
  have HF2 : Hid (V.yk n l = (V.xm l, 0)) := zwe (by rw [HF.out, hok]; rfl)
  clear hok
  by_cases h0 : l = []
  ·exact zzw
  ·have HNE := zwe h0
   have hq : ((l.length : Int) == 0) = false := by rw [zwi]; have := List.length_pos_iff.2 h0; omega
   clear h0
   have h32 : l.length ≤ 32 := HOK.out.len
   have HD := zwe d1
   go_wp2_with fail
   clear d0 d1
   go_loopw [4, 17] (fun v iv wx => ∃ k : Nat, k ≤ l.length /\ iv = .int .i64 k /\ SRow wx w1.heap.size v ((l.take k).map txtB) /\ Below w1.heap.size w1 wx) (fun _ iv _ => l.length - (intOf iv).toNat)
   case atStart => exact ⟨0, Nat.zero_le _, rfl, GRow.nil _ _, zwh _ _⟩
   case round =>
    obtain ⟨k, hk, rfl, hr, hbx⟩ := hrel
    have HR0 := zwe hr
    have HBX := zwe hbx
    have HBF := zwf HB1 hbx
    have e1 := za hbx HD.out
    clear hr hbx
    by_cases hlt : k < l.length
    ·obtain ⟨b, off, rfl, hb0, hx⟩ := HV.out.at k hlt
     obtain ⟨h0, h1, h2, h3⟩ := hx.below hb0 HBF.out
     have hi1 : (0 : Int) ≤ (k : Int) := by omega
     have hi2 : (k : Int) < (l.length : Int) := by omega
     have HBK : Hid (V.zj n l[k] = true) := zwe (HOK.out.bnd _ (List.getElem_mem hlt))
     have HST := zwe (zrf hlt)
     have HLK : Hid (((l.take k).map txtB).length ≤ 32) := zwe (by rw [List.length_map, List.length_take]; omega)
     clear hx
     generalize l[k] = x at *
     generalize (l.take k).map txtB = L at *
     have HXA := zwe ((zwh wr.heap.size wr).alloc (zwg _) (.cells #[.string ⟨x.lo.toArray⟩, .int .i64 x.lk, .string ⟨x.hi.toArray⟩, .int .i64 x.hk] 82))
     go_wp2_with fail
     refine (zs5 n x _ HBK.out).mono ?_
     rintro e w2 ⟨rfl, hb2⟩
     have HB2 := zwf HXA hb2
     exact zxq
    ·exact zxt
theorem zo3 (n : Int) (v : Value) (l : List V.Itv) (w : World) (hm : zg w) (hv : Itvs w v l) (hs : Lens l) (hl : l.length ≤ maxLen) :
  Calls Tryz.prog 15 #[setV n v] w (zt6 (V.yk n l) w) := by
 have HV := zwe hv
 obtain ⟨va, vc, rfl⟩ := hv.slice
 have HL := zwe hl
 unfold maxLen at hl
 have HS := zwe hs
 have HF : Hid (V.yk n l = if V.okR n l then (V.xm l, 0) else ([], 1)) := zwe rfl
 have hb0 : Below w.heap.size w (w.alloc (.cells #[.int .i64 n, .slice va l.length vc] 45)) := (zwh _ w).alloc (zwg _) _
 have HB0 := zwe hb0
 have HM := zwe (hm.below hb0)
 have c0 : (w.alloc (.cells #[.int .i64 n, .slice va l.length vc] 45)).cell? ⟨w.heap.size, 0, none⟩ = some (.int .i64 n) := by simp [ze]
 have c1 : (w.alloc (.cells #[.int .i64 n, .slice va l.length vc] 45)).cell? ⟨w.heap.size, 1, none⟩ = some (.slice va l.length vc) := by simp [ze]
 have hz0 : w.heap.size < (w.alloc (.cells #[.int .i64 n, .slice va l.length vc] 45)).heap.size := by simp
 clear hv hs hb0 hm
 unfold setV
 go_enter Tryz.func15, Tryz.ntmps15
 go_wp2_with fail
 generalize w.alloc (.cells #[.int .i64 n, .slice va l.length vc] 45) = w0 at *
 refine (zb9 n (.slice va l.length vc) l w0 HM.out (HV.out.below HB0.out) HS.out HL.out).mono ?_
 rintro e w1 ⟨rfl, hb1⟩
 have HB1 := zwf HB0 hb1
 have d0 := za hb1 c0
 have d1 := za hb1 c1
 have hz1 : w.heap.size < w1.heap.size := Nat.lt_of_lt_of_le hz0 hb1.size
 clear hb1 c0 c1 hz0 HM
 rcases hok : V.okR n l with _ | _
 ·exact z0x
 ·have HOK := zwe (V.zab hok)
  have HF2 : Hid (V.yk n l = (V.xm l, 0)) := zwe (by rw [HF.out, hok]; rfl)
  clear hok
  by_cases h0 : l = []
  ·exact zzw
  ·have HNE := zwe h0
   have hq : ((l.length : Int) == 0) = false := by rw [zwi]; have := List.length_pos_iff.2 h0; omega
   clear h0
   have h32 : l.length ≤ 32 := HOK.out.len
   have HD := zwe d1
   go_wp2_with fail
   clear d0 d1
   go_loopw [4, 5] (fun v iv wx => ∃ k : Nat, k ≤ l.length /\ iv = .int .i64 k /\ SRow wx w1.heap.size v ((l.take k).map txtB) /\ Below w1.heap.size w1 wx) (fun _ iv _ => l.length - (intOf iv).toNat)
   case atStart => exact ⟨0, Nat.zero_le _, rfl, GRow.nil _ _, zwh _ _⟩
   case round =>
    obtain ⟨k, hk, rfl, hr, hbx⟩ := hrel
    have HR0 := zwe hr
    have HBX := zwe hbx
    have HBF := zwf HB1 hbx
    have e1 := za hbx HD.out
    clear hr hbx
    by_cases hlt : k < l.length
    ·obtain ⟨b, off, rfl, hb0, hx⟩ := HV.out.at k hlt
     obtain ⟨h0, h1, h2, h3⟩ := hx.below hb0 HBF.out
     have hi1 : (0 : Int) ≤ (k : Int) := by omega
     have hi2 : (k : Int) < (l.length : Int) := by omega
     have HBK : Hid (V.zj n l[k] = true) := zwe (HOK.out.bnd _ (List.getElem_mem hlt))
     have HST := zwe (zrf hlt)
     have HLK : Hid (((l.take k).map txtB).length ≤ 32) := zwe (by rw [List.length_map, List.length_take]; omega)
     clear hx
     generalize l[k] = x at *
     generalize (l.take k).map txtB = L at *
     have HXA := zwe ((zwh wr.heap.size wr).alloc (zwg _) (.cells #[.string ⟨x.lo.toArray⟩, .int .i64 x.lk, .string ⟨x.hi.toArray⟩, .int .i64 x.hk] 82))
     go_wp2_with fail
     refine (zto n x wr HBK.out).mono ?_
     rintro e w2 ⟨rfl, hb2⟩
     have HB2 := zwe hb2
     exact zxq
    ·exact zxt
theorem zbi {ops : Array Oper} {o : Oper} {a : Act} {w : World} {K : Act -> World -> Prop} {Q : Exit -> Act -> World -> Prop} {E : Prop} (hgd : o.guard = none) (e1 e2 e3 e4 : Operand) (ho : o.op = .buildSlice 41 4 #[(0, e1), (1, e2), (2, e3), (3, e4)])
  (s1 s2 s3 s4 : V.Bs) (h1 : a.eval e1 = .string ⟨s1.toArray⟩) (h2 : a.eval e2 = .string ⟨s2.toArray⟩) (h3 : a.eval e3 = .string ⟨s3.toArray⟩) (h4 : a.eval e4 = .string ⟨s4.toArray⟩)
  (h : K (a.put o.dst (.slice (some ⟨w.heap.size, 0, none⟩) 4 4)) (w.alloc (.cells (ul [s1, s2, s3, s4]) 9))) : if Region.wanted o (yielded ops a.tmps) = true then Oper.wp Tryz.prog o a w K Q else E := by
 rw [if_pos (by simp [Region.wanted, hgd])]
 obtain ⟨i, hi, hz, hs, hb⟩ := infoS
 refine wp_buildSlice _ 9 4 _ ho (ul [s1, s2, s3, s4]) i _ Tryz.underlying41 hi hz (by rw [hs]; decide) (by rw [hs]; decide) ?_ h
 have := Great.fill_whole (s := 1) (by decide) [Value.string ⟨s1.toArray⟩, Value.string ⟨s2.toArray⟩, Value.string ⟨s3.toArray⟩, Value.string ⟨s4.toArray⟩] ((Array.range (4 * i.size)).map ((Value.string ⟨#[]⟩).cells[· % (Value.string ⟨#[]⟩).cells.size]!)) (fun v hv => by
   simp only [List.mem_cons, List.not_mem_nil, or_false] at hv
   rcases hv with rfl | rfl | rfl | rfl <;> rfl) (by rw [hs]; simp)
 rw [hs] at this ⊢
 simp only [h1, h2, h3, h4, List.map_toArray, List.map_cons, List.map_nil]
 exact this
theorem V.advLines_len (x : V.Adv) (k : Nat) : (V.jw x k).length ≤ x.aff.length + 1 := by
 unfold V.jw
 rw [List.length_cons, List.length_map, List.length_take]
 omega
theorem V.adv_words {x : V.Adv} (h : V.qp x = true) : ∀ l ∈ V.qi x, l.length = 4 /\ ∀ u ∈ l, u.length ≤ 10000 := by
 have hp := V.jh h
 intro l hl
 unfold V.qi V.jw at hl
 rcases List.mem_cons.1 hl with rfl | hl
 ·refine ⟨rfl, fun u hu => ?_⟩
  have h1 := V.name_len hp.id
  have h2 := zjf (n := x.rev.toNat) (by have := hp.rev1; omega)
  have h3 := zjf (n := x.sev.toNat) (by have := hp.sev1; omega)
  simp only [V.xp, List.mem_cons, List.not_mem_nil, or_false] at hu
  rcases hu with rfl | rfl | rfl | rfl
  ·decide
  ·omega
  ·omega
  ·omega
 ·rw [List.take_length] at hl
  obtain ⟨a, ha, rfl⟩ := List.mem_map.1 hl
  obtain ⟨s1, s2, s3, s4⟩ := V.yq (hp.sound ha)
  refine ⟨rfl, fun u hu => ?_⟩
  have h1 := V.zfv s1
  have h2 := V.zel a.sch
  have h3 := zo2 (V.zab s4) (fun e => by rw [e] at s3; simp at s3)
  simp only [V.uw, List.mem_cons, List.not_mem_nil, or_false] at hu
  rcases hu with rfl | rfl | rfl | rfl
  ·decide
  ·omega
  ·omega
  ·exact h3
theorem V.adv_sz {x : V.Adv} (h : V.qp x = true) : V.jp (V.qi x) (V.qi x).length ≤ 9000000 := by
 have hl := V.advLines_len x x.aff.length
 have h16 := (V.jh h).len
 have := V.zor (ls := V.qi x) (M := 4 * 30002) (fun l hm => by
   obtain ⟨h4, hw⟩ := V.adv_words h l hm
   have := V.zsw (x := l) (M := 30002) (fun u hu => by
     have h1 := hw u hu
     have h2 := V.xy u
     omega)
   rw [h4] at this ⊢; exact this) (V.qi x).length (zwg _)
 have h17 : (V.qi x).length ≤ 17 := by unfold V.qi; omega
 have := Nat.mul_le_mul_right (4 * 30002) h17
 omega
def EncV (x : V.Adv) (w : World) (e : Ending) (w' : World) : Prop :=
 ((V.encV x).2 = 0 -> ∃ u N W0, e = .returned (.tuple #[u, .int .i64 0]) /\ Buf N u (V.encV x).1 W0 w') /\
 (¬ (V.encV x).2 = 0 -> e = .returned (.tuple #[.slice none 0 0, .int .i64 (V.encV x).2])) /\ Below w.heap.size w w'
open Go.RowKit
theorem zww {P : Prop} (h : P := by
 rintro e wS ⟨rfl, rfl⟩
 try dsimp only
 refine hK.out _ _ ?_ (fun hHeld => nx ?_)
 ·(try dsimp only); exact hHeld
 clear hK K
 refine rd 7 fun K hK => ?_
 refine zbi rfl _ _ _ _ rfl V.affW (V.qb a.sch) a.name (V.xm a.its) rfl rfl rfl rfl ?_
 refine hK.out _ _ ?_ (fun hHeld => nx ?_)
 ·(try dsimp only); exact ⟨zb ((zwh _ _).alloc (zwg _) _) hHeld.1, zb ((zwh _ _).alloc (zwg _) _) hHeld.2⟩
 clear hK K
 refine rd 8 fun K hK => ?_
 have hbC : Below wF.heap.size wF (wF.drew.alloc (.cells (ul [V.affW, V.qb a.sch, a.name, V.xm a.its]) 9)) := ((zwh _ wF).drew).alloc (zwg _) _
 refine zbf rfl _ rfl ⟨some ⟨wF.heap.size, 0, none⟩, 4, 4⟩ rfl ?_
 refine hK.out _ _ ?_ (fun hHeld => nx ?_)
 ·(try dsimp only); exact ⟨zb ((zwh _ _).alloc (zwg _) _) hHeld.1, zb ((zwh _ _).alloc (zwg _) _) hHeld.2⟩
 clear hK K
 refine rd 9 fun K hK => ?_
 have hbD := hbC.alloc hbC.size (.cells #[(⟨some ⟨wF.heap.size, 0, none⟩, 4, 4⟩ : Lsl).v] 41)
 have HLZ := zwe (HRZ.out.later hbD)
 have HUS := zwe (xt (zcl wF.drew [V.affW, V.qb a.sch, a.name, V.xm a.its]) ((zwh _ _).alloc (zwg _) (.cells #[(⟨some ⟨wF.heap.size, 0, none⟩, 4, 4⟩ : Lsl).v] 41)))
 have hszC := hbC.size
 have hszD := hbD.size
 refine zgy zec (by decide) zg5 zem (by decide) rfl _ _ 42 rfl Tryz.underlying42 (w.heap.size + 1) (.slice oa (V.jw x k).length oc) us rfl HLZ.out.row _ ⟨some ⟨wF.heap.size, 0, none⟩, 4, 4⟩ rfl (zou _ _) (by rw [HRZ.out.len]; have := V.advLines_len x k; omega) (by omega) (fun v9 w9 hr9 hg9 ho9 => ?_)
 refine hK.out _ _ ?_ (fun hHeld => nx ?_)
 ·(try dsimp only); exact ⟨hg9.cell hHeld.1 (fun e => HXB.out e), hg9.cell hHeld.2 (fun e => HXB.out e)⟩
 clear hK K
 refine tk 10 ?_
 refine wpAnyH_done (by kernel_rfl) ?_ _
 have HN9 := zwe (HLZ.out.add hr9 hg9 ho9 HUS.out (fun _ c hc => by
   have := HRZ.out.row.lt
   intro e
   have h1 := this c e
   simp [Lsl.v, Value.ownBlock] at hc
   omega))
 have HB9 := zwe (HBZ.out.trans ((hbD.mono hNz).trans (zk hg9 HLZ.out.row.block (zwg _) (by omega))))
 have hs9 : w.heap.size + 1 ≤ w9.heap.size := by have := hg9.size; omega
 have HS9 := zwe hs9
 clear hr9 hg9 ho9 hHeld hbD hbC hszC hszD hs9 hNz HLZ HUS HRZ HBZ x0 x1
 go_wp2
 go_roundw
 case rel => exact ⟨k + 1, by omega, by go_num, ⟨⟨_, by rw [HST.out]; exact HN9.out⟩, HB9.out, HS9.out⟩⟩
 case measure => simp [intOf]; omega) : P := h
theorem zyf {P : Prop} (h : P := by
 (try dsimp only); exact ⟨zb ((zwh _ _).alloc (zwg _) _) hHeld.1, zb ((zwh _ _).alloc (zwg _) _) hHeld.2.1, zb ((zwh _ _).alloc (zwg _) _) hHeld.2.2⟩) : P := h
theorem zyv {P : Prop} (h : P := by
 have hq := he.2.1 hz
 subst hq
 have HE2 : Hid (V.encV x = ([], V.encE (V.qi x))) := zwe (by rw [HEV.out, if_neg hz])
 have HNZ := zwe hz
 clear he hz
 generalize V.encE (V.qi x) = ee at *
 go_wp2
 go_ret2
 exact ⟨fun h => absurd (by rw [HE2.out] at h; exact h) HNZ.out, fun _ => (by rw [HE2.out]; rfl), HBE.out⟩) : P := h
theorem zzs {P : Prop} (h : P := by
 have HEV : Hid (V.encV x = ([], 1)) := zwe (by unfold V.encV; rw [if_neg (by rw [hok]; simp)])
 clear hok
 go_wp2
 go_ret2
 exact ⟨fun h => (by rw [HEV.out] at h; cases h), fun _ => (by rw [HEV.out]; rfl), HBW.out⟩) : P := h
theorem zch (x : V.Adv) (v : Value) (w : World) (hm : zg w) (hp : zc6 w) (hv : Affs w v x.aff) (hid : x.id.length ≤ maxLen) (hl : x.aff.length ≤ maxLen) :
  Calls Tryz.prog 10 #[advV x v] w (EncV x w) := by
 obtain ⟨pa, pc, rfl⟩ := hv.slice
 obtain ⟨hb, c0, c1, c2, c3⟩ := zbj x (.slice pa x.aff.length pc) w
 have HM1 := zwe (hm.below hb)
 have HP1 := zwe (hp.below hb)
 have HV1 := zwe (hv.below hb)
 have HB1 := zwe hb
 have HL := zwe (And.intro hid hl)
 have H3 := zwe c3
 have hsz1 : (w.alloc (.cells #[.string ⟨x.id.toArray⟩, .int .i64 x.rev, .int .i64 x.sev, .slice pa x.aff.length pc] 29)).heap.size = w.heap.size + 1 := by simp
 have HSZ := zwe hsz1
 clear hm hp hv hid hl hb hsz1
 unfold advV
 go_enter Tryz.func10, Tryz.ntmps10
 go_wp2_with fail
 generalize w.alloc (.cells #[.string ⟨x.id.toArray⟩, .int .i64 x.rev, .int .i64 x.sev, .slice pa x.aff.length pc] 29) = W1 at *
 refine (zdf x (.slice pa x.aff.length pc) W1 HM1.out HV1.out HL.out.1 HL.out.2).mono ?_
 rintro e w2 ⟨rfl, hb2⟩
 replace c0 := zb hb2 c0
 replace c1 := zb hb2 c1
 replace c2 := zb hb2 c2
 replace c3 := zb hb2 c3
 have HP2 := zwe (HP1.out.below hb2)
 have HB2 := zwe hb2
 have HBW := zwf HB1 hb2
 clear hb2
 rcases hok : V.qp x with _ | _
 ·exact zzs
 ·have HEV : Hid (V.encV x = if V.encE (V.qi x) = 0 then (V.doc (V.qi x), 0) else ([], V.encE (V.qi x))) := zwe (by unfold V.encV; rw [if_pos hok])
  have HOK := zwe hok
  have HWD : Hid (∀ l ∈ V.qi x, ∀ u ∈ l, u.length ≤ maxLen) := zwe (fun l hm u hu => by have := (V.adv_words hok l hm).2 u hu; unfold maxLen; omega)
  have hpt := V.jh hok
  have HT : Hid (1 ≤ x.rev /\ x.rev ≤ 1099511627776 /\ 1 ≤ x.sev /\ x.sev ≤ 10) := zwe ⟨hpt.rev0, hpt.rev1, hpt.sev0, hpt.sev1⟩
  have HSN : Hid (∀ a ∈ x.aff, V.kh a = true) := zwe (fun a ha => hpt.sound ha)
  have hl16 := hpt.len
  clear hok hpt
  go_wp2_with fail
  refine wp_region_held_drew (S := (fun W' => W'.cell? ⟨w.heap.size, 0, none⟩ = some (.string ⟨x.id.toArray⟩) /\ W'.cell? ⟨w.heap.size, 1, none⟩ = some (.int .i64 x.rev) /\ W'.cell? ⟨w.heap.size, 2, none⟩ = some (.int .i64 x.sev))) (by kernel_rfl) (by (try dsimp only); exact ⟨zb (zwh _ w2).drew c0, zb (zwh _ w2).drew c1, zb (zwh _ w2).drew c2⟩) (fun hHeld => ?_)
  refine tk 0 ?_
  refine tk 1 ?_
  refine tk 2 ?_
  refine tk 3 ?_
  refine tk 5 ?_
  refine tk 6 ?_
  refine rd 4 fun K hK => ?_
  go_simp
  refine (zis (by have := HT.out.1; omega) (by have := HT.out.2.1; omega) _ (HP2.out.below (zwh _ w2).drew)).mono ?_
  rintro e wA ⟨rfl, hbA⟩
  try dsimp only
  have hbA2 := (zwh w2.heap.size w2).drew.trans hbA
  refine hK.out _ _ ?_ (fun hHeld => nx ?_)
  ·(try dsimp only); exact ⟨zb hbA hHeld.1, zb hbA hHeld.2.1, zb hbA hHeld.2.2⟩
  clear hK K
  refine rd 7 fun K hK => ?_
  go_simp
  refine (zis (by have := HT.out.2.2.1; omega) (by have := HT.out.2.2.2; omega) _ (HP2.out.below hbA2)).mono ?_
  rintro e wB ⟨rfl, hbB⟩
  try dsimp only
  have hbB2 := hbA2.trans (hbB.mono hbA2.size)
  refine hK.out _ _ ?_ (fun hHeld => nx ?_)
  ·(try dsimp only); exact ⟨zb hbB hHeld.1, zb hbB hHeld.2.1, zb hbB hHeld.2.2⟩
  clear hK K
  refine rd 8 fun K hK => ?_
  refine zbi rfl _ _ _ _ rfl V.advW x.id (Lib.decDigits x.rev.toNat) (Lib.decDigits x.sev.toNat) rfl rfl rfl rfl ?_
  refine hK.out _ _ ?_ (fun hHeld => nx ?_)
  ·exact zyf
  clear hK K
  refine rd 9 fun K hK => ?_
  have hbC : Below w2.heap.size w2 (wB.alloc (.cells (ul [V.advW, x.id, Lib.decDigits x.rev.toNat, Lib.decDigits x.sev.toNat]) 9)) := hbB2.alloc hbB2.size _
  refine zbf rfl _ rfl ⟨some ⟨wB.heap.size, 0, none⟩, 4, 4⟩ rfl ?_
  refine hK.out _ _ ?_ (fun hHeld => nx ?_)
  ·exact zyf
  clear hK K
  refine tk 10 ?_
  refine wpAnyH_done (by kernel_rfl) ?_ _
  have hu0 := zcl wB [V.advW, x.id, Lib.decDigits x.rev.toNat, Lib.decDigits x.sev.toNat]
  have hsC : (wB.alloc (.cells (ul [V.advW, x.id, Lib.decDigits x.rev.toNat, Lib.decDigits x.sev.toNat]) 9)).heap.size = wB.heap.size + 1 := by simp
  have hw2z : w.heap.size + 1 ≤ w2.heap.size := by rw [← HSZ.out]; exact HB2.out.size
  have hlr := LRow.one (N := w.heap.size + 1) (u := ⟨some ⟨wB.heap.size, 0, none⟩, 4, 4⟩) (by change _ ≤ (wB.alloc (.cells (ul [V.advW, x.id, Lib.decDigits x.rev.toNat, Lib.decDigits x.sev.toNat]) 9)).heap.size; rw [hsC]; have := hbB2.size; omega) hu0 (by simp)
  have hbD := hbC.alloc hbC.size (.cells #[(⟨some ⟨wB.heap.size, 0, none⟩, 4, 4⟩ : Lsl).v] 41)
  have hbE := HB2.out.trans (hbD.mono HB2.out.size)
  rw [HSZ.out] at hbE
  have y3 := zb hbD c3
  have HS0 : Hid (EncS (w.heap.size + 1) W1 (.slice (some ⟨wB.heap.size + 1, 0, none⟩) 1 1) (V.jw x 0) ((wB.alloc (.cells (ul [V.advW, x.id, Lib.decDigits x.rev.toNat, Lib.decDigits x.sev.toNat]) 9)).alloc (.cells #[(⟨some ⟨wB.heap.size, 0, none⟩, 4, 4⟩ : Lsl).v] 41))) := zwe ⟨⟨_, by rw [← hsC]; exact hlr⟩, hbE, by have := hbD.size; omega⟩
  change Exit.then _ _ _ _ ((wB.alloc (.cells (ul [V.advW, x.id, Lib.decDigits x.rev.toNat, Lib.decDigits x.sev.toNat]) 9)).alloc (.cells #[(⟨some ⟨wB.heap.size, 0, none⟩, 4, 4⟩ : Lsl).v] 41))
  try simp only [World.size_alloc]
  clear hu0 hlr hbE hHeld c0 c1 c2 hw2z hbA hbA2 hbB hbB2 hbC hbD c3
  generalize (wB.alloc (.cells (ul [V.advW, x.id, Lib.decDigits x.rev.toNat, Lib.decDigits x.sev.toNat]) 9)).alloc (.cells #[(⟨some ⟨wB.heap.size, 0, none⟩, 4, 4⟩ : Lsl).v] 41) = W4 at *
  clear hsC
  generalize wB.heap.size + 1 = b4 at *
  go_wp2
  go_loopw [4, 25] (fun ov iv wx => ∃ k : Nat, k ≤ x.aff.length /\ iv = .int .i64 k /\ EncS (w.heap.size + 1) W1 ov (V.jw x k) wx) (fun _ iv _ => x.aff.length - (intOf iv).toNat)
  case atStart => exact ⟨0, Nat.zero_le _, rfl, HS0.out⟩
  case round =>
   obtain ⟨k, hk, rfl, hes⟩ := hrel
   obtain ⟨us, hrow⟩ := hes.row
   obtain ⟨oa, oc, rfl⟩ := hrow.slice
   have HR := zwe hrow
   have HBR := zwe hes.below
   have hNs := hes.size
   clear hrow hes HS0 y3
   by_cases hlt : k < x.aff.length
   ·obtain ⟨hwf, b, off, ua, uc, rfl, hblt, ha⟩ := HV1.out.at k hlt
    have HBR1 : Hid (Below W1.heap.size W1 wr) := zwe (by rw [HSZ.out]; exact HBR.out)
    have HW := zwe hwf
    have HA := zwe (ha.below HBR1.out)
    have HST := zwe (V.zfo hlt)
    have hso := HSN.out x.aff[k] (List.getElem_mem hlt)
    have HFM : Hid (V.yk x.aff[k].rs x.aff[k].its = (V.xm x.aff[k].its, 0)) := zwe (by
      obtain ⟨_, h2, _, h4⟩ := V.yq hso
      unfold V.yk
      rw [h2, if_pos h4])
    have HLA : Hid (V.uw x.aff[k] = [V.affW, V.qb x.aff[k].sch, x.aff[k].name, V.xm x.aff[k].its]) := zwe rfl
    rw [HLA.out] at HST
    have hi1 : (0 : Int) ≤ (k : Int) := by omega
    have hi2 : (k : Int) < (x.aff.length : Int) := by omega
    have wr1 : IntKind.i64.wrap ((k : Int) + 1) = (k : Int) + 1 := IntWalk.i64_in _ (by omega)
    clear hwf ha hso HLA
    generalize x.aff[k] = a at *
    have e0 := HA.out.c0
    have e1 := HA.out.c1
    have e2 := HA.out.c2
    have e3 := HA.out.c3
    obtain ⟨hbZ, x0, x1, x2, x3⟩ := zdh a (.slice ua a.its.length uc) wr
    have HIZ := zwe (HA.out.its.below hbZ)
    have HRZ := zwe (HR.out.later hbZ)
    have HBZ := zwe (HBR.out.trans (hbZ.mono hNs))
    have HMZ := zwe (HM1.out.below (HBR1.out.trans (hbZ.mono HBR1.out.size)))
    have hzZ := hbZ.size
    have HXB : Hid (some wr.heap.size = (Value.slice oa (V.jw x k).length oc).ownBlock -> False) := zwe (fun e => by
      have := HR.out.row.lt _ e.symm
      omega)
    clear hbZ HR HBR HBR1
    go_wp2_with fail
    generalize wr.alloc (.cells #[.int .i64 a.sch, .string ⟨a.name.toArray⟩, .int .i64 a.rs, .slice ua a.its.length uc] 47) = wz at *
    generalize wr.heap.size = X at *
    clear e0 e1 e2 e3
    refine (zph a.rs (.slice ua a.its.length uc) a.its wz HMZ.out HIZ.out HW.out.lens HW.out.len).mono ?_
    rintro e wF ⟨rfl, hbF⟩
    rw [HFM.out]
    replace x0 := zb hbF x0
    replace x1 := zb hbF x1
    replace HRZ := zwe (HRZ.out.later hbF)
    replace HBZ := zwe (HBZ.out.trans (hbF.mono (by omega)))
    have hzF := hbF.size
    have hNz : w.heap.size + 1 ≤ wF.heap.size := by omega
    clear hbF HIZ HMZ x2 x3
    go_wp2_with fail
    refine wp_region_held_drew (S := (fun W' => W'.cell? ⟨X, 0, none⟩ = some (.int .i64 a.sch) /\ W'.cell? ⟨X, 1, none⟩ = some (.string ⟨a.name.toArray⟩))) (by kernel_rfl) (by (try dsimp only); exact ⟨zb (zwh _ wF).drew x0, zb (zwh _ wF).drew x1⟩) (fun hHeld => ?_)
    refine tk 0 ?_
    refine tk 1 ?_
    refine tk 2 ?_
    refine tk 4 ?_
    refine tk 5 ?_
    refine tk 6 ?_
    refine rd 3 fun K hK => ?_
    go_simp
    refine (zk1 a.sch wF.drew).mono ?_
    exact zww
   ·obtain rfl : k = x.aff.length := by omega
    have HLN := zwe HR.out.lines
    go_wp2_with fail
    refine (zt1 _ (V.qi x) wr HLN.out HWD.out).mono ?_
    intro e w3 he
    have HBE : Hid (Below w.heap.size w w3) := zwe (HB1.out.trans ((HBR.out.trans (he.2.2.mono hNs)).mono (by omega)))
    by_cases hz : V.encE (V.qi x) = 0
    ·obtain ⟨u, rfl, hbuf⟩ := he.1 hz
     have HE2 : Hid (V.encV x = (V.doc (V.qi x), 0)) := zwe (by rw [HEV.out, if_pos hz])
     have HBF := zwe hbuf
     clear he hz hbuf
     go_wp2
     go_ret2
     exact ⟨fun _ => ⟨u, wr.heap.size, wr, rfl, by rw [HE2.out]; exact HBF.out⟩, fun h => absurd (by rw [HE2.out]) h, HBE.out⟩
    ·exact zyv
end Go.Proofs.YtcfbkcapbbhmpaaGreatDoor
