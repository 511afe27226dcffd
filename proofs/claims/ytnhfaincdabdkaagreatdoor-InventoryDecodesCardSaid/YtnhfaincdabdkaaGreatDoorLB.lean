/-
  Walk: the reference's Decode of documents.
  bytes.SplitSeq at a separator of one byte: the iterator's contract.
-/
import Derived.Test.YtnhfaincdabdkaaGreatDoorDV
import Derived.Test.YtnhfaincdabdkaaGreatDoorDR
import Derived.Test.YtnhfaincdabdkaaGreatDoorDK
import Derived.Test.YtnhfaincdabdkaaGreatDoorL2
import Derived.Test.YtnhfaincdabdkaaGreatDoorL5
namespace Go.Proofs.YtnhfaincdabdkaaGreatDoor
open Go.RowKit

namespace V
theorem words_at {P l : List Bs} {j : Nat} (h : wordsP P = (wordsP (P.drop j)).map (l ++ ·)) (hj : j < P.length) :
    (unwP P[j] = ([], false) → wordsP P = none) ∧ (∀ w, unwP P[j] = (w, true) → wordsP P = (wordsP (P.drop (j + 1))).map ((l ++ [w]) ++ ·)) := by
  rw [List.drop_eq_getElem_cons hj, wordsP] at h
  unfold unwP
  cases hu : unwR P[j] with
  | none =>
    rw [hu] at h
    exact ⟨fun _ => h, fun w e => by simp at e⟩
  | some w0 =>
    rw [hu] at h
    refine ⟨fun e => by simp at e, fun w e => ?_⟩
    simp only [Prod.mk.injEq, and_true] at e
    subst e
    rw [h]
    cases wordsP (P.drop (j + 1)) <;> simp
theorem unwP_cases (s : Bs) : unwP s = ([], false) ∨ ∃ w, unwP s = (w, true) ∧ unwR s = some w := by
  unfold unwP
  cases unwR s with
  | none => exact .inl rfl
  | some w => exact .inr ⟨w, rfl, rfl⟩
theorem rows_at {R : List Bs} {ls : List (List Bs)} {k : Nat} (h : rowsP R = (rowsP (R.drop k)).map (ls ++ ·)) (hk : k < R.length) :
    (wordsP (splitOn 32 R[k]) = none → rowsP R = none) ∧ (∀ l, wordsP (splitOn 32 R[k]) = some l → rowsP R = (rowsP (R.drop (k + 1))).map ((ls ++ [l]) ++ ·)) := by
  rw [List.drop_eq_getElem_cons hk, rowsP] at h
  refine ⟨fun e => ?_, fun l e => ?_⟩
  · rw [e] at h; exact h
  · rw [e] at h
    rw [h]
    simp only
    cases rowsP (R.drop (k + 1)) <;> simp
/-- a word is no longer than its encoded form -/
theorem unwR_len {s w : Bs} (h : unwR s = some w) : w.length ≤ s.length := by
  have h1 := word_len w
  rw [unwR_word h] at h1
  rw [h1]
  unfold sizeW
  have := le_sum w
  omega
theorem split_mem1 (c : UInt8) {s x : Bs} (h : x ∈ splitOn c s) : x.length ≤ s.length := by
  have h1 := split_sz c s
  have h2 : ∀ {l : List Bs} {x : Bs}, x ∈ l → x.length + 1 ≤ (l.map fun x => x.length + 1).sum := by
    intro l x hx
    induction l with
    | nil => cases hx
    | cons y l ih =>
      rw [List.map_cons, List.sum_cons]
      rcases List.mem_cons.1 hx with rfl | hx
      · omega
      · have := ih hx; omega
  have := h2 h
  omega
theorem split_len1 (c : UInt8) (s : Bs) : (splitOn c s).length ≤ s.length + 1 := by
  have h1 := split_sz c s
  have h2 : ∀ l : List Bs, l.length ≤ (l.map fun x => x.length + 1).sum := by
    intro l
    induction l with
    | nil => simp
    | cons y l ih => rw [List.map_cons, List.sum_cons, List.length_cons]; omega
  have := h2 (splitOn c s)
  omega
theorem words_mem : ∀ {P l : List Bs} {M : Nat}, wordsP P = some l → (∀ s ∈ P, s.length ≤ M) → ∀ w ∈ l, w.length ≤ M
  | [], l, M, h, _ => by cases h; intro w hw; cases hw
  | s :: P, l, M, h, hm => by
    rw [wordsP] at h
    cases hs : unwR s with
    | none => rw [hs] at h; cases h
    | some w =>
      rw [hs] at h
      simp only at h
      cases hr : wordsP P with
      | none => rw [hr] at h; cases h
      | some l' =>
        rw [hr] at h
        cases h
        intro x hx
        rcases List.mem_cons.1 hx with rfl | hx
        · have := unwR_len hs
          have := hm s (List.mem_cons_self ..)
          omega
        · exact words_mem hr (fun s hs => hm s (List.mem_cons_of_mem _ hs)) x hx
theorem rows_mem : ∀ {R : List Bs} {ls : List (List Bs)} {M : Nat}, rowsP R = some ls → (∀ s ∈ R, s.length ≤ M) → ∀ l ∈ ls, ∀ w ∈ l, w.length ≤ M
  | [], ls, M, h, _ => by cases h; intro l hl; cases hl
  | x :: R, ls, M, h, hm => by
    rw [rowsP] at h
    cases hs : wordsP (splitOn 32 x) with
    | none => rw [hs] at h; cases h
    | some l =>
      rw [hs] at h
      simp only at h
      cases hr : rowsP R with
      | none => rw [hr] at h; cases h
      | some ls' =>
        rw [hr] at h
        cases h
        intro y hy
        rcases List.mem_cons.1 hy with rfl | hy
        · exact words_mem hs (fun s hs => Nat.le_trans (split_mem1 32 hs) (hm x (List.mem_cons_self ..)))
        · exact rows_mem hr (fun s hs => hm s (List.mem_cons_of_mem _ hs)) y hy
end V

/-- v is a slice of the bytes bs -/
def BytesIn (w : World) (v : Value) (bs : V.Bs) : Prop :=
  ∃ a cap, v = .slice a bs.length cap ∧ bs.length ≤ cap ∧ ∀ j (h : j < bs.length), ∃ b off, a = some ⟨b, off, none⟩ ∧ b < w.heap.size ∧ w.cell? ⟨b, off + j, none⟩ = some (.int .u8 (bs[j]).toNat)
theorem BytesIn.below {w w' : World} {v : Value} {bs : V.Bs} (h : BytesIn w v bs) (hb : Below w.heap.size w w') : BytesIn w' v bs := by
  obtain ⟨a, cap, e, hc, hat⟩ := h
  refine ⟨a, cap, e, hc, fun j hj => ?_⟩
  obtain ⟨b, off, ea, hlt, hr⟩ := hat j hj
  exact ⟨b, off, ea, Nat.lt_of_lt_of_le hlt hb.size, (hb.cell (p := ⟨b, off + j, none⟩) hlt).trans hr⟩
set_option maxRecDepth 100000 in
theorem conv_cells (w : World) (g off n cap : Nat) (bs : V.Bs) (hn : bs.length = n) (hc : ∀ j (h : j < bs.length), w.cell? ⟨g, off + j, none⟩ = some (.int .u8 (bs[j]).toNat)) :
    (convert 22 9 (.slice (some ⟨g, off, none⟩) n cap)).run Tryz.prog w = .ok (.string ⟨bs.toArray⟩) w := by
  subst hn
  have r := run_convert_bytes_arg (P := Tryz.prog) w 22 5 Tryz.underlying22 Tryz.underlying5 g off bs.length cap (bs.map fun b => (b.toNat : Int)) (by simp) (fun i hi => by
    rw [hc i hi, List.getD_eq_getElem?_getD, List.getElem?_map, List.getElem?_eq_getElem hi]
    rfl) 9 Tryz.underlying9
  refine r.trans (congrArg (fun x => Result.ok (Value.string x) w) (bs_ext ?_))
  rw [strOfNums_data, List.map_map]
  simp only 
  conv => rhs; rw [← List.map_id bs]
  apply List.map_congr_left
  intro b _
  simp
def strsV (l : List V.Bs) : Array Value := (l.map fun x => Value.string ⟨x.toArray⟩).toArray
theorem split1_any (c : UInt8) (s : V.Bs) (w : World) (hm : MaxOk w) (hs : s.length < 4294967281) :
    Calls Tryz.prog 97 #[.string ⟨s.toArray⟩, .string ⟨#[c]⟩] w fun e w' =>
      e = .returned (.slice (some ⟨w.heap.size, 0, none⟩) (V.splitOn c s).length (V.splitOn c s).length) ∧ w' = w.alloc (.cells (strsV (V.splitOn c s)) 9) := by
  obtain ⟨m, hm⟩ := hm
  have hsp : (Lib.splitB ⟨#[c]⟩ 0 (Lib.countB ⟨s.toArray⟩ ⟨#[c]⟩) ⟨s.toArray⟩).map (·.data.toList) = V.splitOn c s := by
    rw [Lib.splitB_data]
    exact V.split_one c _ s (Nat.le_refl _)
  have hlen := Lib.splitB_all ⟨#[c]⟩ (Nat.le_refl 1) 0 _ ⟨s.toArray⟩ rfl
  have hl : (V.splitOn c s).length = Lib.countB ⟨s.toArray⟩ ⟨#[c]⟩ + 1 := by rw [← hsp, List.length_map, hlen]
  have hcs : strsV (V.splitOn c s) = ((Lib.splitB ⟨#[c]⟩ 0 (Lib.countB ⟨s.toArray⟩ ⟨#[c]⟩) ⟨s.toArray⟩).map Value.string).toArray := by
    unfold strsV
    rw [← hsp, List.map_map]
    congr 1
  refine (Tryz.strings_Split ⟨s.toArray⟩ ⟨#[c]⟩ m w (by rw [sz_arr]; exact hs) hm (Nat.le_refl 1)).mono ?_
  rintro e w' ⟨rfl, rfl⟩
  rw [hl, hcs]
  exact ⟨rfl, rfl⟩
/-- at the operation: an element appended to a row of one's own; whose block the new slice is -/
theorem wl_appendA {α : Type} {enc : α → List Value} {k : Nat} {T : TypeId} {ops : Array Oper} {rest : List Oper} {o : Oper} {a : Act} {w : World} {Q : Exit → Act → World → Prop} (hk : ∀ x, (enc x).length = k) (hk0 : 0 < k) (h1c : ∀ x, ∀ u ∈ enc x, u.oneCell' = true) {bytes : Nat} (hi : GInfo T k bytes) (hby : bytes ≤ 1000) (hgd : o.guard = none) (s x : Operand) (S : TypeId)
    (ho : o.op = .call { callee := .builtin .append, args := #[s, x], argTypes := #[S, S] }) (hu : Tryz.prog.underlying S = some (.slice T))
    (N : Nat) (v : Value) (l : List α) (hs : a.eval s = v) (hown : GRow T k enc w N v l) (b : Nat) (c : α) (hx : a.eval x = .slice (some ⟨b, 0, none⟩) 1 1) (hr : ∀ j u, (enc c)[j]? = some u → w.cell? ⟨b, j, none⟩ = some u) (hl : l.length ≤ 1000000) (hN : N ≤ w.heap.size)
    (h : ∀ v' w', GRow T k enc w' N v' (l ++ [c]) → w.grownBy w' v.ownBlock → (v'.ownBlock = v.ownBlock ∨ v'.ownBlock = some w.heap.size) → wpList Tryz.prog ops Q rest (a.put o.dst v') w') : wpList Tryz.prog ops Q (o :: rest) a w := by
  obtain ⟨ie, z, hie, hz, h1, h2, h3⟩ := hi
  refine wpList_append_own_at w hgd s x S ho N T ie z k bytes hu hie hz h1 h2 h3 hk0 v l.length (l.flatMap enc) hs hown ⟨b, 0, none⟩ 1 1 (enc c) hx (by rw [hk]; omega) ?_ (h1c c) (by unfold maxLen; omega) ?_ hN ?_
  · intro j u hj
    rw [Addr.add_mid, Nat.zero_add]
    exact hr j u hj
  · have : (l.length + 1) * bytes ≤ 1000001 * 1000 := Nat.mul_le_mul (by omega) hby
    omega
  · intro v' w' ho' hg _ hob
    refine h v' w' ?_ hg hob
    unfold GRow
    rw [List.length_append, List.flatMap_append]
    simpa using ho'
/-! rows of words -/
def wrdE (s : V.Bs) : List Value := [.string ⟨s.toArray⟩]
theorem wrdE_len (s : V.Bs) : (wrdE s).length = 1 := rfl
theorem wrdE_one (s : V.Bs) : ∀ u ∈ wrdE s, u.oneCell' = true := by
  intro u hu
  simp [wrdE] at hu
  subst hu
  rfl
theorem wrdInfo : GInfo 9 1 16 := by
  have h : (match Tryz.prog.info? 9 with | some i => i.size == 1 && (i.bytes == 16 && (match i.zero with | some z => z.cells.size == 1 | none => false)) | none => false) = true := by kernel_rfl
  unfold GInfo
  cases hq : Tryz.prog.info? 9 with
  | none => rw [hq] at h; cases h
  | some i =>
    rw [hq] at h
    simp only [Bool.and_eq_true, beq_iff_eq] at h
    obtain ⟨h1, h2, h3⟩ := h
    cases hz : i.zero with
    | none => rw [hz] at h3; cases h3
    | some z =>
      rw [hz] at h3
      exact ⟨i, z, rfl, hz, h1, h2, by simpa using h3⟩
theorem wrd_strs {w : World} {N : Nat} {v : Value} {l : List V.Bs} (h : GRow 9 1 wrdE w N v l) : Strs w v l := by
  obtain ⟨a, cap, rfl⟩ := GRow.slice h
  refine ⟨a, cap, rfl, fun j hj => ?_⟩
  obtain ⟨g, cap2, e, hN, hg, hc⟩ := GRow.at wrdE_len h j hj
  cases e
  exact ⟨g, 0, rfl, hg, by simpa using hc 0 _ rfl⟩
theorem Lines.nil (w : World) : Lines w (.slice none 0 0) [] := ⟨none, 0, rfl, fun j h => by simp at h⟩
/-- no longer than its capacity -/
def CapOk (v : Value) : Prop := ∃ a n c, v = .slice a n c ∧ n ≤ c
theorem LRow.cap {N : Nat} {w : World} {v : Value} {us : List Lsl} {ls : List (List V.Bs)} (h : LRow N w v us ls) : CapOk v := by
  rcases h.row.2 with ⟨rfl, hn⟩ | ⟨g, cap, cur, rfl, _, _, hc, _⟩
  · exact ⟨_, _, _, rfl, Nat.le_refl _⟩
  · exact ⟨_, _, _, rfl, hc⟩
/-- what Decode returns -/
def DecPost (bs : V.Bs) (w : World) (e : Ending) (w' : World) : Prop :=
  ∃ u, e = .returned (.tuple #[u, .int .i64 (V.decP bs).2]) ∧ Lines w' u (V.decP bs).1 ∧ CapOk u ∧ Below w.heap.size w w'
theorem DecPost.err {bs : V.Bs} {w w' : World} {c : Int} (h : V.decP bs = ([], c)) (hb : Below w.heap.size w w') : DecPost bs w (.returned (.tuple #[.slice none 0 0, .int .i64 c])) w' :=
  ⟨_, by rw [h], by rw [h]; exact Lines.nil _, ⟨_, _, _, rfl, Nat.le_refl _⟩, hb⟩
end Go.Proofs.YtnhfaincdabdkaaGreatDoor
namespace Go.Proofs.YtnhfaincdabdkaaGreatDoor
open Go.RowKit Go.Shelf
attribute [local go_sem] Oper.semAt_some

theorem split_idx {c : UInt8} {r : V.Bs} {i : Nat} (h : Lib.indexByte r c = i) : V.splitOn c r = r.take i :: V.splitOn c (r.drop (i + 1)) ∧ i < r.length := by
  have hm : c ∈ r := by
    have := V.indexByte_mem r c
    rw [h] at this
    simpa using this.symm
  have hi : ((r.takeWhile (· != c)).length) = i := by
    have h1 : Lib.index r [c] = Lib.indexByte r c := Lib.index_one r c
    rw [V.index_one, if_pos hm, h] at h1
    omega
  have hlt := V.tw_lt hm
  refine ⟨?_, by omega⟩
  have h2 := V.take_tw r (· != c)
  rw [hi] at h2
  rw [V.splitOn_some hm, hi, h2]
theorem split_no {c : UInt8} {r : V.Bs} (h : Lib.indexByte r c = -1) : V.splitOn c r = [r] := by
  refine V.splitOn_none fun e => ?_
  have := V.indexByte_mem r c
  rw [h] at this
  simp [e] at this
theorem bytesOf_nat (r : V.Bs) : Lib.bytesOf (r.map fun b => (b.toNat : Int)) = r := by
  unfold Lib.bytesOf
  rw [List.map_map]
  conv => rhs; rw [← List.map_id r]
  apply List.map_congr_left
  intro b _
  simp
theorem idxB_any (c : UInt8) (g o cap b2 d : Nat) (r : V.Bs) (W : World) (hc : ∀ j (h : j < r.length), W.cell? ⟨g, o + j, none⟩ = some (.int .u8 (r[j]).toNat)) (h2 : W.cell? ⟨b2, 0, none⟩ = some (.int .u8 c.toNat)) :
    Calls Tryz.prog 128 #[.slice (some ⟨g, o, none⟩) r.length cap, .slice (some ⟨b2, 0, none⟩) 1 d] W fun e w' => e = .returned (.int .i64 (Lib.indexByte r c)) ∧ w' = W := by
  have := Tryz.bytes_Index_one_at ⟨g, o, none⟩ r.length cap b2 0 d (r.map fun b => (b.toNat : Int)) c.toNat W (by simp) (fun i hi => by
    rw [Addr.add_mid, hc i hi, List.getD_eq_getElem?_getD, List.getElem?_map, List.getElem?_eq_getElem hi]
    rfl) h2
  rw [bytesOf_nat] at this
  have e : ((c.toNat : Int)).toNat.toUInt8 = c := by simp
  rwa [e] at this
def slLen : Option Value → Nat
  | some (.slice _ n _) => n
  | _ => 0
/-- a piece of the line: where its slice begins, its bytes -/
def PieceOk (off : Nat) (r0 : V.Bs) (x : Nat × V.Bs) : Prop := ∃ p, ∃ h : p + x.2.length ≤ r0.length, (0 < x.2.length → x.1 = off + p) ∧ ∀ j (hj : j < x.2.length), x.2[j] = r0[p + j]'(by omega)
theorem PieceOk.cells {off : Nat} {r0 : V.Bs} {x : Nat × V.Bs} (h : PieceOk off r0 x) {W : World} {g : Nat} (hc : ∀ j (h : j < r0.length), W.cell? ⟨g, off + j, none⟩ = some (.int .u8 (r0[j]).toNat)) : ∀ j (hj : j < x.2.length), W.cell? ⟨g, x.1 + j, none⟩ = some (.int .u8 (x.2[j]).toNat) := fun j hj => by
  obtain ⟨p, hl, ho, hx⟩ := h
  rw [ho (by omega), hx j hj, Nat.add_assoc]
  exact hc (p + j) (by omega)

/-- all blocks below B but O are as they were -/
def KpO (B O : Nat) (W W' : World) : Prop := W.heap.size ≤ W'.heap.size ∧ ∀ q, q < B → q ≠ O → W'.heap[q]? = W.heap[q]?
theorem KpO.cell {B O : Nat} {W W' : World} (h : KpO B O W W') {q o : Nat} (hq : q < B) (hO : q ≠ O) : W'.cell? ⟨q, o, none⟩ = W.cell? ⟨q, o, none⟩ := by
  unfold World.cell?
  rw [h.2 q hq hO]
theorem KpO.frozen {B O : Nat} {W W' : World} (h : KpO B O W W') {q o : Nat} (hq : q < B) (hO : q ≠ O) : W'.frozen? ⟨q, o, none⟩ = W.frozen? ⟨q, o, none⟩ := by
  unfold World.frozen?
  rw [h.2 q hq hO]
theorem KpO.trans {B O : Nat} {A C D : World} (h : KpO B O A C) (k : KpO B O C D) : KpO B O A D := ⟨Nat.le_trans h.1 k.1, fun q hq hO => (k.2 q hq hO).trans (h.2 q hq hO)⟩
theorem KpO.put {B O : Nat} {w : World} (hB : B ≤ w.heap.size) (W : World) (l : Nat) (o o' : Obj) (hl : w.heap.size ≤ l) (_h : W.heap[l]? = some o) (_ : o.isCells = false) (_ : o.isWalk = false) : KpO B O W (W.putObj l o') :=
  ⟨(grownBy_putObj' W l o').size, fun q hq _ => World.putObj_heap_other (by omega)⟩

set_option maxRecDepth 100000 in
set_option maxHeartbeats 1000000 in
theorem bsplit1_in (n : Nat) (hn : 1 ≤ n) (l bS g off cap0 b2 O : Nat) (hO : O < bS) (hOg : g ≠ O) (hO2 : b2 ≠ O) (c : UInt8) (r0 : V.Bs) (hs : r0.length ≤ 1000000) (hcap0 : r0.length ≤ cap0) (hg : g < bS + 3) (hgS : g ≠ bS) (hb2 : b2 < bS + 3) (hb2S : b2 ≠ bS) (J Jx : List (Nat × V.Bs) → World → Prop)
    (hJ : ∀ s A v, J s A → J s (A.setCell ⟨bS, 0, none⟩ v))
    (hY : ∀ pre x W, J pre W → (PieceOk off r0 x ∧ pre.length ≤ r0.length + 1) → YieldAt Fence.wide (n - 1) Tryz.prog l #[.slice (some ⟨g, x.1, none⟩) x.2.length x.2.length] W fun e W' =>
      (e = .returned (.bool true) ∧ J (pre ++ [x]) W' ∧ KpO (bS + 3) O W W') ∨ (e = .returned (.bool false) ∧ Jx (pre ++ [x]) W'))
    (W : World) (hS : W.cell? ⟨bS, 0, none⟩ = some (.slice (some ⟨g, off, none⟩) r0.length cap0)) (hF : W.frozen? ⟨bS, 0, none⟩ = false) (hP : W.cell? ⟨bS + 1, 0, none⟩ = some (.slice (some ⟨b2, 0, none⟩) 1 1)) (hV : W.cell? ⟨bS + 2, 0, none⟩ = some (.int .i64 0))
    (hC : ∀ j (h : j < r0.length), W.cell? ⟨g, off + j, none⟩ = some (.int .u8 (r0[j]).toNat)) (h2 : W.cell? ⟨b2, 0, none⟩ = some (.int .u8 c.toNat)) (h0 : J [] W) :
    CallsIn Fence.wide n Tryz.prog 166 #[.func (.yield l) #[] #[], .pointer (some ⟨bS + 1, 0, none⟩), .pointer (some ⟨bS, 0, none⟩), .pointer (some ⟨bS + 2, 0, none⟩)] W fun e W' => (∃ v, e = .returned v) ∧
      ((∃ ys, ys.map Prod.snd = V.splitOn c r0 ∧ J ys W') ∨ (∃ pre, pre.map Prod.snd <+: V.splitOn c r0 ∧ Jx pre W')) := by
  have HJ := Lib.hid hJ
  have HY := Lib.hid hY
  clear hJ hY
  refine callsIn_of_wp Tryz.func166 rfl trivial ?_ rfl
  simp only [Tryz.ntmps166, List.size_toArray, List.length_cons, List.length_nil, Nat.reduceAdd, Nat.reduceSub, Array.replicate_succ, Array.replicate_zero, List.push_toArray, List.append_toArray, List.nil_append, List.cons_append]
  have HC := Lib.hid hC
  clear hC
  gi_wp2
  gi_loopw [7, 8] (fun _ _ wr => ∃ (pre : List (Nat × V.Bs)) (p o cap : Nat) (r : V.Bs), wr.cell? ⟨bS, 0, none⟩ = some (.slice (some ⟨g, o, none⟩) r.length cap) ∧ wr.frozen? ⟨bS, 0, none⟩ = false ∧ wr.cell? ⟨bS + 1, 0, none⟩ = some (.slice (some ⟨b2, 0, none⟩) 1 1) ∧ wr.cell? ⟨bS + 2, 0, none⟩ = some (.int .i64 0) ∧
      (r = r0.drop p ∧ p + r.length = r0.length ∧ (0 < r.length → o = off + p)) ∧ r.length ≤ cap ∧ pre.map Prod.snd ++ V.splitOn c r = V.splitOn c r0 ∧ (∀ j (h : j < r0.length), wr.cell? ⟨g, off + j, none⟩ = some (.int .u8 (r0[j]).toNat)) ∧ wr.cell? ⟨b2, 0, none⟩ = some (.int .u8 c.toNat) ∧ J pre wr)
    (fun _ _ wr => slLen (wr.cell? ⟨bS, 0, none⟩))
  case atStart => exact ⟨[], 0, off, cap0, r0, hS, hF, hP, hV, ⟨rfl, by omega, fun _ => rfl⟩, hcap0, rfl, HC.out, h2, h0⟩
  case round =>
    clear hS hF hP hV h2 h0 HC
    obtain ⟨pre, p, o, cap, r, hS, hF, hP, hV, ⟨hr, hpl, ho⟩, hrc, hpc, hC, h2, hj⟩ := hrel
    have HPC := Lib.hid hpc
    have HJS := Lib.hid hj
    have HC := Lib.hid hC
    have H2 := Lib.hid h2
    have HR := Lib.hid hr
    have HO := Lib.hid ho
    have hCr : ∀ j (h : j < r.length), wr.cell? ⟨g, o + j, none⟩ = some (.int .u8 (r[j]).toNat) := fun j h => by
      have := hC (p + j) (by omega)
      rw [ho (by omega), Nat.add_assoc, this]
      subst hr
      simp
    have HCR := Lib.hid hCr
    clear hj hC h2 hr hCr ho
    have hpn : pre.length ≤ r0.length + 1 := by
      have h1 := congrArg List.length hpc
      have h2 := V.split_len1 c r0
      simp at h1
      omega
    have HPN := Lib.hid hpn
    clear hpn hpc
    have hcase : (Lib.indexByte r c = -1 ∧ V.splitOn c r = [r]) ∨ ∃ i : Nat, Lib.indexByte r c = i ∧ i < r.length ∧ V.splitOn c r = r.take i :: V.splitOn c (r.drop (i + 1)) := by
      have hge := Lib.indexByte_ge r c
      by_cases hm : Lib.indexByte r c = -1
      · exact .inl ⟨hm, split_no hm⟩
      · obtain ⟨i, hi⟩ := Int.eq_ofNat_of_zero_le (show 0 ≤ Lib.indexByte r c by omega)
        exact .inr ⟨i, hi, (split_idx hi).2, (split_idx hi).1⟩
    rcases hcase with ⟨hi, hp⟩ | ⟨i, hi, hlt, hp⟩
    · have HI := Lib.hid hi
      have HPP := Lib.hid hp
      clear hi hp
      have hk1 : (r.length : Int) ≤ (cap : Int) := by omega
      have hpo : PieceOk off r0 (o, r) := ⟨p, Nat.le_of_eq hpl, HO.out, fun j hj => by
        have e := HR.out
        subst e
        simp⟩
      obtain ⟨fn, tmps, assign, body, hy, hRR⟩ := HY.out pre (o, r) wr HJS.out ⟨hpo, HPN.out⟩
      gi_wp2_with fail
      refine ⟨trivial, (callsIn_wide.2 (idxB_any c g o cap b2 1 r wr HCR.out H2.out)).mono ?_⟩
      rintro e w' ⟨rfl, rfl⟩
      simp only [HI.out]
      gi_wp2
      refine hRR.mono ?_
      rintro e W3 (⟨rfl, hJ3, hk3⟩ | ⟨rfl, hJx3⟩)
      · gi_wp2
        go_end0
        exact ⟨⟨_, rfl⟩, .inl ⟨_, by rw [← HPC.out, HPP.out, List.map_append]; rfl, hJ3⟩⟩
      · gi_wp2
        go_end0
        exact ⟨⟨_, rfl⟩, .inr ⟨_, by rw [← HPC.out, HPP.out, List.map_append]; exact List.prefix_refl _, hJx3⟩⟩
    · have HI := Lib.hid hi
      have HPP := Lib.hid hp
      clear hi hp
      have hoe := HO.out (by omega)
      have hk1 : (i : Int) ≤ (cap : Int) := by omega
      have hk2 : (0 : Int) ≤ (i : Int) := by omega
      have hk3 : ¬ ((i : Int) < 0) := by omega
      have hk4 : IntKind.i64.wrap (i : Int) = (i : Int) := by unfold IntKind.wrap; simp [IntKind.signed, IntKind.bits]; omega
      have hk5 : IntKind.i64.wrap ((i : Int) + 1) = (i : Int) + 1 := by unfold IntKind.wrap; simp [IntKind.signed, IntKind.bits]; omega
      have hk6 : (i : Int) + 1 ≤ (r.length : Int) := by omega
      have hk7 : (r.length : Int) ≤ (cap : Int) := by omega
      have hk8 : (0 : Int) ≤ (i : Int) + 1 := by omega
      have htl : (r.take i).length = i := by rw [List.length_take]; omega
      have hpo : PieceOk off r0 (o, r.take i) := ⟨p, by simp only [htl]; omega, fun _ => hoe, fun j hj => by
        have e := HR.out
        subst e
        simp⟩
      have HOE := Lib.hid hoe
      clear hoe
      obtain ⟨fn, tmps, assign, body, hy, hRR⟩ := HY.out pre (o, r.take i) wr HJS.out ⟨hpo, HPN.out⟩
      simp only [htl] at hy
      obtain ⟨ad, had⟩ : ∃ ad, ad = (if cap = i + 1 then (o : Nat) else o + (i + 1)) := ⟨_, rfl⟩
      have hadv : (if cap = i + 1 then some (⟨g, o, none⟩ : Addr) else some ⟨g, o + (i + 1), none⟩) = some ⟨g, ad, none⟩ := by
        rw [had]; split <;> rfl
      have HAD := Lib.hid had
      clear had
      gi_wp2_with fail
      refine ⟨trivial, (callsIn_wide.2 (idxB_any c g o cap b2 1 r wr HCR.out H2.out)).mono ?_⟩
      rintro e w' ⟨rfl, rfl⟩
      simp only [HI.out]
      gi_wp2
      refine hRR.mono ?_
      rintro e W3 (⟨rfl, hJ3, hk3⟩ | ⟨rfl, hJx3⟩)
      · have hS3 := (hk3.cell (q := bS) (o := 0) (by omega) (by omega)).trans hS
        have hF3 := (hk3.frozen (q := bS) (o := 0) (by omega) (by omega)).trans hF
        have hP3 := (hk3.cell (q := bS + 1) (o := 0) (by omega) (by omega)).trans hP
        have hV3 := (hk3.cell (q := bS + 2) (o := 0) (by omega) (by omega)).trans hV
        gi_wp2
        go_roundw
        case rel =>
          have hdl : (r.drop (i + 1)).length = r.length - (i + 1) := List.length_drop
          refine ⟨pre ++ [(o, r.take i)], p + (i + 1), ad, cap - (i + 1), r.drop (i + 1), ?_, ?_, ?_, ?_, ⟨?_, ?_, ?_⟩, ?_, ?_, ?_, ?_, HJ.out _ _ _ hJ3⟩
          · rw [hdl]
            refine (World.cell?_setCell_same _ _ _ hS3).trans ?_
            first | rfl | rw [hadv]
          · rw [World.frozen?_setCell]; exact hF3
          · rw [World.cell?_setCell_other _ _ _ _ (by simp)]; exact hP3
          · rw [World.cell?_setCell_other _ _ _ _ (by simp)]; exact hV3
          · rw [HR.out, List.drop_drop]
          · rw [hdl]; omega
          · intro h
            rw [hdl] at h
            rw [HAD.out, if_neg (by omega), HOE.out]
            omega
          · rw [hdl]; omega
          · rw [← HPC.out, HPP.out, List.map_append]; simp
          · intro j h
            rw [World.cell?_setCell_other _ _ _ _ (by simp )]
            exact (hk3.cell (q := g) (o := off + j) hg hOg).trans (HC.out j h)
          · rw [World.cell?_setCell_other _ _ _ _ (by simp )]
            exact (hk3.cell (q := b2) (o := 0) hb2 hO2).trans H2.out
        case measure =>
          rw [World.cell?_setCell_same _ _ _ hS3, hS]
          simp [slLen]; omega
      · gi_wp2
        refine bodyPost_ret (results_none rfl _ _ _) rfl ?_
        exact ⟨⟨_, rfl⟩, .inr ⟨_, by rw [← HPC.out, HPP.out, List.map_append]; exact ⟨V.splitOn c (r.drop (i + 1)), by simp⟩, hJx3⟩⟩

theorem bsplit1_seq (n : Nat) (hn : 1 ≤ n) (bS g off cap0 b2 O : Nat) (hO : O < bS) (hOg : g ≠ O) (hO2 : b2 ≠ O) (c : UInt8) (r0 : V.Bs) (hs : r0.length ≤ 1000000) (hcap0 : r0.length ≤ cap0) (hg : g < bS) (hb2 : b2 < bS) (w : World) (hb : bS + 2 < w.heap.size)
    (hS : w.cell? ⟨bS, 0, none⟩ = some (.slice (some ⟨g, off, none⟩) r0.length cap0)) (hF : w.frozen? ⟨bS, 0, none⟩ = false) (hP : w.cell? ⟨bS + 1, 0, none⟩ = some (.slice (some ⟨b2, 0, none⟩) 1 1)) (hV : w.cell? ⟨bS + 2, 0, none⟩ = some (.int .i64 0))
    (hC : ∀ j (h : j < r0.length), w.cell? ⟨g, off + j, none⟩ = some (.int .u8 (r0[j]).toNat)) (h2 : w.cell? ⟨b2, 0, none⟩ = some (.int .u8 c.toNat)) :
    HandsP Fence.wide n Tryz.prog 166 #[.pointer (some ⟨bS + 1, 0, none⟩), .pointer (some ⟨bS, 0, none⟩), .pointer (some ⟨bS + 2, 0, none⟩)] (fun x : Nat × V.Bs => #[.slice (some ⟨g, x.1, none⟩) x.2.length x.2.length]) (KpO (bS + 3) O) (fun ys => ys.map Prod.snd = V.splitOn c r0) (fun pre => pre.map Prod.snd <+: V.splitOn c r0) (fun pre x => PieceOk off r0 x ∧ pre.length ≤ r0.length + 1) w bS := by
  intro l J Jx W hW hJ hY h0
  have hk := fun b o (hb : b < w.heap.size) => hW.cell (p := ⟨b, o, none⟩) hb
  exact bsplit1_in n hn l bS g off cap0 b2 O hO hOg hO2 c r0 hs hcap0 (by omega) (by omega) (by omega) (by omega) J Jx hJ hY W ((hk bS 0 (by omega)).trans hS) ((hW.frozen (p := ⟨bS, 0, none⟩) (show bS < w.heap.size by omega)).trans hF) ((hk (bS + 1) 0 (by omega)).trans hP) ((hk (bS + 2) 0 (by omega)).trans hV)
    (fun j h => (hk g _ (by omega)).trans (hC j h)) ((hk b2 0 (by omega)).trans h2) h0

set_option maxRecDepth 100000 in
set_option maxHeartbeats 400000 in
theorem bsplitSeq0_any (a a2 : Option Addr) (n n2 c c2 : Nat) (w : World) :
    Calls Tryz.prog 129 #[.slice a n c, .slice a2 n2 c2, .int .i64 0] w fun e w' =>
      e = .returned (.func (.func 166) #[] #[.pointer (some ⟨w.heap.size + 1, 0, none⟩), .pointer (some ⟨w.heap.size, 0, none⟩), .pointer (some ⟨w.heap.size + 2, 0, none⟩)]) ∧
      w' = ((w.alloc (.cells #[.slice a n c] 22)).alloc (.cells #[.slice a2 n2 c2] 22)).alloc (.cells #[.int .i64 0] 3) := by
  go_enter Tryz.func129, Tryz.ntmps129
  go_wp2
  go_ret
  exact ⟨rfl, rfl⟩
theorem bsplitSeq_any (a a2 : Option Addr) (n n2 c c2 : Nat) (w : World) :
    Calls Tryz.prog 90 #[.slice a n c, .slice a2 n2 c2] w fun e w' =>
      e = .returned (.func (.func 166) #[] #[.pointer (some ⟨w.heap.size + 1, 0, none⟩), .pointer (some ⟨w.heap.size, 0, none⟩), .pointer (some ⟨w.heap.size + 2, 0, none⟩)]) ∧
      w' = ((w.alloc (.cells #[.slice a n c] 22)).alloc (.cells #[.slice a2 n2 c2] 22)).alloc (.cells #[.int .i64 0] 3) := by
  go_enter Tryz.func90, Tryz.ntmps90
  go_wp2_with fail
  refine (bsplitSeq0_any a a2 n n2 c c2 w).mono ?_
  rintro e w' ⟨rfl, rfl⟩
  go_wp2
  go_ret
  exact ⟨rfl, rfl⟩
end Go.Proofs.YtnhfaincdabdkaaGreatDoor
