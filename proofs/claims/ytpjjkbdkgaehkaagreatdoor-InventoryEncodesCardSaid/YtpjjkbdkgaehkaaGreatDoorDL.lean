/-
  Plain: the lines of an inventory; they are within the limits. How the variables that both Encodes read are kept.
-/
import Derived.Test.YtpjjkbdkgaehkaaGreatDoorDK
import Derived.Test.YtpjjkbdkgaehkaaGreatDoorDJ
import Derived.Test.YtpjjkbdkgaehkaaGreatDoorDG
import Derived.Test.YtpjjkbdkgaehkaaGreatDoorJN
namespace Go.Proofs.YtpjjkbdkgaehkaaGreatDoor
open Go.RowKit

namespace V
def bytesD (d : List Int) : Bs := d.map fun n => UInt8.ofNat n.toNat
def digText (d : List Int) : Bs := if d = zeroDig then [] else fmtB (bytesD d)
def invW : Bs := [105, 110, 118, 101, 110, 116, 111, 114, 121]
def compW : Bs := [99, 111, 109, 112, 111, 110, 101, 110, 116]
def headLine (d : List Int) (t : Int) : List Bs := [invW, fmtB (bytesD d), Lib.decDigits t.toNat]
def compLine (c : Comp) : List Bs := [compW, Lib.decDigits (c.par + 1).toNat, schName c.sch, c.name, c.ver, digText c.dig]
/-- the lines up to the k-th component -/
def invLines (d : List Int) (t : Int) (l : List Comp) (k : Nat) : List (List Bs) := headLine d t :: (l.take k).map compLine
theorem invLines_step {d : List Int} {t : Int} {l : List Comp} {k : Nat} (h : k < l.length) : invLines d t l (k + 1) = invLines d t l k ++ [compLine l[k]] := by
  unfold invLines
  rw [List.take_succ_eq_append_getElem h, List.map_append]
  rfl
theorem invLines_len (d : List Int) (t : Int) (l : List Comp) (k : Nat) : (invLines d t l k).length ≤ l.length + 1 := by
  unfold invLines
  rw [List.length_cons, List.length_map, List.length_take]
  omega
theorem bytesD_len (d : List Int) : (bytesD d).length = d.length := by simp [bytesD]
theorem fmtB_len (d : Bs) : (fmtB d).length = 7 + 2 * d.length := by
  unfold fmtB
  rw [List.length_append, hexB_len]
  rfl
theorem docSz_all {ls : List (List Bs)} {M : Nat} (h : ∀ x ∈ ls, lineSz x x.length ≤ M) : ∀ k, k ≤ ls.length → docSz ls k ≤ k * M
  | 0, _ => by simp [docSz]
  | k + 1, hk => by
    rw [docSz_step (by omega)]
    have h1 := docSz_all h k (by omega)
    have h2 := h _ (List.getElem_mem (show k < ls.length by omega))
    rw [Nat.succ_mul]
    omega
theorem lineSz_all {x : List Bs} {M : Nat} (h : ∀ u ∈ x, sizeW u + 1 ≤ M) : lineSz x x.length ≤ x.length * M := by
  unfold lineSz
  rw [List.take_length]
  induction x with
  | nil => simp
  | cons u x ih =>
    rw [List.map_cons, List.sum_cons, List.length_cons, Nat.succ_mul]
    have h1 := h u (List.mem_cons_self ..)
    have h2 := ih fun v hv => h v (List.mem_cons_of_mem _ hv)
    omega
end V
theorem V.digText_len {d : List Int} (hd : d.length = 32) : (V.digText d).length ≤ 71 := by
  unfold V.digText
  split
  · simp
  · rw [V.fmtB_len, V.bytesD_len, hd]; decide
theorem V.compLine_len {c : V.Comp} (hc : V.compOk c = true) (hp : c.par < 1000) (hd : c.dig.length = 32) : (∀ u ∈ V.compLine c, u.length ≤ 200) ∧ V.lineSz (V.compLine c) (V.compLine c).length ≤ 1101 := by
  have h1 := V.compOk_len hc
  have h2 := dec_len (n := (c.par + 1).toNat) (by omega)
  have h3 := V.schName_len c.sch
  have h4 := V.digText_len hd
  refine ⟨fun u hu => ?_, ?_⟩
  · unfold V.compLine at hu
    simp only [List.mem_cons, List.not_mem_nil, or_false] at hu
    rcases hu with rfl | rfl | rfl | rfl | rfl | rfl
    · decide
    · omega
    · omega
    · exact h1.1
    · omega
    · omega
  · have e : V.lineSz (V.compLine c) (V.compLine c).length = (V.sizeW V.compW + 1) + ((V.sizeW (Lib.decDigits (c.par + 1).toNat) + 1) + ((V.sizeW (V.schName c.sch) + 1) + ((V.sizeW c.name + 1) + ((V.sizeW c.ver + 1) + ((V.sizeW (V.digText c.dig) + 1) + 0))))) := rfl
    have s1 : V.sizeW V.compW = 9 := by decide
    have s2 := V.sizeW_le (Lib.decDigits (c.par + 1).toNat)
    have s3 := V.sizeW_le (V.schName c.sch)
    have s4 := V.sizeW_le c.name
    have s5 := V.sizeW_le c.ver
    have s6 := V.sizeW_le (V.digText c.dig)
    omega
theorem V.headLine_len {d : List Int} {t : Int} (hd : d.length = 32) (ht : t ≤ 1099511627776) : (∀ u ∈ V.headLine d t, u.length ≤ 200) ∧ V.lineSz (V.headLine d t) (V.headLine d t).length ≤ 1101 := by
  have h2 := dec_len (n := t.toNat) (by omega)
  have h4 : (V.fmtB (V.bytesD d)).length = 71 := by rw [V.fmtB_len, V.bytesD_len, hd]
  refine ⟨fun u hu => ?_, ?_⟩
  · unfold V.headLine at hu
    simp only [List.mem_cons, List.not_mem_nil, or_false] at hu
    rcases hu with rfl | rfl | rfl
    · decide
    · omega
    · omega
  · have e : V.lineSz (V.headLine d t) (V.headLine d t).length = (V.sizeW V.invW + 1) + ((V.sizeW (V.fmtB (V.bytesD d)) + 1) + ((V.sizeW (Lib.decDigits t.toNat) + 1) + 0)) := rfl
    have s1 : V.sizeW V.invW = 9 := by decide
    have s2 := V.sizeW_le (V.fmtB (V.bytesD d))
    have s3 := V.sizeW_le (Lib.decDigits t.toNat)
    omega
theorem V.inv_parts {d : List Int} {t : Int} {l : List V.Comp} (h : V.invOk d t l = true) : 0 ≤ t ∧ t ≤ 1099511627776 ∧ l.length ≤ 128 ∧ ∀ k (hk : k < l.length), V.compOk l[k] = true ∧ -1 ≤ l[k].par ∧ l[k].par < k := by
  unfold V.invOk V.headOk at h
  simp only [Bool.and_eq_true, decide_eq_true_eq] at h
  obtain ⟨⟨_, h1, h2, h3⟩, h4⟩ := h
  refine ⟨h1, h2, h3, fun k hk => ?_⟩
  have := V.compAt_iff.1 (V.compsTo_at h4 hk)
  exact ⟨this.1, this.2.1, this.2.2.1⟩
theorem V.inv_doc {d : List Int} {t : Int} {l : List V.Comp} (h : V.invOk d t l = true) (hd : d.length = 32) (hw : ∀ c ∈ l, c.dig.length = 32) : V.DocOk (V.invLines d t l l.length) := by
  obtain ⟨h1, h2, h3, h4⟩ := V.inv_parts h
  have hl := V.invLines_len d t l l.length
  have hm : ∀ x ∈ V.invLines d t l l.length, (0 < x.length ∧ x.length ≤ 6) ∧ (∀ u ∈ x, u.length ≤ 200) ∧ V.lineSz x x.length ≤ 1101 := by
    intro x hx
    unfold V.invLines at hx
    rw [List.take_length] at hx
    rcases List.mem_cons.1 hx with rfl | hx
    · exact ⟨by simp [V.headLine], V.headLine_len hd h2⟩
    · obtain ⟨c, hc, rfl⟩ := List.mem_map.1 hx
      obtain ⟨k, hk, rfl⟩ := List.mem_iff_getElem.1 hc
      have := h4 k hk
      exact ⟨by simp [V.compLine], V.compLine_len this.1 (by omega) (hw _ hc)⟩
  refine ⟨by omega, fun x hx => ?_, ?_⟩
  · have := hm x hx
    exact ⟨this.1.1, by omega, fun u hu => by have := this.2.1 u hu; omega⟩
  · have := V.docSz_all (ls := V.invLines d t l l.length) (M := 1101) (fun x hx => (hm x hx).2.2) _ (Nat.le_refl _)
    have h5 : (V.invLines d t l l.length).length * 1101 ≤ 129 * 1101 := Nat.mul_le_mul_right _ (by omega)
    omega
theorem bytesD_vals {d : List Int} (h : ∀ n ∈ d, (Lit.int .u8 n).wf = true) : bvals (V.bytesD d) = dcellsL d := by
  unfold bvals V.bytesD dcellsL
  rw [List.map_map]
  apply List.map_congr_left
  intro n hn
  have := h n hn
  simp [Lit.wf, IntKind.min, IntKind.max, IntKind.signed, IntKind.bits] at this
  simp
  omega
theorem TabIs_below {P : Program} {w w' : World} {name : String} {k : IntKind} {zs : List Int} (h : Lib.TabIs P w name k zs) (hb : Below w.heap.size w w') : Lib.TabIs P w' name k zs := by
  unfold Lib.TabIs World.var? at *
  cases hg : P.globalNamed name with
  | none => rw [hg] at h; cases h
  | some g =>
    rw [hg] at h
    simp only [Option.bind_some] at h ⊢
    cases hq : w.heap[g]? with
    | none => rw [hq] at h; cases h
    | some o => rw [hb.block g (Array.getElem?_eq_some_iff.1 hq).1]; exact h
/-- the table of powers that numbers' texts are made by -/
def PowOk (w : World) : Prop := Lib.TabIs Tryz.prog w "internal/strconv.uint64pow10" .u64 Lib.pow10Tab
theorem PowOk.below {w w' : World} (h : PowOk w) (hb : Below w.heap.size w w') : PowOk w' := TabIs_below h hb
end Go.Proofs.YtpjjkbdkgaehkaaGreatDoor
