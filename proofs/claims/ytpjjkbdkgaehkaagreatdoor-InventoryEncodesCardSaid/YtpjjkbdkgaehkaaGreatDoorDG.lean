/-
  Walks: Number, of both.
-/
import Derived.Test.YtpjjkbdkgaehkaaGreatDoorDB
import Derived.Lib.ItoaNum
import Derived.Sort.Grow
namespace Go.Proofs.YtpjjkbdkgaehkaaGreatDoor
open Go.RowKit

theorem grow_below (w : World) (k : Nat) (os : Array Obj) : Below w.heap.size w (Sort.grow (w.drewN k) os) :=
  ⟨rfl, rfl, rfl, by simp, fun q hq => by rw [Sort.heap_grow_old _ _ (by simpa using hq)]; rfl⟩
theorem nDigits_le : ∀ (k u : Nat), u < 10 ^ k → 0 < k → Lib.nDigits u ≤ k
  | 0, _, _, h => absurd h (by omega)
  | 1, u, h, _ => by rw [Lib.nDigits_small (by simpa using h)]; exact Nat.le_refl _
  | k + 2, u, h, _ => by
    rw [Lib.nDigits]
    split
    · omega
    · have := nDigits_le (k + 1) (u / 10) (by rw [Nat.pow_succ] at h; omega) (by omega)
      omega
/-- a number within the limits of documents -/
theorem dec_len {n : Nat} (h : n ≤ 2199023255552) : (Lib.decDigits n).length ≤ 13 := by
  rw [Lib.decDigits_length]
  exact nDigits_le 13 n (by omega) (by omega)
/-- the digits of a number above those that are written -/
def decHead (q : Nat) : V.Bs := if q = 0 then [] else Lib.decDigits q
theorem decHead_step {q : Nat} (h : 0 < q) : decHead q = decHead (q / 10) ++ [UInt8.ofNat (48 + q % 10)] := by
  unfold decHead
  rw [if_neg (by omega), Lib.decDigits]
  split
  · rename_i h10
    rw [if_pos (by omega), Nat.mod_eq_of_lt h10]
    rfl
  · rw [if_neg (by omega)]

theorem docNumber_any (n : Nat) (w : World) (hn : n ≤ 2199023255552) (htab : Lib.TabIs Tryz.prog w "internal/strconv.uint64pow10" .u64 Lib.pow10Tab) :
    Calls Tryz.prog 27 #[.int .i64 n] w fun e w' => e = .returned (.string ⟨(Lib.decDigits n).toArray⟩) ∧ Below w.heap.size w w' := by
  have HT := Lib.hid htab
  clear htab
  go_enter Tryz.func27, Tryz.ntmps27
  go_wp2_with fail
  refine (Tryz.strconv_FormatInt_10 n (by omega) (by omega) w HT.out).mono ?_
  rintro e w' ⟨rfl, k, os, rfl⟩
  have HI : Hid (Lib.itoa n = Lib.decDigits n) := Lib.hid (by unfold Lib.itoa; rw [if_neg (by omega)]; simp)
  rw [HI.out]
  have HB := Lib.hid (grow_below w k os)
  generalize Sort.grow (w.drewN k) os = w1 at *
  go_wp2
  go_ret
  exact ⟨rfl, HB.out⟩

theorem conv_byte (W : World) (n : Int) : (convert 30 9 (.slice (some ⟨W.heap.size, 0, none⟩) 1 1)).run Tryz.prog (W.alloc (.cells #[.int .u8 n] 5)) =
    .ok (.string ⟨#[UInt8.ofNat n.toNat]⟩) (W.alloc (.cells #[.int .u8 n] 5)) := by
  have h := run_convert_bytes_arg (P := Tryz.prog) (W.alloc (.cells #[.int .u8 n] 5)) 30 5 Tryz.underlying30 Tryz.underlying5 W.heap.size 0 1 1 [n] rfl (fun i hi => by
    obtain rfl : i = 0 := by omega
    rw [World.cell?_alloc_new]; rfl) 9 Tryz.underlying9
  exact h

set_option maxRecDepth 100000 in
theorem rdocNumber_any (n : Nat) (w : World) (hn : n ≤ 2199023255552) :
    Calls Tryz.prog 31 #[.int .i64 n] w fun e w' => e = .returned (.string ⟨(Lib.decDigits n).toArray⟩) ∧ Below w.heap.size w w' := by
  by_cases h0 : n = 0
  · subst h0
    have HD : Hid (Lib.decDigits 0 = [48]) := Lib.hid (by rw [Lib.decDigits_one (by omega)]; rfl)
    rw [HD.out]
    go_enter Tryz.func31, Tryz.ntmps31
    go_wp2
    go_ret
    exact ⟨rfl, Below.refl _ _⟩
  · have HD : Hid (Lib.decDigits n = decHead n) := Lib.hid (by unfold decHead; rw [if_neg h0])
    have HL : Hid ((Lib.decDigits n).length ≤ 13) := Lib.hid (dec_len hn)
    have hb0 : ((n : Int) == 0) = false := by rw [beq_eq_false_iff_ne]; omega
    have hw : IntKind.u64.wrap (n : Int) = (n : Int) := by unfold IntKind.wrap; simp [IntKind.signed, IntKind.bits]; omega
    have hl0 : ¬ (n : Int) < 0 := by omega
    go_enter Tryz.func31, Tryz.ntmps31
    go_wp2
    go_loopw [4, 5] (fun uv sv wx => ∃ (q : Nat) (S : V.Bs), q ≤ n ∧ uv = .int .u64 q ∧ sv = .string ⟨S.toArray⟩ ∧ Lib.decDigits n = decHead q ++ S ∧ Below w.heap.size w wx) (fun uv _ _ => (intOf uv).toNat)
    case atStart => exact ⟨n, [], Nat.le_refl _, rfl, rfl, by rw [List.append_nil]; exact HD.out, Below.refl _ _⟩
    case round =>
      obtain ⟨q, S, hq, rfl, rfl, heq, hb⟩ := hrel
      have HE := Lib.hid heq
      have HB := Lib.hid hb
      have hsl : S.length ≤ 13 := by
        have := HL.out
        rw [heq, List.length_append] at this
        omega
      clear heq hb
      by_cases hq0 : q = 0
      · subst hq0
        have HF : Hid (Lib.decDigits n = S) := Lib.hid (by rw [HE.out]; rfl)
        go_wp2
        go_ret
        exact ⟨congrArg (fun x => Ending.returned (.string x)) (bs_ext (by rw [HF.out]; simp [ByteArray.data_append])), HB.out⟩
      · have hq1 : (0 : Int) < (q : Int) := by omega
        have hrem : (q : Int).tmod 10 = ((q % 10 : Nat) : Int) := by rw [Int.tmod_eq_emod_of_nonneg (by omega)]; rfl
        have hquo : (q : Int).tdiv 10 = ((q / 10 : Nat) : Int) := by rw [Int.tdiv_eq_ediv_of_nonneg (by omega)]; rfl
        have hr10 : q % 10 < 10 := Nat.mod_lt _ (by omega)
        have HST : Hid (decHead q = decHead (q / 10) ++ [UInt8.ofNat (48 + q % 10)]) := Lib.hid (decHead_step (by omega))
        have hdle : q / 10 ≤ n := by omega
        have hdlt : q / 10 < q := by omega
        obtain ⟨r, hr⟩ : ∃ r, r = q % 10 := ⟨_, rfl⟩
        obtain ⟨p, hp⟩ : ∃ p, p = q / 10 := ⟨_, rfl⟩
        rw [← hr] at hrem HST hr10
        rw [← hp] at hquo HST hdle hdlt
        clear hr hp
        have hadd : IntKind.u64.wrap (48 + (r : Int)) = 48 + (r : Int) := by unfold IntKind.wrap; simp [IntKind.signed, IntKind.bits]; omega
        have hcv : IntKind.u8.wrap (48 + (r : Int)) = 48 + (r : Int) := by unfold IntKind.wrap; simp [IntKind.signed, IntKind.bits]; omega
        have hwr : IntKind.u64.wrap (r : Int) = (r : Int) := by unfold IntKind.wrap; simp [IntKind.signed, IntKind.bits]; omega
        have hwp : IntKind.u64.wrap (p : Int) = (p : Int) := by unfold IntKind.wrap; simp [IntKind.signed, IntKind.bits]; omega
        have hconv := conv_byte wr (48 + (r : Int))
        go_wp2
        go_roundw
        case rel => exact ⟨p, UInt8.ofNat (48 + r) :: S, hdle, rfl, congrArg Value.string (bs_ext (by simp [ByteArray.data_append, UInt8.ofNat_add])), by rw [HE.out, HST.out]; simp, HB.out.trans (((Below.refl _ wr).alloc (Nat.le_refl _) _).mono HB.out.size)⟩
        case measure => simp [intOf]; omega
end Go.Proofs.YtpjjkbdkgaehkaaGreatDoor
