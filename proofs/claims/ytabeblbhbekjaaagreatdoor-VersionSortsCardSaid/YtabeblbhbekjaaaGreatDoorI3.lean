/-
  Walks: the library's stable sort of few elements; Sort; Latest.
-/
import Derived.Test.YtabeblbhbekjaaaGreatDoorI2
import Derived.OwnWalk
import Derived.Laws.OwnMore
namespace Go.Proofs.YtabeblbhbekjaaaGreatDoor
open Go.RowKit

set_option maxRecDepth 100000 in
set_option maxHeartbeats 1600000 in
theorem stable_any (n : Int) (T : TypeId) (L : Nat → V.Bs) (m b cap : Nat) (w : World) (hm : MaxOk w) (hn : V.scheme n = true) (h20 : m < 20) (hv : ∀ k, k < m → V.valid n (L k) = true) (hrow : Row w b m L) (hlt : b < w.heap.size) (hT : Cmp n T) :
    Calls Tryz.prog 39 #[.slice (some ⟨b, 0, none⟩) m cap, .int .i64 m, cmpVal T] w (InsPost n L m b w) := by
  obtain ⟨K, hmeth, henter, hK⟩ := hT
  have HI := Lib.hid (insertion_any n T K L m b cap w hm hn (by omega) hv hrow hlt hmeth henter hK)
  clear hm hn hv hrow hmeth henter hK
  unfold cmpVal at HI ⊢
  go_enter Tryz.func39, Tryz.ntmps39
  go_wp2
  go_loop [7, 8] (fun a b => a = .int .i64 0 ∧ b = .int .i64 20) (fun _ _ => 0)
  case atStart => exact ⟨rfl, rfl⟩
  case round =>
    obtain ⟨rfl, rfl⟩ := hrel
    have hno : ¬ ((20 : Int) ≤ (m : Int)) := by omega
    go_wp2_with fail
    refine HI.out.mono ?_
    rintro e w1 ⟨rfl, xs, h1, h2, h3, h4⟩
    have H1 := Lib.hid h1
    have H2 := Lib.hid h2
    have H3 := Lib.hid h3
    have H4 := Lib.hid h4
    clear h1 h2 h3 h4
    go_wp2
    go_loop [6] (fun a => a = .int .i64 20) (fun _ => 0)
    case atStart => exact rfl
    case round =>
      subst hrel
      go_wp2
      go_end0
      exact ⟨rfl, xs, H1.out, H2.out, H3.out, H4.out⟩

set_option maxRecDepth 100000 in
set_option maxHeartbeats 800000 in
theorem sortStable_any (n : Int) (T : TypeId) (L : Nat → V.Bs) (m b cap : Nat) (w : World) (hm : MaxOk w) (hn : V.scheme n = true) (h20 : m < 20) (hv : ∀ k, k < m → V.valid n (L k) = true) (hrow : Row w b m L) (hlt : b < w.heap.size) (hT : Cmp n T) :
    Calls Tryz.prog 29 #[.slice (some ⟨b, 0, none⟩) m cap, cmpVal T] w (InsPost n L m b w) := by
  have HI := Lib.hid (stable_any n T L m b cap w hm hn h20 hv hrow hlt hT)
  clear hm hn hv hrow hT
  unfold cmpVal at HI ⊢
  go_enter Tryz.func29, Tryz.ntmps29
  go_wp2_with fail
  refine HI.out.mono ?_
  rintro e w1 ⟨rfl, xs, h1, h2, h3, h4⟩
  have H1 := Lib.hid h1
  have H2 := Lib.hid h2
  have H3 := Lib.hid h3
  have H4 := Lib.hid h4
  clear h1 h2 h3 h4
  go_wp2
  go_end0
  exact ⟨rfl, xs, H1.out, H2.out, H3.out, H4.out⟩
/-- the strings of a row, as a list -/
def lst (xs : Nat → V.Bs) (m : Nat) : List V.Bs := (List.range m).map xs

theorem lst_len (xs : Nat → V.Bs) (m : Nat) : (lst xs m).length = m := by simp [lst]
theorem lst_get (xs : Nat → V.Bs) (m j : Nat) (h : j < m) : (lst xs m).getD j [] = xs j := by
  simp [lst, List.getD, List.getElem?_range h]

theorem Row.strs {w : World} {b m cap : Nat} {xs : Nat → V.Bs} (h : Row w b m xs) (hlt : b < w.heap.size) : Strs w (.slice (some ⟨b, 0, none⟩) m cap) (lst xs m) := by
  refine ⟨_, cap, by rw [lst_len], fun j hj => ⟨b, 0, rfl, hlt, ?_⟩⟩
  rw [lst_len] at hj
  rw [Nat.zero_add, h.cell j hj]
  congr 3
  have := lst_get xs m j hj
  rw [getD_of (by rw [lst_len]; exact hj)] at this
  rw [this]

theorem mem_lst {xs : Nat → V.Bs} {m : Nat} {x : V.Bs} : x ∈ lst xs m ↔ ∃ j, j < m ∧ xs j = x := by simp [lst]

/-- what is sorted holds what was there -/
theorem Alike.mem {L xs : Nat → V.Bs} {m : Nat} (h : Alike L xs m) (x : V.Bs) : x ∈ lst xs m ↔ x ∈ lst L m := by
  rw [mem_lst, mem_lst]
  constructor
  · rintro ⟨j, hj, e⟩
    obtain ⟨k, hk, e2⟩ := h.old j hj
    exact ⟨k, hk, by rw [← e2]; exact e⟩
  · rintro ⟨j, hj, e⟩
    obtain ⟨k, hk, e2⟩ := h.all j hj
    exact ⟨k, hk, by rw [e2]; exact e⟩

theorem lst_of (L : List V.Bs) : lst (fun j => L.getD j []) L.length = L := by
  apply List.ext_getElem
  · rw [lst_len]
  · intro j h1 h2
    have := lst_get (fun j => L.getD j []) L.length j h2
    rw [getD_of h1] at this
    rw [this, getD_of h2]

theorem ownsRow_row {w : World} {base e n : Nat} {v : Value} {xs : List Value} {L : List V.Bs} (h : w.ownsRow base e 1 v n xs) (hn : n = L.length) (h0 : 0 < n) (hx : xs = L.map fun x => Value.string ⟨x.toArray⟩) :
    ∃ b cap, v = .slice (some ⟨b, 0, none⟩) n cap ∧ n ≤ cap ∧ cap ≤ maxLen ∧ base ≤ b ∧ b < w.heap.size ∧ Row w b n fun j => L.getD j [] := by
  rcases h.2 with ⟨_, e⟩ | ⟨g, cap, cur, rfl, hb, hg, hnc, hm, hsz, htk⟩
  · rw [e] at h; omega
  · have hlt := (Array.getElem?_eq_some_iff.1 hg).1
    refine ⟨g, cap, rfl, hnc, hm, hb, hlt, fun j hj => ?_, fun j _ => ?_⟩
    · unfold World.cell?
      rw [hg]
      have hc : cur[j]? = some (.string ⟨(L.getD j []).toArray⟩) := by
        have e1 : (cur.toList.take (n * 1))[j]? = xs[j]? := by rw [htk]
        rw [List.getElem?_take_of_lt (show j < n * 1 by omega), hx, List.getElem?_map, List.getElem?_eq_getElem (show j < L.length by omega)] at e1
        rw [getD_of (by omega)]
        simpa using e1
      simpa using hc
    · unfold World.frozen?
      rw [hg]
      simp

def SortPost (n : Int) (L : List V.Bs) (w : World) (e : Ending) (w' : World) : Prop :=
  ∃ (b cap : Nat) (xs : Nat → V.Bs), e = .returned (.tuple #[.slice (some ⟨b, 0, none⟩) L.length cap, .int .i64 0]) ∧ Alike (fun j => L.getD j []) xs L.length ∧ SortedTo n xs L.length ∧ Row w' b L.length xs ∧ b < w'.heap.size ∧ Below w.heap.size w w'

set_option maxRecDepth 100000 in
set_option maxHeartbeats 1600000 in
theorem sort_any (n : Int) (v : Value) (L : List V.Bs) (w : World) (hm : MaxOk w) (hn : V.scheme n = true) (hv : Strs w v L) (h0 : 0 < L.length) (h20 : L.length < 20) (hval : ∀ x ∈ L, V.valid n x = true) :
    Calls Tryz.prog 14 #[.int .i64 n, v] w (SortPost n L w) := by
  have hall : L.all (V.valid n) = true := by rw [List.all_eq_true]; exact hval
  have hck := check_any n v L w hm hv (by unfold maxLen; omega) (fun x hx => by have := V.valid_short (hval x hx); unfold maxLen; omega)
  obtain ⟨b, off, cap, rfl, hb, hcells⟩ := hv.head h0
  have HCK := Lib.hid hck
  have HM := Lib.hid hm
  have HN := Lib.hid hn
  have HV := Lib.hid hval
  have HC := Lib.hid hcells
  have HA := Lib.hid hall
  clear hck hm hn hval hcells hall hv
  go_enter Tryz.func14, Tryz.ntmps14
  go_wp2_with fail
  refine HCK.out.mono ?_
  rintro e w1 ⟨hb1, hpost⟩
  rw [if_neg (by rw [HN.out]; decide), if_neg (by rw [HA.out]; decide)] at hpost
  obtain ⟨T, hT, rfl⟩ := hpost
  have HT := Lib.hid hT
  have HB1 := Lib.hid hb1
  have HM1 := Lib.hid (HM.out.below hb1)
  clear hT hb1
  unfold cmpVal
  go_wp2_with fail
  refine (Tryz.slices_Clone_string b off L.length cap (L.map fun x => ⟨x.toArray⟩) _ (by simp) (by omega) (fun j hj => ?_)).mono ?_
  · rw [HB1.out.cell (p := ⟨b, off + j, none⟩) hb, HC.out j (by simpa using hj)]
    congr 2
    have hjl : j < L.length := by simpa using hj
    rw [List.getD_eq_getElem?_getD, List.getD_eq_getElem?_getD, List.getElem?_map, List.getElem?_eq_getElem hjl]; rfl
  rintro e w2 ⟨v', rfl, hown, _, hb2⟩
  obtain ⟨b', cap', rfl, _, _, hbase, hlt2, hrow⟩ := ownsRow_row (L := L) hown rfl h0 (by rw [List.take_of_length_le (by simp), List.map_map]; rfl)
  have HB2 := Lib.hid (HB1.out.trans (hb2.mono HB1.out.size))
  have HROW := Lib.hid hrow
  have HM2 := Lib.hid (HM1.out.below hb2)
  have hge : w.heap.size ≤ b' := Nat.le_trans HB1.out.size hbase
  clear hown hb2 hrow
  go_wp2_with fail
  refine (sortStable_any n T (fun j => L.getD j []) L.length b' cap' _ HM2.out HN.out h20 (fun k hk => HV.out _ (by rw [getD_of hk]; exact List.getElem_mem _)) HROW.out hlt2 HT.out).mono ?_
  rintro e w3 ⟨rfl, xs, h1, h2, h3, h4⟩
  have H1 := Lib.hid h1
  have H2 := Lib.hid h2
  have H3 := Lib.hid h3
  have HB3 := Lib.hid (HB2.out.trans (grown_below h4 hge (HB2.out.size)))
  have hlt3 : b' < w3.heap.size := Nat.lt_of_lt_of_le hlt2 h4.size
  clear h1 h2 h3 h4
  go_wp2
  go_ret2
  exact ⟨b', cap', xs, rfl, H1.out, H2.out, H3.out, hlt3, HB3.out⟩
end Go.Proofs.YtabeblbhbekjaaaGreatDoor
