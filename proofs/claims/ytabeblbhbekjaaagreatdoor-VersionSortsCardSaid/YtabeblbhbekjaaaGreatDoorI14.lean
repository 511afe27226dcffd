/-
  Plain: the stable order of a list, made by putting in one after the other, is the one that the library's sort leaves.
  Walks: Sort of at most 30 versions, with its exact order.
  The reference's Sort: facts and steps.
  Walk: the reference's Sort.
-/
import Derived.Test.YtabeblbhbekjaaaGreatDoorI11
import Derived.Test.YtabeblbhbekjaaaGreatDoorI3
import Derived.Test.YtabeblbhbekjaaaGreatDoorR10
import Derived.Test.YtabeblbhbekjaaaGreatDoorR6
import Derived.Laws.AppendOwn
import Derived.Laws.AppendOwnNone
import Derived.Deep.RegionLaw
import Derived.BigRegion
namespace Go.Proofs.YtabeblbhbekjaaaGreatDoor
open Go.RowKit

/-- put in behind all that are not greater -/
def insAt (n : Int) (x : V.Bs) : List V.Bs → List V.Bs
  | [] => [x]
  | y :: r => if V.cmpV n y x ≤ 0 then y :: insAt n x r else x :: y :: r

def sortL (n : Int) (L : List V.Bs) : List V.Bs := L.foldl (fun out x => insAt n x out) []

theorem sortL_snoc (n : Int) (L : List V.Bs) (x : V.Bs) : sortL n (L ++ [x]) = insAt n x (sortL n L) := by simp [sortL]

theorem insAt_perm (n : Int) (x : V.Bs) : ∀ l : List V.Bs, (insAt n x l).Perm (x :: l)
  | [] => List.Perm.refl _
  | y :: r => by
    unfold insAt
    split
    · exact ((insAt_perm n x r).cons y).trans (List.Perm.swap x y r)
    · exact List.Perm.refl _

theorem sortL_perm_go (n : Int) : ∀ (L out : List V.Bs), (L.foldl (fun out x => insAt n x out) out).Perm (out ++ L)
  | [], out => by simp
  | x :: L, out => by
    refine (sortL_perm_go n L (insAt n x out)).trans ?_
    refine (List.Perm.append_right L (insAt_perm n x out)).trans ?_
    exact List.perm_middle.symm

theorem sortL_perm (n : Int) (L : List V.Bs) : (sortL n L).Perm L := sortL_perm_go n L []

theorem sortL_len (n : Int) (L : List V.Bs) : (sortL n L).length = L.length := (sortL_perm n L).length_eq
theorem sortL_valid {n : Int} {L : List V.Bs} (h : ∀ x ∈ L, V.valid n x = true) : ∀ x ∈ sortL n L, V.valid n x = true := fun x hx => h x ((sortL_perm n L).mem_iff.1 hx)

theorem insAt_at (n : Int) (x : V.Bs) : ∀ (l : List V.Bs) (k : Nat), k ≤ l.length → (∀ j, j < k → V.cmpV n (l.getD j []) x ≤ 0) → (k < l.length → ¬ V.cmpV n (l.getD k []) x ≤ 0) → insAt n x l = l.take k ++ x :: l.drop k
  | [], k, hk, _, _ => by simp at hk; subst hk; rfl
  | y :: r, 0, _, _, h2 => by
    have := h2 (by simp)
    unfold insAt
    rw [if_neg (by simpa using this)]
    rfl
  | y :: r, k + 1, hk, h1, h2 => by
    unfold insAt
    rw [if_pos (by simpa using h1 0 (by omega)), insAt_at n x r k (by simpa using hk) (fun j hj => by simpa using h1 (j + 1) (by omega)) (fun h => by simpa using h2 (by simpa using h))]
    rfl

/-- the same on indices -/
def insIx (n : Int) (LL : Nat → V.Bs) (i : Nat) : List Nat → List Nat
  | [] => [i]
  | y :: r => if V.cmpV n (LL y) (LL i) ≤ 0 then y :: insIx n LL i r else i :: y :: r

theorem insIx_map (n : Int) (LL : Nat → V.Bs) (i : Nat) : ∀ J : List Nat, (insIx n LL i J).map LL = insAt n (LL i) (J.map LL)
  | [] => rfl
  | y :: r => by
    unfold insIx
    simp only [List.map_cons]
    unfold insAt
    by_cases h : V.cmpV n (LL y) (LL i) ≤ 0
    · rw [if_pos h, if_pos h, List.map_cons, insIx_map n LL i r]
    · rw [if_neg h, if_neg h]; rfl

theorem insIx_perm (n : Int) (LL : Nat → V.Bs) (i : Nat) : ∀ J : List Nat, (insIx n LL i J).Perm (i :: J)
  | [] => List.Perm.refl _
  | y :: r => by
    unfold insIx
    split
    · exact ((insIx_perm n LL i r).cons y).trans (List.Perm.swap i y r)
    · exact List.Perm.refl _

theorem insIx_asc {n : Int} {LL : Nat → V.Bs} (hn : V.scheme n = true) (hv : ∀ i, V.valid n (LL i) = true) (i : Nat) : ∀ J : List Nat, (∀ y ∈ J, y < i) → J.Pairwise (Bef n LL) → (insIx n LL i J).Pairwise (Bef n LL)
  | [], _, _ => by simp [insIx]
  | y :: r, hlt, hp => by
    rw [List.pairwise_cons] at hp
    unfold insIx
    have hy := hlt y (by simp)
    split
    · rename_i hle
      refine List.pairwise_cons.2 ⟨fun z hz => ?_, insIx_asc hn hv i r (fun z hz => hlt z (by simp [hz])) hp.2⟩
      rcases List.mem_cons.1 ((insIx_perm n LL i r).mem_iff.1 hz) with h | h
      · subst h
        unfold Bef
        omega
      · exact hp.1 z h
    · rename_i hgt
      have hb : Bef n LL i y := (Bef.right hy).1 (by have := (V.total_law hn (hv y) (hv i) (hv i)).1; omega)
      refine List.pairwise_cons.2 ⟨fun z hz => ?_, List.pairwise_cons.2 hp⟩
      rcases List.mem_cons.1 hz with h | h
      · subst h; exact hb
      · exact Bef.trans hn hv _ _ _ hb (hp.1 z h)

def sortIx (n : Int) (LL : Nat → V.Bs) : Nat → List Nat
  | 0 => []
  | m + 1 => insIx n LL m (sortIx n LL m)

theorem sortIx_perm (n : Int) (LL : Nat → V.Bs) : ∀ m, (sortIx n LL m).Perm (List.range m)
  | 0 => List.Perm.refl _
  | m + 1 => by
    unfold sortIx
    rw [List.range_succ]
    exact ((insIx_perm n LL m _).trans ((sortIx_perm n LL m).cons m)).trans (List.perm_append_singleton m _).symm

theorem sortIx_asc {n : Int} {LL : Nat → V.Bs} (hn : V.scheme n = true) (hv : ∀ i, V.valid n (LL i) = true) : ∀ m, (sortIx n LL m).Pairwise (Bef n LL)
  | 0 => List.Pairwise.nil
  | m + 1 => insIx_asc hn hv m _ (fun y hy => List.mem_range.1 ((sortIx_perm n LL m).mem_iff.1 hy)) (sortIx_asc hn hv m)

theorem sortIx_map (n : Int) (LL : Nat → V.Bs) : ∀ m, (sortIx n LL m).map LL = sortL n ((List.range m).map LL)
  | 0 => rfl
  | m + 1 => by
    unfold sortIx
    rw [insIx_map, sortIx_map n LL m, List.range_succ, List.map_append, List.map_singleton, sortL_snoc]

theorem Stable.same {n : Int} {LL : Nat → V.Bs} {m : Nat} {h : V.Ix} (hs : Stable n LL m h) (hn : V.scheme n = true) (hv : ∀ i, V.valid n (LL i) = true) : V.seg h 0 m = sortIx n LL m := by
  refine List.Perm.eq_of_pairwise (le := Bef n LL) (fun a b _ _ h1 h2 => ?_) hs.asc (sortIx_asc hn hv m) (hs.perm.trans (sortIx_perm n LL m).symm)
  have := (V.total_law hn (hv a) (hv b) (hv b)).1
  unfold Bef at h1 h2
  omega

theorem Stable.sorted {n : Int} {L : List V.Bs} {LL : Nat → V.Bs} {h : V.Ix} (hs : Stable n LL L.length h) (hn : V.scheme n = true) (hv : ∀ i, V.valid n (LL i) = true) (hL : (List.range L.length).map LL = L) :
    (List.range L.length).map (fun p => LL (h p)) = sortL n L := by
  have e := congrArg (List.map LL) (hs.same hn hv)
  rw [sortIx_map, hL] at e
  rw [← e]
  unfold V.seg
  rw [Nat.sub_zero, List.map_map]
  apply List.map_congr_left
  intro p _
  simp
end Go.Proofs.YtabeblbhbekjaaaGreatDoor
namespace Go.Proofs.YtabeblbhbekjaaaGreatDoor
open Go.RowKit

set_option maxRecDepth 100000 in
set_option maxHeartbeats 800000 in
theorem sortStableX_any (n : Int) (T : TypeId) (LL : Nat → V.Bs) (b m cap : Nat) (w w0 : World) (hn : V.scheme n = true) (hv : ∀ i, V.valid n (LL i) = true) (h40 : m < 40) (hT : Cmp n T) (hat : At LL b m w0 (fun p => p) w) :
    Calls Tryz.prog 29 #[.slice (some ⟨b, 0, none⟩) m cap, cmpVal T] w (StPost n LL b m w0) := by
  have HI := Lib.hid (stableX_any n T LL b m cap w w0 hn hv h40 hT hat)
  clear hn hv hT hat
  unfold cmpVal at HI ⊢
  go_enter Tryz.func29, Tryz.ntmps29
  go_wp2_with fail
  refine HI.out.mono ?_
  rintro e w1 ⟨rfl, h, h1, h2⟩
  have H1 := Lib.hid h1
  have H2 := Lib.hid h2
  clear h1 h2
  go_wp2
  go_end0
  exact ⟨rfl, h, H1.out, H2.out⟩

/-- nothing to sort, at whatever address -/
theorem sortStable0_any (T : TypeId) (a : Option Addr) (cap : Nat) (w : World) :
    Calls Tryz.prog 29 #[.slice a 0 cap, cmpVal T] w fun e w' => e = .returned (.tuple #[]) ∧ Below w.heap.size w w' := by
  have HI : Hid (Calls Tryz.prog 39 #[.slice a 0 cap, .int .i64 0, cmpVal T] w fun e w' => e = .returned (.tuple #[]) ∧ Below w.heap.size w w') := Lib.hid (by
    have HI2 : Hid (∀ W, Calls Tryz.prog 49 #[.slice a 0 cap, .int .i64 0, .int .i64 0, cmpVal T] W fun e w' => e = .returned (.tuple #[]) ∧ Below W.heap.size W w') := Lib.hid (fun W => by
      unfold cmpVal
      go_enter Tryz.func49, Tryz.ntmps49
      go_wp2
      go_loop [8] (fun i => i = .int .i64 1) (fun _ => 0)
      case atStart => exact rfl
      case round =>
        subst hrel
        go_wp2
        go_end0
        exact ⟨rfl, Below.refl _ _⟩)
    unfold cmpVal at HI2 ⊢
    go_enter Tryz.func39, Tryz.ntmps39
    go_wp2
    go_loop [7, 8] (fun a b => a = .int .i64 0 ∧ b = .int .i64 20) (fun _ _ => 0)
    case atStart => exact ⟨rfl, rfl⟩
    case round =>
      obtain ⟨rfl, rfl⟩ := hrel
      go_wp2_with fail
      refine (HI2.out _).mono ?_
      rintro e w1 ⟨rfl, hb⟩
      have HB := Lib.hid hb
      clear hb
      go_wp2
      go_loop [6] (fun a => a = .int .i64 20) (fun _ => 0)
      case atStart => exact rfl
      case round =>
        subst hrel
        go_wp2
        go_end0
        exact ⟨rfl, HB.out⟩)
  unfold cmpVal at HI ⊢
  go_enter Tryz.func29, Tryz.ntmps29
  go_wp2_with fail
  refine HI.out.mono ?_
  rintro e w1 ⟨rfl, hb⟩
  have HB := Lib.hid hb
  clear hb
  go_wp2
  go_end0
  exact ⟨rfl, HB.out⟩

/-- what Sort hands out, of the program and of the reference -/
def SortX (n : Int) (L : List V.Bs) (w : World) (e : Ending) (w' : World) : Prop :=
  Below w.heap.size w w' ∧
  if V.scheme n = false then e = .returned (.tuple #[.slice none 0 0, .int .i64 14])
  else if L.all (V.valid n) = false then e = .returned (.tuple #[.slice none 0 0, .int .i64 1])
  else ∃ v, e = .returned (.tuple #[v, .int .i64 0]) ∧ Strs w' v (sortL n L)

theorem Strs.len0 {w w' : World} {v : Value} {l : List V.Bs} (h : Strs w v l) (h0 : l.length = 0) : ∃ a cap, v = .slice a 0 cap ∧ l = [] ∧ Strs w' v [] := by
  have e := List.eq_nil_of_length_eq_zero h0
  subst e
  obtain ⟨a, cap, e, _⟩ := h
  exact ⟨a, cap, e, rfl, a, cap, e, fun j h => by simp at h⟩

theorem ownsRow_zero {w : World} {base e : Nat} {v : Value} (h : w.ownsRow base e 1 v 0 []) : ∃ a cap, v = .slice a 0 cap := by
  rcases h.2 with ⟨e, _⟩ | ⟨g, cap, cur, rfl, _⟩
  · exact ⟨none, 0, e⟩
  · exact ⟨_, _, rfl⟩

def LLof (L : List V.Bs) (i : Nat) : V.Bs := L.getD i (L.getD 0 [])
theorem LLof_get {L : List V.Bs} {i : Nat} (h : i < L.length) : LLof L i = L.getD i [] := by
  unfold LLof
  simp [List.getD_eq_getElem?_getD, List.getElem?_eq_getElem h]
theorem LLof_valid {n : Int} {L : List V.Bs} (h0 : 0 < L.length) (hv : ∀ x ∈ L, V.valid n x = true) (i : Nat) : V.valid n (LLof L i) = true := by
  have h1 : V.valid n (L.getD 0 []) = true := hv _ (by rw [getD_of h0]; exact List.getElem_mem _)
  by_cases h : i < L.length
  · rw [LLof_get h]; exact hv _ (by rw [getD_of h]; exact List.getElem_mem _)
  · unfold LLof
    rw [List.getD_eq_getElem?_getD, List.getElem?_eq_none (by omega)]
    exact h1
theorem LLof_map (L : List V.Bs) : (List.range L.length).map (LLof L) = L := by
  have := lst_of L
  unfold lst at this
  conv => rhs; rw [← this]
  apply List.map_congr_left
  intro i hi
  exact LLof_get (List.mem_range.1 hi)

set_option maxRecDepth 100000 in
set_option maxHeartbeats 3200000 in
theorem sortX_any (n : Int) (v : Value) (L : List V.Bs) (w : World) (hm : MaxOk w) (hv : Strs w v L) (h30 : L.length < 40) (hx : ∀ x ∈ L, x.length ≤ maxLen) :
    Calls Tryz.prog 14 #[.int .i64 n, v] w (SortX n L w) := by
  have hck := check_any n v L w hm hv (by unfold maxLen; omega) hx
  have HCK := Lib.hid hck
  have HM := Lib.hid hm
  have HV := Lib.hid hv
  clear hck hm hv hx
  go_enter Tryz.func14, Tryz.ntmps14
  go_wp2_with fail
  refine HCK.out.mono ?_
  rintro e w1 ⟨hb1, hpost⟩
  have HB1 := Lib.hid hb1
  have HM1 := Lib.hid (HM.out.below hb1)
  have HV1 := Lib.hid (HV.out.below hb1)
  clear hb1
  by_cases hs : V.scheme n = false
  · rw [if_pos hs] at hpost
    subst hpost
    have HS := Lib.hid hs
    clear hs
    go_wp2
    go_ret2
    exact ⟨HB1.out, by rw [if_pos HS.out]; rfl⟩
  by_cases ha : L.all (V.valid n) = false
  · rw [if_neg hs, if_pos ha] at hpost
    subst hpost
    have HS := Lib.hid hs
    have HA := Lib.hid ha
    clear hs ha
    go_wp2
    go_ret2
    exact ⟨HB1.out, by rw [if_neg HS.out, if_pos HA.out]; rfl⟩
  rw [if_neg hs, if_neg ha] at hpost
  obtain ⟨T, hT, rfl⟩ := hpost
  have HT := Lib.hid hT
  have HS := Lib.hid hs
  have HA := Lib.hid ha
  have hn : V.scheme n = true := by cases h : V.scheme n <;> simp_all
  have hval : ∀ x ∈ L, V.valid n x = true := by
    have : L.all (V.valid n) = true := by cases h : L.all (V.valid n) <;> simp_all
    rwa [List.all_eq_true] at this
  have HN := Lib.hid hn
  have HVAL := Lib.hid hval
  clear hT hs ha hn hval
  by_cases h0 : L.length = 0
  · obtain ⟨a, cap, rfl, rfl, hnil⟩ := HV1.out.len0 (w' := w1) h0
    clear h0 hnil
    rcases a with _ | a
    · unfold cmpVal
      go_wp2_with fail
      refine (Tryz.slices_Clone_string_nil 0 cap _).mono ?_
      rintro e w2 ⟨rfl, rfl⟩
      go_wp2_with fail
      refine (sortStable0_any T none 0 _).mono ?_
      rintro e w3 ⟨rfl, hb3⟩
      have HB3 := Lib.hid (HB1.out.trans (hb3.mono HB1.out.size))
      clear hb3
      go_wp2
      go_ret2
      exact ⟨HB3.out, by rw [if_neg HS.out, if_neg HA.out]; exact ⟨_, rfl, Strs.nil _⟩⟩
    · unfold cmpVal
      go_wp2_with fail
      refine (Tryz.slices_Clone_string_zero a cap _).mono ?_
      rintro e w2 ⟨v', rfl, hown, _, hb2⟩
      obtain ⟨a', cap', rfl⟩ := ownsRow_zero hown
      have HB2 := Lib.hid (HB1.out.trans (hb2.mono HB1.out.size))
      clear hown hb2
      go_wp2_with fail
      refine (sortStable0_any T a' cap' _).mono ?_
      rintro e w3 ⟨rfl, hb3⟩
      have HB3 := Lib.hid (HB2.out.trans (hb3.mono HB2.out.size))
      clear hb3
      go_wp2
      go_ret2
      exact ⟨HB3.out, by rw [if_neg HS.out, if_neg HA.out]; exact ⟨_, rfl, a', cap', rfl, fun j h => by simp [sortL] at h⟩⟩
  have h0' : 0 < L.length := by omega
  obtain ⟨b, off, cap, rfl, hb, hcells⟩ := HV1.out.head h0'
  have HC := Lib.hid hcells
  clear hcells HV HV1 h0
  unfold cmpVal
  go_wp2_with fail
  refine (Tryz.slices_Clone_string b off L.length cap (L.map fun x => ⟨x.toArray⟩) _ (by simp) (by omega) (fun j hj => ?_)).mono ?_
  · rw [HC.out j (by simpa using hj)]
    congr 2
    have hjl : j < L.length := by simpa using hj
    rw [List.getD_eq_getElem?_getD, List.getD_eq_getElem?_getD, List.getElem?_map, List.getElem?_eq_getElem hjl]; rfl
  rintro e w2 ⟨v', rfl, hown, _, hb2⟩
  obtain ⟨b', cap', rfl, _, _, hbase, hlt2, hrow⟩ := ownsRow_row (L := L) hown rfl h0' (by rw [List.take_of_length_le (by simp), List.map_map]; rfl)
  have HB2 := Lib.hid (HB1.out.trans (hb2.mono HB1.out.size))
  have hat : At (LLof L) b' L.length w2 (fun p => p) w2 := ⟨hrow.congr (fun i hi => LLof_get hi), ⟨rfl, rfl, rfl, Nat.le_refl _, fun _ _ _ => rfl⟩, HM1.out.below hb2, hlt2⟩
  have HAT := Lib.hid hat
  have hge : w.heap.size ≤ b' := Nat.le_trans HB1.out.size hbase
  clear hown hb2 hrow hat
  go_wp2_with fail
  refine (sortStableX_any n T (LLof L) b' L.length cap' _ _ HN.out (LLof_valid h0' HVAL.out) h30 HT.out HAT.out).mono ?_
  rintro e w3 ⟨rfl, h, h1, h2⟩
  have HSO : Hid (lst (fun p => LLof L (h p)) L.length = sortL n L) := Lib.hid (h1.sorted HN.out (LLof_valid h0' HVAL.out) (LLof_map L))
  have HB3 := Lib.hid (HB2.out.trans (grown_below h2.grown hge HB2.out.size))
  have HST : Hid (Strs w3 (.slice (some ⟨b', 0, none⟩) L.length cap') (sortL n L)) := Lib.hid (by
    have := h2.row.strs (cap := cap') h2.lt
    rwa [HSO.out] at this)
  clear h1 h2
  go_wp2
  go_ret2
  exact ⟨HB3.out, by rw [if_neg HS.out, if_neg HA.out]; exact ⟨_, rfl, HST.out⟩⟩
end Go.Proofs.YtabeblbhbekjaaaGreatDoor
namespace Go.Proofs.YtabeblbhbekjaaaGreatDoor
open Go.RowKit

theorem info_str : (Tryz.prog.info? 9).map (fun i => (i.zero, i.size, i.bytes)) = some (some (.string ⟨#[]⟩), 1, 16) := by kernel_rfl

def sVals (L : List V.Bs) : List Value := L.map fun x => Value.string ⟨x.toArray⟩

theorem sVals_append (A B : List V.Bs) : sVals (A ++ B) = sVals A ++ sVals B := by simp [sVals]

theorem ownsRow_less {w : World} {base base' e n : Nat} {v : Value} {xs : List Value} (h : w.ownsRow base e 1 v n xs) (hb : base' ≤ base) : w.ownsRow base' e 1 v n xs := by
  refine ⟨h.1, ?_⟩
  rcases h.2 with h | ⟨g, cap, cur, h1, h2, h3⟩
  · exact .inl h
  · exact .inr ⟨g, cap, cur, h1, Nat.le_trans hb h2, h3⟩

theorem ownsRow_zero' {w : World} {base e : Nat} {v : Value} {xs : List Value} (h : w.ownsRow base e 1 v 0 xs) : ∃ a cap, v = .slice a 0 cap := by
  rcases h.2 with ⟨e, _⟩ | ⟨g, cap, cur, rfl, _⟩
  · exact ⟨none, 0, e⟩
  · exact ⟨_, _, rfl⟩

theorem ownsRow_strs {w : World} {base e : Nat} {v : Value} {L : List V.Bs} (h : w.ownsRow base e 1 v L.length (sVals L)) : Strs w v L := by
  by_cases h0 : L.length = 0
  · have := List.eq_nil_of_length_eq_zero h0
    subst this
    obtain ⟨a, cap, rfl⟩ := ownsRow_zero' h
    exact ⟨a, cap, rfl, fun j h => by simp at h⟩
  · obtain ⟨b, cap, rfl, _, _, _, hlt, hrow⟩ := ownsRow_row (L := L) h rfl (by omega) rfl
    have := hrow.strs (cap := cap) hlt
    rwa [lst_of] at this

/-- an append of strings onto a row of one's own, as a step of a region that draws -/
theorem step_own_str {ops : Array Oper} {o : Oper} {a : Act} {w W : World} {K : Act → World → Prop} {Q : Exit → Act → World → Prop} {E : Prop} (N : Nat)
    (hgd : o.guard = none) (s x : Operand) (ho : o.op = .call { callee := .builtin .append, args := #[s, x], argTypes := #[22, 22] })
    (hB : Below N W w) (hN : N ≤ w.heap.size) (v : Value) (S M : List V.Bs) (hs : a.eval s = v) (hown : w.ownsRow N 9 1 v S.length (sVals S))
    (b off m c : Nat) (hm : m = M.length) (hx : a.eval x = .slice (some ⟨b, off, none⟩) m c) (hc : ∀ j, j < M.length → w.cell? ⟨b, off + j, none⟩ = some (.string ⟨(M.getD j []).toArray⟩)) (hl : S.length + M.length ≤ 1000000)
    (h : ∀ v' w', w'.ownsRow N 9 1 v' (S ++ M).length (sVals (S ++ M)) → Below N W w' → N ≤ w'.heap.size → (∀ b' o' u, w.cell? ⟨b', o', none⟩ = some u → some b' ≠ v.ownBlock → w'.cell? ⟨b', o', none⟩ = some u) → K (a.put o.dst v') w') :
    if Region.wanted o (yielded ops a.tmps) = true then Oper.wp Tryz.prog o a w K Q else E := by
  obtain ⟨i0, hi, hz0, hz1, hz2⟩ := info_parts info_str
  rw [if_pos (by simp [Region.wanted, hgd])]
  refine wp_append_own w s x 22 ho N 9 i0 (.string ⟨#[]⟩) 1 16 Tryz.underlying22 hi hz0 hz1 hz2 rfl (by decide) v S.length (sVals S) hs hown ⟨b, off, none⟩ m c (sVals M) hx (by simp [sVals, hm]) ?_ ?_ (by unfold maxLen; omega) (by omega) hN ?_
  · intro j u hj
    have hjm : j < M.length := by
      have := (List.getElem?_eq_some_iff.1 hj).1
      simpa [sVals] using this
    have e : sVals M = M.map fun x => Value.string ⟨x.toArray⟩ := rfl
    rw [e, List.getElem?_map, List.getElem?_eq_getElem hjm] at hj
    have hcj := hc j hjm
    rw [getD_of hjm] at hcj
    have ha : (⟨b, off, none⟩ : Addr).add j = ⟨b, off + j, none⟩ := by unfold Addr.add; split <;> simp_all
    rw [ha, hcj]
    simpa using hj
  · intro u hu
    unfold sVals at hu
    rw [List.mem_map] at hu
    obtain ⟨y, _, rfl⟩ := hu
    rfl
  · intro v' w' h2 hg _
    have hr : ∀ k, v.ownBlock = some k → N ≤ k := fun k hk => (hown.lt k hk).1
    refine h v' w' ?_ (hB.grown hg hN hr) (Nat.le_trans hN hg.size) (fun b' o' u hu hne => hg.cell hu hne)
    rw [List.length_append, sVals_append, ← hm]
    exact h2

/-- of nothing -/
theorem step_own_none {ops : Array Oper} {o : Oper} {a : Act} {w : World} {K : Act → World → Prop} {Q : Exit → Act → World → Prop} {E : Prop} (N : Nat)
    (hgd : o.guard = none) (s x : Operand) (ho : o.op = .call { callee := .builtin .append, args := #[s, x], argTypes := #[22, 22] })
    (v : Value) (S : List V.Bs) (hs : a.eval s = v) (hown : w.ownsRow N 9 1 v S.length (sVals S)) (hx : a.eval x = .slice none 0 0)
    (h : K (a.put o.dst v) w) : if Region.wanted o (yielded ops a.tmps) = true then Oper.wp Tryz.prog o a w K Q else E := by
  obtain ⟨i0, hi, hz0, hz1, hz2⟩ := info_parts info_str
  rw [if_pos (by simp [Region.wanted, hgd])]
  have hrun := run_append_owned_none (P := Tryz.prog) (w := w) N 22 o.type 9 i0 1 Tryz.underlying22 hi v S.length (sVals S) hown
  unfold Oper.wp
  simp [execOp, ho, resolve, invoke, builtin, hs, hx, hrun, Result.andThen]
  exact h
end Go.Proofs.YtabeblbhbekjaaaGreatDoor
namespace Go.Proofs.YtabeblbhbekjaaaGreatDoor
open Go.RowKit

/-- one round: a word is put in at its place -/
def Place (n : Int) (S : List V.Bs) (x : V.Bs) (k : Nat) : Prop := k ≤ S.length ∧ ∀ j, j < k → V.cmpV n (S.getD j []) x ≤ 0

theorem one_cell {w : World} {b : Nat} {x : V.Bs} (h : w.cell? ⟨b, 0, none⟩ = some (.string ⟨x.toArray⟩)) : ∀ j, j < [x].length → w.cell? ⟨b, 0 + j, none⟩ = some (.string ⟨([x].getD j []).toArray⟩) := by
  intro j hj
  have : j = 0 := by simpa using hj
  subst this
  exact h

theorem own0 {w : World} {base k : Nat} (hb : base ≤ w.heap.size) (hk : k = w.heap.size) : (w.alloc (.cells #[] 9)).ownsRow base 9 1 (.slice (some ⟨k, 0, none⟩) 0 0) ([] : List V.Bs).length (sVals []) := by
  subst hk
  exact World.ownsRow_made w #[] 0 hb (by unfold maxLen; omega) rfl

theorem own0' {w : World} {base k : Nat} {o : Obj} (hb : base ≤ w.heap.size) (hk : k = w.heap.size) : ((w.alloc (.cells #[] 9)).alloc o).ownsRow base 9 1 (.slice (some ⟨k, 0, none⟩) 0 0) ([] : List V.Bs).length (sVals []) := (own0 hb hk).alloc o

theorem row_take {W w : World} {g p q : Nat} {S : List V.Bs} (h : Row W g p fun j => S.getD j []) (hg : g < W.heap.size) (hB : Below W.heap.size W w) (hl : S.length = p) (hq : q ≤ p) : ∀ j, j < (S.take q).length → w.cell? ⟨g, 0 + j, none⟩ = some (.string ⟨((S.take q).getD j []).toArray⟩) := by
  intro j hj
  rw [List.length_take] at hj
  rw [Nat.zero_add, hB.cell (p := ⟨g, j, none⟩) hg, h.cell j (by omega)]
  congr 3
  simp only [List.getD_eq_getElem?_getD, List.getElem?_take]
  rw [if_pos (by omega)]

theorem row_drop {W w : World} {g p q : Nat} {S : List V.Bs} (h : Row W g p fun j => S.getD j []) (hg : g < W.heap.size) (hB : Below W.heap.size W w) (hl : S.length = p) (hq : q ≤ p) : ∀ j, j < (S.drop q).length → w.cell? ⟨g, q + j, none⟩ = some (.string ⟨((S.drop q).getD j []).toArray⟩) := by
  intro j hj
  rw [List.length_drop] at hj
  rw [hB.cell (p := ⟨g, q + j, none⟩) hg, h.cell (q + j) (by omega)]
  congr 3
  simp only [List.getD_eq_getElem?_getD, List.getElem?_drop]

theorem row_none {w : World} {g o p q : Nat} {S : List V.Bs} (hl : S.length = p) (hq : p ≤ q) : ∀ j, j < (S.drop q).length → w.cell? ⟨g, o + j, none⟩ = some (.string ⟨((S.drop q).getD j []).toArray⟩) := by
  intro j hj
  rw [List.length_drop] at hj
  omega

theorem not_all {n : Int} {L : List V.Bs} {p : Nat} (h : p < L.length) (hx : V.valid n (L.getD p []) = false) : L.all (V.valid n) = false := by
  rw [List.all_eq_false]
  exact ⟨L.getD p [], by rw [getD_of h]; exact List.getElem_mem _, by rw [hx]; decide⟩

set_option maxRecDepth 100000 in
set_option maxHeartbeats 3200000 in
theorem rSort_any (n : Int) (v : Value) (L : List V.Bs) (w : World) (hm : MaxOk w) (hv : Strs w v L) (h30 : L.length < 40) (hx : ∀ x ∈ L, x.length ≤ maxLen) :
    Calls Tryz.prog 15 #[.int .i64 n, v] w (SortX n L w) := by
  have HM := Lib.hid hm
  have HV := Lib.hid hv
  have HX := Lib.hid hx
  clear hm hx
  obtain ⟨a0, cap0, rfl, _⟩ := hv
  go_enter Tryz.func15, Tryz.ntmps15
  go_wp2_with fail
  refine (rscheme_any _ _).mono ?_
  rintro e w' ⟨rfl, rfl⟩
  by_cases hs : V.scheme n = false
  · have HS := Lib.hid hs
    rw [hs]
    clear hs
    go_wp2
    go_ret2
    exact ⟨Below.refl _ _, by rw [if_pos HS.out]; rfl⟩
  have hn : V.scheme n = true := by cases h : V.scheme n <;> simp_all
  have HN := Lib.hid hn
  have HS := Lib.hid hs
  rw [hn]
  clear hs hn
  go_wp2
  go_loopw [6, 7] (fun o i wr => ∃ p : Nat, p ≤ L.length ∧ i = .int .i64 p ∧ wr.ownsRow w.heap.size 9 1 o p (sVals (sortL n (L.take p))) ∧ Below w.heap.size w wr ∧ (∀ x ∈ L.take p, V.valid n x = true) ∧ (p = 0 → o = .slice none 0 0)) (fun _ i _ => L.length - (intOf i).toNat)
  case atStart => exact ⟨0, Nat.zero_le _, rfl, World.ownsRow_nil _ _ _ _, Below.refl _ _, fun x hx => by simp at hx, fun _ => rfl⟩
  case round =>
    obtain ⟨p, hp, rfl, hown, hbl, hval, hnil⟩ := hrel
    have HNIL := Lib.hid hnil
    clear hnil
    have HOWN := Lib.hid hown
    have HBL := Lib.hid hbl
    have HVAL := Lib.hid hval
    clear hown hbl hval
    by_cases hlt : p < L.length
    · obtain ⟨b, off, ea, hb', hc⟩ := HV.out.at p hlt
      cases ea
      have hxl : (L.getD p []).length ≤ maxLen := HX.out _ (by rw [getD_of hlt]; exact List.getElem_mem _)
      obtain ⟨x, hxe⟩ : ∃ x, L.getD p [] = x := ⟨_, rfl⟩
      rw [hxe] at hc hxl
      have HXE := Lib.hid hxe
      clear hxe
      have hc1 := keep_cell HBL.out hc
      unfold maxLen at hxl
      go_wp2_with fail
      refine (rvalid_any n ⟨x.toArray⟩ _ (HM.out.below HBL.out) (by show x.length ≤ _; unfold maxLen; omega)).mono ?_
      rintro e w1 ⟨rfl, hb1⟩
      simp only [arr_list]
      have HB1 := Lib.hid (HBL.out.trans (hb1.mono HBL.out.size))
      have hcw := keep_cell hb1 hc1
      have HOWN1 := Lib.hid (HOWN.out.kept (below_grown hb1 none) (by rcases u6.ownBlock with _ | g <;> simp))
      clear hb1 hc1 HOWN HBL
      rcases hvx : V.valid n x with _ | _
      · have HNA := Lib.hid (not_all (n := n) hlt (by rw [HXE.out]; exact hvx))
        go_wp2
        go_ret2
        exact ⟨HB1.out, by rw [if_neg HS.out, if_pos HNA.out]; rfl⟩
      · have HVX := Lib.hid hvx
        clear hvx
        have hsl : (sortL n (L.take p)).length = p := by rw [sortL_len, List.length_take]; omega
        have hsv : ∀ y ∈ sortL n (L.take p), V.valid n y = true := sortL_valid HVAL.out
        have hsn : sortL n (L.take (p + 1)) = insAt n x (sortL n (L.take p)) := by
          rw [List.take_succ_eq_append_getElem hlt, sortL_snoc, ← getD_of hlt, HXE.out]
        have hva : ∀ y ∈ L.take (p + 1), V.valid n y = true := by
          intro y hy
          rw [List.take_succ_eq_append_getElem hlt, ← getD_of hlt, HXE.out] at hy
          rcases List.mem_append.1 hy with h | h
          · exact HVAL.out y h
          · rw [List.mem_singleton] at h; subst h; exact HVX.out
        have HVA := Lib.hid hva
        have HSN := Lib.hid hsn
        have HSL := Lib.hid hsl
        have HSV := Lib.hid hsv
        clear hsl hsv hsn hva
        generalize sortL n (L.take p) = S at *
        by_cases hp0 : p = 0
        · subst hp0
          have hS : S = [] := List.eq_nil_of_length_eq_zero HSL.out
          subst hS
          have ho := HNIL.out rfl
          subst ho
          go_wp2
          go_loop [8] (fun k => k = .int .i64 ((0 : Nat) : Int)) (fun _ => 0)
          case atStart => exact rfl
          case round =>
            subst hrel
            have hno : ¬ ((0 : Nat) : Int) < ((0 : Nat) : Int) := by omega
            go_wp2
            go_region
            go_wp2
            have HB2 : Hid (Below w.heap.size w w1.drew) := Lib.hid HB1.out.drew
            have hcw2 : w1.drew.cell? ⟨b, off + 0, none⟩ = some (.string ⟨x.toArray⟩) := hcw
            clear HOWN1 hcw HB1
            generalize w1.drew = W at *
            have hN : w.heap.size ≤ W.heap.size := HB2.out.size
            have hbW : b < W.heap.size := by omega
            have hcw3 : W.cell? ⟨b, off, none⟩ = some (.string ⟨x.toArray⟩) := hcw2
            go_region_law (first
              | refine step_own_none W.heap.size rfl (.tmp 54) (.tmp 57) rfl _ [x] rfl (by assumption) rfl ?_
              | refine step_own_none W.heap.size rfl (.tmp 44) (.tmp 47) rfl _ [] rfl (by first | exact own0 (by simp) (by simp) | exact own0' (by simp) (by simp)) rfl ?_
              | (refine step_own_str (W := W) W.heap.size rfl (.tmp 48) (.tmp 53) rfl (by repeat (first | exact Below.refl _ _ | refine Below.drew ?_ | refine Below.alloc ?_ (by first | omega | (simp <;> omega)) _)) (by first | omega | (simp <;> omega)) _ [] [x] rfl (by first | exact own0 (by simp) (by simp) | exact own0' (by simp) (by simp)) _ 0 1 1 rfl rfl (one_cell (by simp)) (by simp) ?_; intro v3 w3 hown3 hb3 hn3 hk3))
            all_goals
              have HO3 := Lib.hid (ownsRow_less hown3 hN)
              have HB3 := Lib.hid (HB2.out.trans (hb3.mono hN))
              clear hown3 hb3 hk3
              go_wp2
              go_roundw
              case rel => exact ⟨1, by omega, by go_num, by rw [HSN.out]; exact HO3.out, HB3.out, HVA.out, fun h => by omega⟩
              case measure => simp [intOf]; omega
        · obtain ⟨g, cap, rfl, hnc, hcm, hbase, hg, hrow⟩ := ownsRow_row (L := S) HOWN1.out HSL.out.symm (by omega) rfl
          have HROW := Lib.hid hrow
          have HHM1 := Lib.hid (HM.out.below HB1.out)
          unfold maxLen at hcm
          clear hrow HOWN1 HNIL
          go_wp2
          go_loopw [8] (fun k wr2 => ∃ q : Nat, q ≤ p ∧ k = .int .i64 q ∧ Below w1.heap.size w1 wr2 ∧ ∀ j, j < q → V.cmpV n (S.getD j []) x ≤ 0) (fun k _ => p - (intOf k).toNat)
          case atStart => exact ⟨0, by omega, rfl, Below.refl _ _, fun j hj => by omega⟩
          case round =>
            obtain ⟨q, hq, rfl, hb2, hpl⟩ := hrel
            have HB2 := Lib.hid hb2
            have HPL := Lib.hid hpl
            clear hb2 hpl
            by_cases hlq : q < p
            · have hci : (0 : Int) ≤ (q : Int) := by omega
              have hci2 : (q : Int) < (p : Int) := by omega
              have hci3 : (0 : Int) ≤ (p : Int) := by omega
              have hci4 : (p : Int) < (L.length : Int) := by omega
              have c0 := (HROW.out.below hg HB2.out).cell q hlq
              have c1 := keep_cell HB2.out hcw
              obtain ⟨y, hy⟩ : ∃ y, S.getD q [] = y := ⟨_, rfl⟩
              have HVY : Hid (V.valid n y = true) := Lib.hid (by rw [← hy]; exact HSV.out _ (by rw [getD_of (by rw [HSL.out]; exact hlq)]; exact List.getElem_mem _))
              rw [hy] at c0
              have HY := Lib.hid hy
              clear hy
              go_wp2
              go_still_tail 14, (by kernel_rfl)
              change wpList _ _ _ _ _ wr.drew
              have HB3 := Lib.hid HB2.out.drew
              clear c0 c1 HB2
              generalize wr.drew = W1 at *
              go_wp2_with fail
              refine (rOrder_any n ⟨y.toArray⟩ ⟨x.toArray⟩ _ (HHM1.out.below HB3.out) HN.out HVY.out HVX.out).mono ?_
              rintro e W ⟨rfl, hb4⟩
              simp only [arr_list]
              have HBW := Lib.hid (HB3.out.trans (hb4.mono HB3.out.size))
              clear hb4 HB3
              obtain ⟨c, hc⟩ : ∃ c, V.cmpV n y x = c := ⟨_, rfl⟩
              rw [hc]
              by_cases hcn : c ≤ 0
              · have HPL2 : Hid (∀ j, j < q + 1 → V.cmpV n (S.getD j []) x ≤ 0) := Lib.hid (fun j hj => by
                  by_cases e : j = q
                  · rw [e, HY.out, hc]; exact hcn
                  · exact HPL.out j (by omega))
                clear hc
                go_wp2
                go_roundw
                case rel => exact ⟨q + 1, by omega, by go_num, HBW.out, HPL2.out⟩
                case measure => simp [intOf]; omega
              have HEX : Hid (q < p → 0 < V.cmpV n (S.getD q []) x) := Lib.hid (fun _ => by rw [HY.out, hc]; omega)
              clear hc
              go_wp2
              have hW0 : w1.heap.size ≤ W.heap.size := HBW.out.size
              have hN : w.heap.size ≤ W.heap.size := Nat.le_trans HB1.out.size hW0
              have hrW : Row W g p (fun j => S.getD j []) := HROW.out.below hg HBW.out
              have hgW : g < W.heap.size := by omega
              have hcW := keep_cell HBW.out hcw
              have hbW : b < W.heap.size := by have := HB1.out.size; omega
              have HBT := Lib.hid (HB1.out.trans (HBW.out.mono HB1.out.size))
              have HSW := Lib.hid (show insAt n x S = S.take q ++ x :: S.drop q from insAt_at n x S q (by rw [HSL.out]; omega) HPL.out (fun h => by have := HEX.out (by rw [HSL.out] at h; exact h); omega))
              have HRW := Lib.hid hrW
              have hl1 := HSL.out
              have hk1 : (0 : Int) ≤ (q : Int) := by omega
              have hk2 : (q : Int) ≤ (cap : Int) := by omega
              have hk3 : (q : Int) ≤ (p : Int) := by omega
              have hk4 : (p : Int) ≤ (cap : Int) := by omega
              have hk5 : (0 : Int) ≤ (p : Int) := by omega
              have hk6 : (p : Int) < (L.length : Int) := by omega
              clear hrW HBW
              have hcq : ¬ cap = q := by omega
              go_region_law (first
               | (refine step_own_str (W := W) W.heap.size rfl (.tmp 44) (.tmp 47) rfl (by repeat (first | assumption | exact Below.refl _ _ | refine Below.drew ?_ | refine Below.alloc ?_ (by first | omega | (simp <;> omega)) _)) (by first | omega | (simp <;> omega)) (.slice (some ⟨_, 0, none⟩) 0 0) [] (S.take q) rfl (by first | exact own0 (by first | omega | (simp <;> omega)) (by simp) | exact own0' (by first | omega | (simp <;> omega)) (by simp)) _ _ _ _ (by rw [List.length_take, hl1]; omega) rfl (row_take HRW.out hgW (by repeat (first | assumption | exact Below.refl _ _ | refine Below.drew ?_ | refine Below.alloc ?_ (by first | omega | (simp <;> omega)) _)) hl1 hq) (by simp; omega) ?_; intro vB wB hownB hbB hnB hkB; have hcB := (hbB.cell (p := ⟨b, off + p, none⟩) hbW).trans hcW)
               | (refine step_own_str (W := W) W.heap.size rfl (.tmp 48) (.tmp 53) rfl (by repeat (first | assumption | exact Below.refl _ _ | refine Below.drew ?_ | refine Below.alloc ?_ (by first | omega | (simp <;> omega)) _)) (by first | omega | (simp <;> omega)) _ ([] ++ S.take q) [x] rfl (by first | exact hownB | exact hownB.alloc _) _ 0 1 1 rfl rfl (one_cell (by first | simp | exact hkB _ _ _ (by simp) (by simp [Value.ownBlock]))) (by simp; omega) ?_; intro vE wE hownE hbE hnE hkE)
               | (refine step_own_str (W := W) W.heap.size rfl (.tmp 54) (.tmp 57) rfl (by assumption) (by assumption) _ (([] ++ S.take q) ++ [x]) (S.drop q) rfl (by assumption) g _ _ _ (by have := List.length_drop (i := q) (l := S); omega) rfl (row_drop HRW.out hgW (by assumption) hl1 hq) (by simp; omega) ?_; intro v3 w3 hown3 hb3 hn3 hk3))
              all_goals
                have HO3 : Hid (w3.ownsRow w.heap.size 9 1 v3 (p + 1) (sVals (insAt n x S))) := Lib.hid (by
                  have h := ownsRow_less hown3 hN
                  have el : ((([] ++ S.take q) ++ [x]) ++ S.drop q) = insAt n x S := by rw [HSW.out]; simp
                  have el2 : (insAt n x S).length = p + 1 := by rw [(insAt_perm n x S).length_eq, List.length_cons, hl1]
                  rw [el, el2] at h
                  exact h)
                have HB3 := Lib.hid (HBT.out.trans (hb3.mono hN))
                clear hown3 hb3 hk3
                go_wp2
                go_roundw
                case rel => exact ⟨p + 1, by omega, by go_num, by rw [HSN.out]; exact HO3.out, HB3.out, HVA.out, fun h => by omega⟩
                case measure => simp [intOf]; omega
            · have HEX : Hid (q < p → 0 < V.cmpV n (S.getD q []) x) := Lib.hid (fun h => absurd h hlq)
              obtain rfl : q = p := by omega
              go_wp2
              go_quiet (fail)
              rename_i nq
              have HBW := Lib.hid (below_drewN HB2.out nq)
              clear HB2
              generalize wr.drewN nq = W at *
              go_wp2
              have hW0 : w1.heap.size ≤ W.heap.size := HBW.out.size
              have hN : w.heap.size ≤ W.heap.size := Nat.le_trans HB1.out.size hW0
              have hrW : Row W g q (fun j => S.getD j []) := HROW.out.below hg HBW.out
              have hgW : g < W.heap.size := by omega
              have hcW := keep_cell HBW.out hcw
              have hbW : b < W.heap.size := by have := HB1.out.size; omega
              have HBT := Lib.hid (HB1.out.trans (HBW.out.mono HB1.out.size))
              have HSW := Lib.hid (show insAt n x S = S.take q ++ x :: S.drop q from insAt_at n x S q (by rw [HSL.out]; omega) HPL.out (fun h => by have := HEX.out (by rw [HSL.out] at h; exact h); omega))
              have HRW := Lib.hid hrW
              have hl1 := HSL.out
              have hk1 : (0 : Int) ≤ (q : Int) := by omega
              have hk2 : (q : Int) ≤ (cap : Int) := by omega
              have hk3 : (q : Int) ≤ (q : Int) := by omega
              have hk4 : (q : Int) ≤ (cap : Int) := by omega
              have hk5 : (0 : Int) ≤ (q : Int) := by omega
              have hk6 : (q : Int) < (L.length : Int) := by omega
              clear hrW HBW
              by_cases hcq : cap = q
              · obtain hcp : q = cap := by omega
                subst hcp
                go_region_law (first
                 | (refine step_own_str (W := W) W.heap.size rfl (.tmp 44) (.tmp 47) rfl (by repeat (first | assumption | exact Below.refl _ _ | refine Below.drew ?_ | refine Below.alloc ?_ (by first | omega | (simp <;> omega)) _)) (by first | omega | (simp <;> omega)) (.slice (some ⟨_, 0, none⟩) 0 0) [] (S.take q) rfl (by first | exact own0 (by first | omega | (simp <;> omega)) (by simp) | exact own0' (by first | omega | (simp <;> omega)) (by simp)) _ _ _ _ (by rw [List.length_take, hl1]; omega) rfl (row_take HRW.out hgW (by repeat (first | assumption | exact Below.refl _ _ | refine Below.drew ?_ | refine Below.alloc ?_ (by first | omega | (simp <;> omega)) _)) hl1 (Nat.le_refl _)) (by simp; omega) ?_; intro vB wB hownB hbB hnB hkB; have hcB := (hbB.cell (p := ⟨b, off + q, none⟩) hbW).trans hcW)
                 | (refine step_own_str (W := W) W.heap.size rfl (.tmp 48) (.tmp 53) rfl (by repeat (first | assumption | exact Below.refl _ _ | refine Below.drew ?_ | refine Below.alloc ?_ (by first | omega | (simp <;> omega)) _)) (by first | omega | (simp <;> omega)) _ ([] ++ S.take q) [x] rfl (by first | exact hownB | exact hownB.alloc _) _ 0 1 1 rfl rfl (one_cell (by first | simp | exact hkB _ _ _ (by simp) (by simp [Value.ownBlock]))) (by simp; omega) ?_; intro vE wE hownE hbE hnE hkE)
                 | (refine step_own_str (W := W) W.heap.size rfl (.tmp 54) (.tmp 57) rfl (by assumption) (by assumption) _ (([] ++ S.take q) ++ [x]) (S.drop q) rfl (by assumption) g _ _ _ (by have := List.length_drop (i := q) (l := S); omega) rfl (row_none hl1 (by omega)) (by simp; omega) ?_; intro v3 w3 hown3 hb3 hn3 hk3))
                all_goals
                  have HO3 : Hid (w3.ownsRow w.heap.size 9 1 v3 (q + 1) (sVals (insAt n x S))) := Lib.hid (by
                    have h := ownsRow_less hown3 hN
                    have el : ((([] ++ S.take q) ++ [x]) ++ S.drop q) = insAt n x S := by rw [HSW.out]; simp
                    have el2 : (insAt n x S).length = q + 1 := by rw [(insAt_perm n x S).length_eq, List.length_cons, hl1]
                    rw [el, el2] at h
                    exact h)
                  have HB3 := Lib.hid (HBT.out.trans (hb3.mono hN))
                  clear hown3 hb3 hk3
                  go_wp2
                  go_roundw
                  case rel => exact ⟨q + 1, by omega, by go_num, by rw [HSN.out]; exact HO3.out, HB3.out, HVA.out, fun h => by omega⟩
                  case measure => simp [intOf]; omega
              · go_region_law (first
                 | (refine step_own_str (W := W) W.heap.size rfl (.tmp 44) (.tmp 47) rfl (by repeat (first | assumption | exact Below.refl _ _ | refine Below.drew ?_ | refine Below.alloc ?_ (by first | omega | (simp <;> omega)) _)) (by first | omega | (simp <;> omega)) (.slice (some ⟨_, 0, none⟩) 0 0) [] (S.take q) rfl (by first | exact own0 (by first | omega | (simp <;> omega)) (by simp) | exact own0' (by first | omega | (simp <;> omega)) (by simp)) _ _ _ _ (by rw [List.length_take, hl1]; omega) rfl (row_take HRW.out hgW (by repeat (first | assumption | exact Below.refl _ _ | refine Below.drew ?_ | refine Below.alloc ?_ (by first | omega | (simp <;> omega)) _)) hl1 hq) (by simp; omega) ?_; intro vB wB hownB hbB hnB hkB; have hcB := (hbB.cell (p := ⟨b, off + q, none⟩) hbW).trans hcW)
                 | (refine step_own_str (W := W) W.heap.size rfl (.tmp 48) (.tmp 53) rfl (by repeat (first | assumption | exact Below.refl _ _ | refine Below.drew ?_ | refine Below.alloc ?_ (by first | omega | (simp <;> omega)) _)) (by first | omega | (simp <;> omega)) _ ([] ++ S.take q) [x] rfl (by first | exact hownB | exact hownB.alloc _) _ 0 1 1 rfl rfl (one_cell (by first | simp | exact hkB _ _ _ (by simp) (by simp [Value.ownBlock]))) (by simp; omega) ?_; intro vE wE hownE hbE hnE hkE)
                 | (refine step_own_str (W := W) W.heap.size rfl (.tmp 54) (.tmp 57) rfl (by assumption) (by assumption) _ (([] ++ S.take q) ++ [x]) (S.drop q) rfl (by assumption) g _ _ _ (by have := List.length_drop (i := q) (l := S); omega) rfl (row_drop HRW.out hgW (by assumption) hl1 hq) (by simp; omega) ?_; intro v3 w3 hown3 hb3 hn3 hk3))
                all_goals
                  have HO3 : Hid (w3.ownsRow w.heap.size 9 1 v3 (q + 1) (sVals (insAt n x S))) := Lib.hid (by
                    have h := ownsRow_less hown3 hN
                    have el : ((([] ++ S.take q) ++ [x]) ++ S.drop q) = insAt n x S := by rw [HSW.out]; simp
                    have el2 : (insAt n x S).length = q + 1 := by rw [(insAt_perm n x S).length_eq, List.length_cons, hl1]
                    rw [el, el2] at h
                    exact h)
                  have HB3 := Lib.hid (HBT.out.trans (hb3.mono hN))
                  clear hown3 hb3 hk3
                  go_wp2
                  go_roundw
                  case rel => exact ⟨q + 1, by omega, by go_num, by rw [HSN.out]; exact HO3.out, HB3.out, HVA.out, fun h => by omega⟩
                  case measure => simp [intOf]; omega
    · have hpe : p = L.length := by omega
      subst hpe
      rw [List.take_length] at HOWN HVAL
      go_wp2
      go_ret2
      refine ⟨HBL.out, ?_⟩
      rw [if_neg HS.out, if_neg (by rw [List.all_eq_true.2 HVAL.out]; decide)]
      refine ⟨_, rfl, ?_⟩
      have h := HOWN.out
      rw [← sortL_len n L] at h
      exact ownsRow_strs h
end Go.Proofs.YtabeblbhbekjaaaGreatDoor
