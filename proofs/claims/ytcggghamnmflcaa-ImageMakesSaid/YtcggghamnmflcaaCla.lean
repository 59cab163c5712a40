/- A type's classes: the plain answer; the walk of the test whether a number does not lie as it is aligned, and of slices.ContainsFunc with it. -/
import Derived.Test.YtcggghamnmflcaaPlc
namespace Go.Proofs.Ytcggghamnmflcaa
open Go Go.RowKit Go.Shelf
/-- Does a whole number not lie as it is aligned? -/
def misS (s : Spt) : Bool := s.bits == 8 * ksize s.k && s.bit % s.bits != 0
/-- Has a number a bit in the j-th eight bytes? -/
def covS (s : Spt) (j : Nat) : Bool := decide (s.bit / 64 ≤ j) && decide ((j : Int) ≤ (s.bit + s.bits - 1) / 64)
def clsV (m : Nat) (l : List Spt) : List Int := (List.range m).map fun j => if l.any (covS · j) then 1 else 0
/-- What Classes answers. -/
def clsE (d : Nat) (t : Tp d) : Int := if errS d t = 0 then (if tsh d t = 3 then 2 else leafE d t) else errS d t
def clsL (d : Nat) (t : Tp d) : List Int := if clsE d t = 0 then (if 16 < szS d t ∨ (leavesS d t 0).any misS = true then [2] else clsV (((szS d t + 7) / 8).toNat) (leavesS d t 0)) else []
theorem ksize_08 (k : Int) : 0 ≤ ksize k ∧ ksize k ≤ 8 := by
  cases h : isK k with
  | true => have := ksize_pos h; omega
  | false => rw [(isK_false h).1]; omega
theorem size_q (k : Int) (w : World) (n : Nat) : Calls Try.prog 32 #[.int .i64 k] (w.drewN n) fun e w'' => e = .returned (.int .i64 (ksize k)) ∧ ∃ m, w'' = w.drewN m := (size_c k _).mono fun _ _ ⟨h1, h2⟩ => ⟨h1, n, h2.symm⟩
set_option maxRecDepth 100000 in
set_option maxHeartbeats 2000000 in
theorem mis_c (s : Spt) (w : World) (h0 : 0 ≤ s.bit) (h1 : s.bit ≤ 1000000) (h2 : 1 ≤ s.bits) (h3 : s.bits ≤ 64) : Calls Try.prog 74 #[.agg #[.int .i64 s.bit, .int .i64 s.bits, .int .i64 s.k]] w fun e w' => e = .returned (.bool (misS s)) ∧ Below w.heap.size w w' := by
  obtain ⟨bit, bits, k⟩ := s
  simp only at h0 h1 h2 h3 ⊢
  obtain ⟨z, hz⟩ : ∃ z, ksize k = z := ⟨_, rfl⟩
  have HQ := fun w n => size_q k w n
  rw [hz] at HQ
  obtain ⟨z1, z2⟩ := ksize_08 k
  rw [hz] at z1 z2
  have HZ := Lib.hid hz
  replace HQ := Lib.hid HQ
  clear hz
  cases hb : (bits == 8 * z) with
  | false =>
    have HR := Lib.hid (show misS ⟨bit, bits, k⟩ = false by unfold misS; rw [HZ.out, hb]; rfl)
    go_enter Try.func74, Try.ntmps74
    go_wp2_with fail
    go_quiet ((go_at_call 32; exact HQ.out _ _))
    go_wp2_with fail
    go_ret
    exact ⟨by rw [HR.out]; rfl, bel_drewN (bel_alloc (Below.refl _ _) _) _⟩
  | true =>
    cases hc : (bit % bits != 0) with
    | false =>
      have HR := Lib.hid (show misS ⟨bit, bits, k⟩ = false by unfold misS; rw [HZ.out, hb, hc]; rfl)
      go_enter Try.func74, Try.ntmps74
      go_wp2_with fail
      go_quiet ((go_at_call 32; exact HQ.out _ _))
      go_wp2_with fail
      go_ret
      exact ⟨by rw [HR.out]; rfl, bel_drewN (bel_alloc (Below.refl _ _) _) _⟩
    | true =>
      have HR := Lib.hid (show misS ⟨bit, bits, k⟩ = true by unfold misS; rw [HZ.out, hb, hc]; rfl)
      go_enter Try.func74, Try.ntmps74
      go_wp2_with fail
      go_quiet ((go_at_call 32; exact HQ.out _ _))
      go_wp2_with fail
      go_ret
      exact ⟨by rw [HR.out]; rfl, bel_drewN (bel_alloc (Below.refl _ _) _) _⟩
/-- Numbers that lie as they may. -/
def LfOk (l : List Spt) : Prop := ∀ s ∈ l, 0 ≤ s.bit ∧ s.bit ≤ 1000000 ∧ 1 ≤ s.bits ∧ s.bits ≤ 64
theorem any_snoc {α : Type} {p : α → Bool} {l : List α} {j : Nat} {x : α} (hx : l[j]? = some x) (h : (l.take j).any p = false) (h2 : p x = false) : (l.take (j + 1)).any p = false := by
  rw [take_snoc_of hx, List.any_append, h]
  simpa using h2
theorem any_yes {α : Type} {p : α → Bool} {l : List α} {j : Nat} {x : α} (hx : l[j]? = some x) (h2 : p x = true) : l.any p = true := List.any_eq_true.2 ⟨x, List.mem_of_getElem? hx, h2⟩
set_option maxRecDepth 100000 in
set_option maxHeartbeats 2000000 in
theorem index_c (A : Option Addr) (c : Nat) (l : List Spt) (w : World) (hA : SptsAt w A l.length l) (hl : l.length ≤ 2000) (hk : LfOk l) :
    Calls Try.prog 106 #[.slice A l.length c, .func (.func 74) #[] #[]] w fun e w' => ∃ i : Int, e = .returned (.int .i64 i) ∧ (0 ≤ i ↔ l.any misS = true) ∧ Below w.heap.size w w' := by
  have HA := Lib.hid hA
  have HK := Lib.hid hk
  clear hA hk
  go_enter Try.func106, Try.ntmps106
  go_wp2_with fail
  go_loopw [8] (fun s8 wr => ∃ j : Nat, j ≤ l.length ∧ s8 = .int .i64 j ∧ (l.take j).any misS = false ∧ Below w.heap.size w wr) (fun i _ => l.length - (intOf i).toNat)
  case atStart => exact ⟨0, Nat.zero_le _, rfl, rfl, Below.refl _ _⟩
  case round =>
    obtain ⟨j, hj, rfl, hp, hb⟩ := hrel
    have HP := Lib.hid hp
    clear hp
    by_cases hlt : j < l.length
    · obtain ⟨x, hx⟩ : ∃ x, l[j]? = some x := ⟨_, List.getElem?_eq_getElem hlt⟩
      obtain ⟨b, o, rfl, a0, a1, a2⟩ := (HA.out.below hb).2 j x hx
      obtain ⟨k0, k1, k2, k3⟩ := HK.out x (List.mem_of_getElem? hx)
      have HX := Lib.hid hx
      have HC := Lib.hid (mis_c x wr k0 k1 k2 k3)
      clear hx
      cases hm : misS x with
      | false =>
        have HM := Lib.hid hm
        rw [hm] at HC
        clear hm
        go_wp2_with fail
        refine HC.out.mono ?_
        rintro e w1 ⟨rfl, hb1⟩
        clear HC a0 a1 a2
        go_wp2_with fail
        go_roundw
        case rel => exact ⟨j + 1, by omega, by go_num, any_snoc HX.out HP.out HM.out, bel_then hb hb1⟩
        case measure => simp [intOf]; omega
      | true =>
        have HM := Lib.hid (any_yes HX.out hm)
        rw [hm] at HC
        clear hm
        go_wp2_with fail
        refine HC.out.mono ?_
        rintro e w1 ⟨rfl, hb1⟩
        clear HC a0 a1 a2
        go_wp2_with fail
        go_ret
        exact ⟨_, rfl, ⟨fun _ => HM.out, fun _ => by omega⟩, bel_then hb hb1⟩
    · have hge : l.length ≤ j := by omega
      have HN := Lib.hid (show l.any misS = false by have := HP.out; rwa [List.take_of_length_le hge] at this)
      go_wp2_with fail
      go_ret
      exact ⟨_, rfl, ⟨fun h => by omega, fun h => by rw [HN.out] at h; cases h⟩, hb⟩
set_option maxRecDepth 100000 in
theorem contains_c (A : Option Addr) (c : Nat) (l : List Spt) (w : World) (hA : SptsAt w A l.length l) (hl : l.length ≤ 2000) (hk : LfOk l) :
    Calls Try.prog 75 #[.slice A l.length c, .func (.func 74) #[] #[]] w fun e w' => e = .returned (.bool (l.any misS)) ∧ Below w.heap.size w w' := by
  have HC := Lib.hid (index_c A c l w hA hl hk)
  clear hA hk
  cases hm : l.any misS with
  | true =>
    rw [hm] at HC
    clear hm
    go_enter Try.func75, Try.ntmps75
    go_wp2_with fail
    refine HC.out.mono ?_
    rintro e w1 ⟨i, rfl, hi, hb⟩
    have h0 : 0 ≤ i := by simpa using hi
    clear hi
    go_wp2_with fail
    go_ret
    exact ⟨rfl, hb⟩
  | false =>
    rw [hm] at HC
    clear hm
    go_enter Try.func75, Try.ntmps75
    go_wp2_with fail
    refine HC.out.mono ?_
    rintro e w1 ⟨i, rfl, hi, hb⟩
    have h0 : i < 0 := by simpa using hi
    clear hi
    go_wp2_with fail
    go_ret
    exact ⟨by rw [decide_eq_false (by omega)]; rfl, hb⟩
end Go.Proofs.Ytcggghamnmflcaa
