/- burinref11.write and burinref11.read. -/
import Derived.Test.YtcggghamnmflcaaIbt
namespace Go.Proofs.Ytcggghamnmflcaa
open Go Go.RowKit Go.Shelf
theorem i64_and1 (n : Int) : bits .and .i64 n 1 = n % 2 := by
  have h1 : (BitVec.ofInt 64 1).toNat = 2 ^ 1 - 1 := by decide
  have key : (BitVec.ofInt 64 n &&& BitVec.ofInt 64 1).toNat = (n % ((2 ^ 64 : Nat) : Int)).toNat % 2 ^ 1 := by
    rw [BitVec.toNat_and, BitVec.toNat_ofInt, h1, Nat.and_two_pow_sub_one_eq_mod]
  show IntKind.i64.wrap ((BitVec.ofInt 64 n &&& BitVec.ofInt 64 1).toNat : Nat) = n % 2
  rw [key, IntKind.wrap_i64]
  omega
theorem or_bit {x n : Nat} (hx : x < 256) (hn : n < 8) : bits .or .u8 (x : Int) (2 ^ n % 256) = (sb x n 1 : Nat) := by
  revert x n
  have h : ∀ x : Fin 256, ∀ n : Fin 8, bits .or .u8 (x.1 : Int) (2 ^ n.1 % 256) = (sb x.1 n.1 1 : Nat) := by decide +kernel
  intro x n hx hn
  exact h ⟨x, hx⟩ ⟨n, hn⟩
theorem not_bit {x n : Nat} (hx : x < 256) (hn : n < 8) : bits .andNot .u8 (x : Int) (2 ^ n % 256) = (sb x n 0 : Nat) := by
  revert x n
  have h : ∀ x : Fin 256, ∀ n : Fin 8, bits .andNot .u8 (x.1 : Int) (2 ^ n.1 % 256) = (sb x.1 n.1 0 : Nat) := by decide +kernel
  intro x n hx hn
  exact h ⟨x, hx⟩ ⟨n, hn⟩
/-- A bit of a signed number. -/
theorem vbit {v : Int} {u i : Nat} (hu : v % 18446744073709551616 = (u : Int)) (hi : i < 64) : v / 2 ^ i % 2 = ((u / 2 ^ i % 2 : Nat) : Int) := by
  have hv : v = 18446744073709551616 * (v / 18446744073709551616) + u := by rw [← hu]; exact (Int.mul_ediv_add_emod _ _).symm
  have h64 : (18446744073709551616 : Int) = 2 ^ i * (2 * 2 ^ (63 - i)) := by
    rw [← Int.pow_succ', ← Int.pow_add, show i + (63 - i + 1) = 64 by omega]; rfl
  have hp : (2 : Int) ^ i ≠ 0 := by
    have : ((2 ^ i : Nat) : Int) = 2 ^ i := by rw [Int.natCast_pow]; rfl
    rw [← this]
    have : 0 < 2 ^ i := Nat.pow_pos (by omega)
    omega
  have e : v / 2 ^ i = 2 * (2 ^ (63 - i) * (v / 18446744073709551616)) + (u : Int) / 2 ^ i := by
    generalize v / 18446744073709551616 = z at hv ⊢
    rw [hv, h64, Int.mul_assoc, Int.mul_assoc, Int.add_comm, Int.add_mul_ediv_left _ _ hp, Int.add_comm]
  have e2 : ((u / 2 ^ i : Nat) : Int) = (u : Int) / 2 ^ i := by rw [Int.natCast_ediv, Int.natCast_pow]; rfl
  rw [e, ← e2]
  omega
set_option maxRecDepth 100000 in
set_option maxHeartbeats 4000000 in
theorem rwrite_c (g cap : Nat) (l : List Nat) (rest : List Value) (bt bs : Nat) (kx v : Int) (u : Nat) (w : World) (h : ByA w g l rest) (hx : ∀ x ∈ l, x < 256) (hb : bt + bs ≤ 8 * l.length) (hl : l.length ≤ 65536) (hb64 : bs ≤ 64) (hu : v % 18446744073709551616 = (u : Int)) :
    Calls Try.prog 94 #[.slice (some ⟨g, 0, none⟩) l.length cap, .agg #[.int .i64 bt, .int .i64 bs, .int .i64 kx], .int .i64 v] w fun e w' => (∃ r, e = .returned r) ∧ ByA w' g (wrS l bt u bs) rest ∧ Gx g w w' := by
  have hgl := h.lt
  have HX := Lib.hid hx
  have HU := Lib.hid hu
  have HB := Lib.hid hb
  clear hx hu
  go_enter Try.func94, Try.ntmps94
  go_upto_region 1 with (fail)
  have h4 := Bk.new w 48 #[.int .i64 bt, .int .i64 bs, .int .i64 kx]
  have hb0 := bel_alloc (Below.refl _ w) (.cells #[.int .i64 bt, .int .i64 bs, .int .i64 kx] 48)
  have hby := h.alloc (.cells #[.int .i64 bt, .int .i64 bs, .int .i64 kx] 48)
  generalize World.alloc w _ = W0 at h4 hb0 hby ⊢
  clear h
  go_wp2_with fail
  go_loopw [6] (fun s6 wr => ∃ i : Nat, i ≤ bs ∧ s6 = .int .i64 i ∧ ByA wr g (wrS l bt u i) rest ∧ Gx g w wr ∧ Bk wr w.heap.size 48 #[.int .i64 bt, .int .i64 bs, .int .i64 kx]) (fun i _ => bs - (intOf i).toNat)
  case atStart => exact ⟨0, Nat.zero_le _, rfl, hby, Gx.of hb0, h4⟩
  case round =>
    clear hby hb0 h4
    obtain ⟨i, hi, rfl, hby, hgx, h4⟩ := hrel
    have k0 := h4.at_ (i := 0) rfl; have k1 := h4.at_ (i := 1) rfl
    by_cases hlt : i < bs
    · obtain ⟨i8, r8, e8, e9, hi8, hr8⟩ : ∃ i8 r8 : Nat, (((bt : Int) + i) / 8) = (i8 : Int) ∧ (((bt : Int) + i) % 8) = (r8 : Int) ∧ i8 < l.length ∧ r8 < 8 := ⟨(bt + i) / 8, (bt + i) % 8, by omega, by omega, by omega, by omega⟩
      obtain ⟨L, hL⟩ : ∃ L, wrS l bt u i = L := ⟨_, rfl⟩
      rw [hL] at hby
      have hLl : L.length = l.length := by rw [← hL]; exact wrS_len ..
      have hLx : ∀ y ∈ L, y < 256 := by rw [← hL]; exact wrS_lt HX.out (by omega)
      obtain ⟨xb, hxb0⟩ : ∃ y, L[i8]? = some y := ⟨_, List.getElem?_eq_getElem (by omega)⟩
      have hxlt := hLx xb (List.mem_of_getElem? hxb0)
      have c8 : wr.cell? ⟨g, i8, none⟩ = some (.int .u8 (xb : Int)) := by
        refine hby.at_ ?_
        simp [byC, List.getElem?_append, hxb0]
        intro h; omega
      have d8 : wr.frozen? ⟨g, i8, none⟩ = false := hby.frozen (by omega)
      have z1 : (0 : Int) ≤ (i8 : Int) := Int.natCast_nonneg _
      have z2 : (i8 : Int) < (l.length : Int) := by omega
      have z3 : (0 : Int) ≤ (r8 : Int) := Int.natCast_nonneg _
      have z4 : (r8 : Int) < 8 := by omega
      have hvb := vbit HU.out (show i < 64 by omega)
      have hq : ∀ q, u / 2 ^ i % 2 = q → wrS l bt u (i + 1) = L.set i8 (sb xb r8 q) := fun q hq => by
        rw [wrS_succ, hL, hq]
        unfold wr1
        rw [show (bt + i) / 8 = i8 by omega, show (bt + i) % 8 = r8 by omega, hxb0]
        rfl
      have HQ := Lib.hid hq
      have HBY := Lib.hid hby
      have HG := Lib.hid hgx
      have H4 := Lib.hid h4
      have hgn : w.heap.size ≠ g := by omega
      clear hq hL hLx hxb0 hby hgx h4
      rcases (show u / 2 ^ i % 2 = 0 ∨ u / 2 ^ i % 2 = 1 by omega) with hq | hq
      · rw [hq] at hvb
        have hqq := HQ.out 0 hq
        have HE := Lib.hid hqq
        have hnb := not_bit hxlt hr8
        have hab : bits .and .i64 (v / 2 ^ i) 1 = 0 := by rw [i64_and1]; exact hvb
        clear hqq HQ hq
        go_wp2_with fail
        go_roundw
        case rel => exact ⟨i + 1, by omega, by go_num, by rw [HE.out]; exact HBY.out.set_ (i := i8) (by omega) _, HG.out.setG _ _, H4.out.far (p := ⟨g, i8, none⟩) (by dsimp only; omega) _⟩
        case measure => simp [intOf]; omega
      · rw [hq] at hvb
        have HE := Lib.hid (HQ.out 1 hq)
        have hnb := or_bit hxlt hr8
        have hab : bits .and .i64 (v / 2 ^ i) 1 = 1 := by rw [i64_and1]; exact hvb
        clear HQ hq
        go_wp2_with fail
        go_roundw
        case rel => exact ⟨i + 1, by omega, by go_num, by rw [HE.out]; exact HBY.out.set_ (i := i8) (by omega) _, HG.out.setG _ _, H4.out.far (p := ⟨g, i8, none⟩) (by dsimp only; omega) _⟩
        case measure => simp [intOf]; omega
    · obtain rfl : i = bs := by omega
      have HBY := Lib.hid hby
      have HG := Lib.hid hgx
      clear hby hgx h4
      go_wp2_with fail
      exact bodyPost_end (results_none rfl _ _ _) rfl ⟨⟨_, rfl⟩, HBY.out, HG.out⟩
theorem rdN_head (l : List Nat) (bt : Nat) : ∀ n, rdN l bt (n + 1) = bitN l bt + 2 * rdN l (bt + 1) n
  | 0 => by rw [rdN_succ]; simp [rdN, rdQ]
  | n + 1 => by
    rw [rdN_succ, rdN_head l bt n, rdN_succ l (bt + 1) n, show bt + (n + 1) = bt + 1 + n by omega, Nat.pow_succ, Nat.mul_add]
    simp only [Nat.mul_assoc, Nat.mul_comm]
    omega
theorem rdN_lt (l : List Nat) (bt bs : Nat) : rdN l bt bs < 2 ^ bs := by
  have := (rdQ_n l bt (List.range bs)).2
  rwa [List.length_range] at this
theorem sub_sh {u bs : Nat} (hb1 : 1 ≤ bs) (hb : bs < 64) (hu : u < 2 ^ bs) (h1 : u / 2 ^ (bs - 1) = 1) : wrap64 (wrap64 (u : Int) - wrap64 (2 ^ bs)) = (u : Int) - 2 ^ bs := by
  have hp : ((2 ^ bs : Nat) : Int) = 2 ^ bs := by rw [Int.natCast_pow]; rfl
  have hle : 2 ^ bs ≤ 2 ^ 63 := Nat.pow_le_pow_right (by omega) (by omega)
  have h2 : 2 ^ bs = 2 * 2 ^ (bs - 1) := by rw [← Nat.pow_succ', show (bs - 1).succ = bs by omega]
  have h3 : 2 ^ (bs - 1) ≤ u := by
    have hpos : 0 < 2 ^ (bs - 1) := Nat.pow_pos (by omega)
    have := Nat.div_mul_le_self u (2 ^ (bs - 1))
    rw [h1] at this
    omega
  have hw : ∀ x : Int, wrap64 x = (x + 9223372036854775808) % 18446744073709551616 - 9223372036854775808 := fun x => by unfold wrap64; rfl
  rw [← hp, hw, hw, hw]
  generalize 2 ^ bs = P at *
  generalize 2 ^ (bs - 1) = H at *
  omega
set_option maxRecDepth 100000 in
set_option maxHeartbeats 4000000 in
theorem rread_c (g cap : Nat) (l : List Nat) (rest : List Value) (bt bs : Nat) (kx : Int) (w : World) (h : ByA w g l rest) (hx : ∀ x ∈ l, x < 256) (hb : bt + bs ≤ 8 * l.length) (hl : l.length ≤ 65536) (hb1 : 1 ≤ bs) (hb64 : bs ≤ 64) :
    Calls Try.prog 98 #[.slice (some ⟨g, 0, none⟩) l.length cap, .agg #[.int .i64 bt, .int .i64 bs, .int .i64 kx]] w fun e w' => e = .returned (.int .i64 (rdS (rdN l bt bs) bs kx)) ∧ Below w.heap.size w w' := by
  have hgl := h.lt
  have HX := Lib.hid hx
  clear hx
  go_enter Try.func98, Try.ntmps98
  go_upto_region 1 with (fail)
  have h3 := Bk.new w 48 #[.int .i64 bt, .int .i64 bs, .int .i64 kx]
  have hb0 := bel_alloc (Below.refl _ w) (.cells #[.int .i64 bt, .int .i64 bs, .int .i64 kx] 48)
  have hby := h.alloc (.cells #[.int .i64 bt, .int .i64 bs, .int .i64 kx] 48)
  generalize World.alloc w _ = W0 at h3 hb0 hby ⊢
  clear h
  have k0 := h3.at_ (i := 0) rfl; have k1 := h3.at_ (i := 1) rfl; have k2 := h3.at_ (i := 2) rfl
  have HBY := Lib.hid hby
  have HB0 := Lib.hid hb0
  have H3 := Lib.hid h3
  clear hby hb0 h3
  go_upto_region 3 with (fail)
  go_wp2_with fail
  go_loopw [5, 6] (fun s5 s6 wr => ∃ k : Nat, k ≤ bs ∧ s6 = .int .i64 ((k : Int) - 1) ∧ s5 = .int .u64 ((rdN l (bt + k) (bs - k) : Nat) : Int) ∧ wr = W0) (fun _ i _ => (intOf i + 1).toNat)
  case atStart => exact ⟨bs, Nat.le_refl _, rfl, by rw [Nat.sub_self]; rfl, rfl⟩
  case round =>
    obtain ⟨k, hk, rfl, rfl, rfl⟩ := hrel
    by_cases h0 : k = 0
    · subst h0
      rw [Nat.add_zero, Nat.sub_zero]
      obtain ⟨u, hu⟩ : ∃ u, rdN l bt bs = u := ⟨_, rfl⟩
      have hun : u < 2 ^ bs := by rw [← hu]; exact rdN_lt ..
      have hu64 : u < 18446744073709551616 := Nat.lt_of_lt_of_le hun (Nat.pow_le_pow_right (n := 2) (by omega) hb64)
      rw [hu]
      have HU := Lib.hid hu
      clear hu
      go_wp2_with fail
      refine (runs_c kx wr).mono ?_
      rintro e _ ⟨rfl, rfl⟩
      obtain ⟨bm, rfl⟩ : ∃ bm, bs = bm + 1 := ⟨bs - 1, by omega⟩
      cases hk : kuns kx with
      | true =>
        have HV := Lib.hid (show rdS (rdN l bt (bm + 1)) (bm + 1) kx = wrap64 (u : Int) by rw [HU.out]; unfold rdS; rw [if_pos hk, ← i64S_wrap hu64])
        go_wp2_with fail
        go_ret
        rw [HV.out]
        exact ⟨rfl, HB0.out⟩
      | false =>
        by_cases h64 : bm + 1 < 64
        · have q1 : decide (((bm + 1 : Nat) : Int) < 64) = true := decide_eq_true (by omega)
          have e3 : ((u : Int) / 2 ^ bm) = ((u / 2 ^ bm : Nat) : Int) := by rw [Int.natCast_ediv, Int.natCast_pow]; rfl
          by_cases hone : u / 2 ^ bm = 1
          · have q2 : ((u : Int) / 2 ^ bm == 1) = true := by rw [e3, hone]; rfl
            have HV := Lib.hid (show rdS (rdN l bt (bm + 1)) (bm + 1) kx = wrap64 (wrap64 (u : Int) - wrap64 (2 ^ (bm + 1))) by
              rw [HU.out, sub_sh hb1 h64 hun (by simpa using hone)]
              unfold rdS
              rw [if_neg (by rw [hk]; decide), if_pos ⟨h64, by simpa using hone⟩])
            clear e3
            go_wp2_with fail
            go_ret
            rw [HV.out]
            exact ⟨rfl, HB0.out⟩
          · have q2 : ((u : Int) / 2 ^ bm == 1) = false := by rw [e3]; simp; omega
            have HV := Lib.hid (show rdS (rdN l bt (bm + 1)) (bm + 1) kx = wrap64 (u : Int) by
              rw [HU.out]
              unfold rdS
              rw [if_neg (by rw [hk]; decide), if_neg (fun h => hone (by simpa using h.2)), ← i64S_wrap hu64])
            clear e3
            go_wp2_with fail
            go_ret
            rw [HV.out]
            exact ⟨rfl, HB0.out⟩
        · have q1 : decide (((bm + 1 : Nat) : Int) < 64) = false := decide_eq_false (by omega)
          have HV := Lib.hid (show rdS (rdN l bt (bm + 1)) (bm + 1) kx = wrap64 (u : Int) by
            rw [HU.out]
            unfold rdS
            rw [if_neg (by rw [hk]; decide), if_neg (fun h => h64 h.1), ← i64S_wrap hu64])
          go_wp2_with fail
          go_ret
          rw [HV.out]
          exact ⟨rfl, HB0.out⟩
    · obtain ⟨m, rfl⟩ : ∃ m, k = m + 1 := ⟨k - 1, by omega⟩
      obtain ⟨u, hu⟩ : ∃ u, rdN l (bt + (m + 1)) (bs - (m + 1)) = u := ⟨_, rfl⟩
      have hun : u < 2 ^ (bs - (m + 1)) := by rw [← hu]; exact rdN_lt ..
      have hu63 : u < 9223372036854775808 := Nat.lt_of_lt_of_le hun (Nat.le_trans (Nat.pow_le_pow_right (n := 2) (by omega) (show bs - (m + 1) ≤ 63 by omega)) (by decide))
      rw [hu]
      obtain ⟨i8, r8, e8, e9, hi8, hr8⟩ : ∃ i8 r8 : Nat, (((bt : Int) + m) / 8) = (i8 : Int) ∧ (((bt : Int) + m) % 8) = (r8 : Int) ∧ i8 < l.length ∧ r8 < 8 := ⟨(bt + m) / 8, (bt + m) % 8, by omega, by omega, by omega, by omega⟩
      obtain ⟨xb, hxb0⟩ : ∃ y, l[i8]? = some y := ⟨_, List.getElem?_eq_getElem (by omega)⟩
      have hxlt := HX.out xb (List.mem_of_getElem? hxb0)
      have c8 : wr.cell? ⟨g, i8, none⟩ = some (.int .u8 (xb : Int)) := by
        refine HBY.out.at_ ?_
        simp [byC, List.getElem?_append, hxb0]
        intro h; omega
      have hnew : rdN l (bt + m) (bs - m) = xb / 2 ^ r8 % 2 + 2 * u := by
        rw [show bs - m = bs - (m + 1) + 1 by omega, rdN_head, show bt + m + 1 = bt + (m + 1) by omega, hu]
        congr 1
        unfold bitN
        rw [show (bt + m) / 8 = i8 by omega, show (bt + m) % 8 = r8 by omega, hxb0]
        rfl
      have HNEW := Lib.hid hnew
      have z1 : (0 : Int) ≤ (i8 : Int) := Int.natCast_nonneg _
      have z2 : (i8 : Int) < (l.length : Int) := by omega
      have z3 : (0 : Int) ≤ (r8 : Int) := Int.natCast_nonneg _
      have z4 : (r8 : Int) < 8 := by omega
      have es : ((m + 1 : Nat) : Int) - 1 = (m : Int) := by omega
      rw [es]
      have e1 : ((xb : Int) / 2 ^ r8) = ((xb / 2 ^ r8 : Nat) : Int) := by rw [Int.natCast_ediv, Int.natCast_pow]; rfl
      have hval : IntKind.u64.wrap (2 * (u : Int) + IntKind.u64.wrap (bits .and .u8 ((xb : Int) / 2 ^ r8) 1)) = ((xb / 2 ^ r8 % 2 + 2 * u : Nat) : Int) := by
        rw [e1, and_one8 (Nat.lt_of_le_of_lt (Nat.div_le_self _ _) hxlt), IntKind.wrap_u64, IntKind.wrap_u64]
        omega
      rw [← HNEW.out] at hval
      clear hnew hu hxb0 e1
      go_wp2_with fail
      go_roundw
      case rel => exact ⟨m, by omega, rfl, rfl, trivial⟩
      case measure => simp [intOf]
end Go.Proofs.Ytcggghamnmflcaa
