/- class.Classes in plain words. -/
import Derived.Test.YtcggghamnmflcaaCla
namespace Go.Proofs.Ytcggghamnmflcaa
open Go Go.RowKit Go.Shelf
/-- Whole numbers in memory. -/
def IntsAt (w : World) (A : Option Addr) (n : Nat) (l : List Int) : Prop :=
  n = l.length ∧ ∀ i v, l[i]? = some v → ∃ b o, A = some ⟨b, o, none⟩ ∧ w.cell? ⟨b, o + i, none⟩ = some (.int .i64 v)
theorem IntsAt.below {w w1 : World} {A : Option Addr} {n : Nat} {l : List Int} (h : IntsAt w A n l) (hb : Below w.heap.size w w1) : IntsAt w1 A n l :=
  ⟨h.1, fun i s hs => by
    obtain ⟨b, o, ha, h0⟩ := h.2 i s hs
    exact ⟨b, o, ha, bel_cell hb h0⟩⟩
theorem IntsAt.nil (w : World) (A : Option Addr) : IntsAt w A 0 [] := ⟨rfl, fun i s hs => by simp at hs⟩
/-- A row of noughts and ones. -/
def cA (m : Nat) (f : Nat → Bool) : Array Value := ((List.range m).map fun q => Value.int .i64 (if f q then 1 else 0)).toArray
theorem cA_get {m q : Nat} (f : Nat → Bool) (hq : q < m) : (cA m f)[q]? = some (.int .i64 (if f q then 1 else 0)) := by
  simp [cA, hq]
theorem cA_set {m q : Nat} {f g : Nat → Bool} (h1 : g q = true) (h2 : ∀ k, k ≠ q → g k = f k) : (cA m f).setIfInBounds q (.int .i64 1) = cA m g := by
  apply Array.ext_getElem?
  intro i
  rw [Array.getElem?_setIfInBounds]
  by_cases hi : i < m
  · by_cases hq : q = i
    · subst hq
      rw [if_pos rfl, cA_get g hi, h1]
      simp [cA, hi]
    · rw [if_neg hq, cA_get f hi, cA_get g hi, h2 i (Ne.symm hq)]
  · have e1 : (cA m f)[i]? = none := by simp [cA]; omega
    have e2 : (cA m g)[i]? = none := by simp [cA]; omega
    split
    · rename_i hq; subst hq
      rw [e2]; simp [cA, hi]
    · rw [e1, e2]
theorem cA_congr {m : Nat} {f g : Nat → Bool} (h : ∀ k, k < m → f k = g k) : cA m f = cA m g := by
  unfold cA
  congr 1
  exact List.map_congr_left fun k hk => by rw [h k (List.mem_range.1 hk)]
theorem IntsAt.of_bk {w : World} {ob m : Nat} {f : Nat → Bool} (h : Bk w ob 3 (cA m f)) : IntsAt w (some ⟨ob, 0, none⟩) m ((List.range m).map fun q => if f q then (1 : Int) else 0) :=
  ⟨by simp, fun i v hv => by
    obtain ⟨hi, rfl⟩ : i < m ∧ (if f i then (1 : Int) else 0) = v := by
      rw [List.getElem?_map] at hv
      by_cases hi : i < m
      · rw [List.getElem?_range hi] at hv
        exact ⟨hi, by simpa using hv⟩
      · rw [List.getElem?_eq_none (by simp; omega)] at hv; cases hv
    exact ⟨ob, 0, rfl, by rw [Nat.zero_add]; exact h.at_ (cA_get f hi)⟩⟩
theorem IntsAt.two {w : World} {b : Nat} (h : Bk w b 3 #[.int .i64 2]) : IntsAt w (some ⟨b, 0, none⟩) 1 [2] :=
  ⟨rfl, fun i v hv => by
    match i, hv with
    | 0, hv => cases hv; exact ⟨b, 0, rfl, h.at_ rfl⟩
    | i + 1, hv => simp at hv⟩
theorem make39_1 (w : World) : (Instr.makeSlice 39 (.int .i64 1) (.int .i64 1)).run Try.prog w = .ok (.slice (some ⟨w.heap.size, 0, none⟩) 1 1) (w.alloc (.cells (cA 1 fun _ => false) 3)) := by kernel_rfl
theorem make39_2 (w : World) : (Instr.makeSlice 39 (.int .i64 2) (.int .i64 2)).run Try.prog w = .ok (.slice (some ⟨w.heap.size, 0, none⟩) 2 2) (w.alloc (.cells (cA 2 fun _ => false) 3)) := by kernel_rfl
theorem leaf_z {d : Nat} {t : Tp d} (h : leafE d t = 0) : errS d t = 0 ∧ leafL d t = leavesS d t 0 ∧ (leavesS d t 0).length ≤ 2000 := by
  have hL : leafL d t = leavesS d t 0 := by unfold leafL; rw [if_pos h]
  unfold leafE at h
  split at h
  · rename_i h0
    split at h
    · cases h
    · exact ⟨h0, hL, by omega⟩
  · rename_i h0; exact absurd h h0
theorem covS_iff {bt bs k : Int} {q : Nat} (_h0 : 0 ≤ bt) (_h1 : 1 ≤ bs) : covS ⟨bt, bs, k⟩ q = true ↔ bt / 64 ≤ q ∧ (q : Int) ≤ (bt + bs - 1) / 64 := by
  unfold covS; simp
set_option maxRecDepth 100000 in
set_option maxHeartbeats 8000000 in
theorem classes_f {d : Nat} {t : Tp d} {v0 v1 v2 v3 v4 v5 v6 : Value} {w : World} (ht : TyAt w d t [v0, v1, v2, v3, v4, v5, v6]) :
    Calls Try.prog 39 #[.agg #[v0, v1, v2, v3, v4, v5, v6]] w fun e w' => ∃ (A : Option Addr) (n c : Nat), e = .returned (.tuple #[.slice A n c, .int .i64 (clsE d t)]) ∧ IntsAt w' A n (clsL d t) ∧ Below w.heap.size w w' ∧ ∀ a, A = some a → w.heap.size ≤ a.block := by
  obtain ⟨n0, A1, A2, n1, n2, c1, c2, pk, al, hcs⟩ := ht.form
  simp only [List.cons.injEq, and_true] at hcs
  obtain ⟨rfl, rfl, rfl, rfl, rfl, rfl, rfl⟩ := hcs
  have HR := fun w' (hb : Below w.heap.size w w') => right_c (ht.below hb)
  have HS := fun w' (hb : Below w.heap.size w w') => ssize_c (ht.below hb)
  have HL := fun w' (hb : Below w.heap.size w w') => leaves40_c (ht.below hb)
  obtain ⟨sh, hsh⟩ : ∃ x, tsh d t = x := ⟨_, rfl⟩
  obtain ⟨tk0, hk⟩ : ∃ x, tk d t = x := ⟨_, rfl⟩
  obtain ⟨er, her⟩ : ∃ x, errS d t = x := ⟨_, rfl⟩
  obtain ⟨f1, hf1⟩ : ∃ x, leafE d t = x := ⟨_, rfl⟩
  obtain ⟨sz, hsz⟩ : ∃ x, szS d t = x := ⟨_, rfl⟩
  obtain ⟨ll, hll⟩ : ∃ x, leafL d t = x := ⟨_, rfl⟩
  obtain ⟨ce, hce⟩ : ∃ x, clsE d t = x := ⟨_, rfl⟩
  obtain ⟨cl, hcl⟩ : ∃ x, clsL d t = x := ⟨_, rfl⟩
  rw [her, hsz] at HS
  rw [hf1, hll] at HL
  rw [her] at HR
  rw [hsh, hk] at HR HS HL ⊢
  rw [hce, hcl]
  have HSH := Lib.hid hsh
  have HER := Lib.hid her
  have HF1 := Lib.hid hf1
  have HSZ := Lib.hid hsz
  have HLL := Lib.hid hll
  have HCE := Lib.hid hce
  have HCL := Lib.hid hcl
  replace HR := Lib.hid HR
  replace HS := Lib.hid HS
  replace HL := Lib.hid HL
  clear hsh hk her hf1 hsz hll hce hcl ht
  go_enter Try.func39, Try.ntmps39
  go_wp2_with fail
  have hT0 := (Bk.new w 38 #[.int .i64 sh, .int .i64 tk0, .int .i64 n0, .slice A1 n1 c1, .slice A2 n2 c2, .bool pk, .int .i64 al])
  refine (HL.out _ (bel_alloc (Below.refl _ _) _)).mono ?_
  rintro e w1 ⟨A, nn, c, rfl, hA1, hb1⟩
  have hT1 := hT0.below hb1 hT0.lt
  have HB1 := Lib.hid (bel_then (bel_alloc (Below.refl _ _) _) hb1)
  have HA1 := Lib.hid hA1.1
  clear hb1 hA1 hT0
  have t0 := hT1.at_ (i := 0) rfl; have t1 := hT1.at_ (i := 1) rfl; have t2 := hT1.at_ (i := 2) rfl; have t3 := hT1.at_ (i := 3) rfl; have t4 := hT1.at_ (i := 4) rfl; have t5 := hT1.at_ (i := 5) rfl; have t6 := hT1.at_ (i := 6) rfl
  go_wp2_with fail
  refine (HR.out _ HB1.out).mono ?_
  rintro e w2 ⟨rfl, hb2⟩
  have hT2 := hT1.below hb2 hT1.lt
  have HA2 := Lib.hid (HA1.out.below hb2)
  have HB2 := Lib.hid (bel_then HB1.out hb2)
  clear hb2 hT1 HA1 t0 t1 t2 t3 t4 t5 t6
  have t0 := hT2.at_ (i := 0) rfl; have t1 := hT2.at_ (i := 1) rfl; have t2 := hT2.at_ (i := 2) rfl; have t3 := hT2.at_ (i := 3) rfl; have t4 := hT2.at_ (i := 4) rfl; have t5 := hT2.at_ (i := 5) rfl; have t6 := hT2.at_ (i := 6) rfl
  by_cases h1 : er = 0
  · subst h1
    by_cases h2 : sh = 3
    · subst h2
      have HC := Lib.hid (show ce = 2 by rw [← HCE.out]; unfold clsE; rw [if_pos HER.out, if_pos HSH.out])
      have HD := Lib.hid (show cl = [] by rw [← HCL.out]; unfold clsL; rw [if_neg (by rw [HCE.out, HC.out]; decide)])
      go_wp2_with fail
      go_ret2
      exact ⟨none, 0, 0, by rw [HC.out]; rfl, by rw [HD.out]; exact .nil _ _, HB2.out, fun a h => by cases h⟩
    · by_cases h3 : f1 = 0
      · subst h3
        go_wp2_with fail
        refine (HS.out _ HB2.out).mono ?_
        rintro e w3 ⟨rfl, hb3⟩
        have HB3 := Lib.hid (bel_then HB2.out hb3)
        have HA3 := Lib.hid (HA2.out.below hb3)
        clear hb3 t0 t1 t2 t3 t4 t5 t6 hT2 HA2
        obtain ⟨_, o1, o2⟩ := leaf_z HF1.out
        have hol : ll = leavesS d t 0 := HLL.out.symm.trans o1
        rw [← hol] at o2
        obtain ⟨q1, q2⟩ := err_0 HER.out
        have hok := boxS_ok d t 6 _ q1 q2
        have hszb : sz = (boxD d t).size := by have := HSZ.out; unfold szS at this; rw [if_pos HER.out] at this; exact this.symm
        have z1 : 1 ≤ sz := by have := hok.1; omega
        have z2 : sz ≤ 65536 := by have := hok.2.1; omega
        have HRNG := Lib.hid (fun s (hs : s ∈ ll) => leaves_rng d t 0 _ q1 q2 s (by rw [← hol]; exact hs))
        rw [← hszb] at HRNG
        have HOK := Lib.hid (show LfOk ll from fun s hs => by have := HRNG.out s hs; omega)
        have HOL := Lib.hid hol
        have HC := Lib.hid (show ce = 0 by rw [← HCE.out]; unfold clsE; rw [if_pos HER.out, if_neg (by rw [HSH.out]; exact h2), HF1.out])
        have HD := Lib.hid (show cl = if 16 < sz ∨ ll.any misS = true then [2] else clsV (((sz + 7) / 8).toNat) ll by rw [← HCL.out]; unfold clsL; rw [if_pos (by rw [HCE.out, HC.out]), HSZ.out, ← HOL.out])
        clear hol hszb hok q1 q2 o1
        obtain rfl : nn = ll.length := HA3.out.1
        by_cases h4 : 16 < sz
        · go_wp2_with fail
          go_ret2
          exact ⟨some ⟨w3.heap.size, 0, none⟩, 1, 1, by rw [HC.out]; rfl, by rw [HD.out, if_pos (.inl h4)]; exact .two (Bk.new _ _ _), bel_alloc HB3.out _, fun a h => by cases h; exact HB3.out.size⟩
        · have HN := Lib.hid (contains_c A c ll w3 HA3.out o2 HOK.out)
          cases hm : ll.any misS with
          | true =>
            have HD2 := Lib.hid (show cl = [2] by rw [HD.out, if_pos (.inr hm)])
            rw [hm] at HN
            clear hm
            go_wp2_with fail
            refine HN.out.mono ?_
            rintro e w4 ⟨rfl, hb4⟩
            have HB4 := Lib.hid (bel_then HB3.out hb4)
            clear hb4
            go_wp2_with fail
            go_ret2
            exact ⟨some ⟨w4.heap.size, 0, none⟩, 1, 1, by rw [HC.out]; rfl, by rw [HD2.out]; exact .two (Bk.new _ _ _), bel_alloc HB4.out _, fun a h => by cases h; exact HB4.out.size⟩
          | false =>
            have HD2 := Lib.hid (show cl = clsV (((sz + 7) / 8).toNat) ll by rw [HD.out, if_neg (by rw [hm]; simp; omega)])
            rw [hm] at HN
            clear hm
            obtain ⟨m, hm, hm1, hm2⟩ : ∃ m : Nat, (sz + 7) / 8 = (m : Int) ∧ 1 ≤ m ∧ m ≤ 2 := ⟨((sz + 7) / 8).toNat, by omega, by omega, by omega⟩
            have HD3 := Lib.hid (show cl = clsV m ll by rw [HD2.out, hm, Int.toNat_natCast])
            have hmk : ∀ w, (Instr.makeSlice 39 (.int .i64 (m : Int)) (.int .i64 (m : Int))).run Try.prog w = .ok (.slice (some ⟨w.heap.size, 0, none⟩) m m) (w.alloc (.cells (cA m fun _ => false) 3)) := by
              intro w
              rcases (show m = 1 ∨ m = 2 by omega) with rfl | rfl
              · exact make39_1 w
              · exact make39_2 w
            go_wp2_with fail
            refine HN.out.mono ?_
            rintro e w4 ⟨rfl, hb4⟩
            have HB4 := Lib.hid (bel_then HB3.out hb4)
            have HA4 := Lib.hid (HA3.out.below hb4)
            clear hb4
            go_wp2_with fail
            have hK0 := Bk.new w4 3 (cA m fun _ => false)
            have hb0 : Below w4.heap.size w4 (w4.alloc (.cells (cA m fun _ => false) 3)) := bel_alloc (Below.refl _ _) _
            generalize World.alloc _ _ = w5 at hK0 hb0 ⊢
            clear HN HA3 HB3 hmk
            have HM := Lib.hid hm
            have hz : sz ≤ 8 * m := by omega
            clear hm
            have HK0 := Lib.hid hK0
            have HB0 := Lib.hid hb0
            clear hK0 hb0
            go_loopw [53] (fun s53 wr => ∃ j : Nat, j ≤ ll.length ∧ s53 = .int .i64 j ∧ Bk wr w4.heap.size 3 (cA m fun q => (ll.take j).any (covS · q)) ∧ Below w4.heap.size w4 wr) (fun i _ => ll.length - (intOf i).toNat)
            case atStart => exact ⟨0, Nat.zero_le _, rfl, HK0.out, HB0.out⟩
            case round =>
              obtain ⟨j, hj, rfl, hk, hb⟩ := hrel
              have HK := Lib.hid hk
              have HB := Lib.hid hb
              clear hk hb HK0 HB0
              obtain ⟨wo, rfl⟩ : ∃ wo : World, wo = wr := ⟨_, rfl⟩
              by_cases hlt : j < ll.length
              · obtain ⟨x, hx⟩ : ∃ x, ll[j]? = some x := ⟨_, List.getElem?_eq_getElem hlt⟩
                obtain ⟨b, o, rfl, a0, a1, a2⟩ := (HA4.out.below HB.out).2 j x hx
                have hr := HRNG.out x (List.mem_of_getElem? hx)
                have HX := Lib.hid hx
                clear hx
                obtain ⟨bit, bits, k⟩ := x
                simp only at a0 a1 a2 hr
                obtain ⟨r0, r1, r2, r3⟩ := hr
                obtain ⟨bt, rfl⟩ := Int.eq_ofNat_of_zero_le r0
                obtain ⟨bs, rfl⟩ := Int.eq_ofNat_of_zero_le (show 0 ≤ bits by omega)
                go_wp2_with fail
                clear a0 a1 a2
                have hX0 := Bk.new wo 48 #[.int .i64 bt, .int .i64 bs, .int .i64 k]
                have hK1 := HK.out.alloc (.cells #[.int .i64 bt, .int .i64 bs, .int .i64 k] 48)
                have hb1 := bel_alloc HB.out (.cells #[.int .i64 bt, .int .i64 bs, .int .i64 k] 48)
                have hne : w4.heap.size ≠ wo.heap.size := by have := HK.out.lt; omega
                have hge : w4.heap.size ≤ wo.heap.size := HB.out.size
                generalize World.alloc _ _ = w6 at hX0 hK1 hb1 ⊢
                have HX0 := Lib.hid hX0
                have HK1 := Lib.hid hK1
                have HB1 := Lib.hid hb1
                clear hX0 hK1 hb1
                generalize hxb : wo.heap.size = xb at HX0 hne hge ⊢
                go_loopw [13] (fun s13 wr => ∃ q : Nat, s13 = .int .i64 q ∧ (bt : Int) / 64 ≤ q ∧ (q : Int) ≤ (bt + bs - 1) / 64 + 1 ∧ Bk wr w4.heap.size 3 (cA m fun r => (ll.take j).any (covS · r) || (decide ((bt : Int) / 64 ≤ r) && decide (r < q))) ∧ Bk wr xb 48 #[.int .i64 bt, .int .i64 bs, .int .i64 k] ∧ Below w4.heap.size w4 wr) (fun i _ => ((bt + bs - 1 : Int) / 64 + 1 - intOf i).toNat)
                case atStart =>
                  refine ⟨bt / 64, by go_num, by omega, by omega, ?_, HX0.out, HB1.out⟩
                  rw [cA_congr (g := fun q => (ll.take j).any (covS · q)) (fun k _ => ?_)]
                  · exact HK1.out
                  · have : (decide ((bt : Int) / 64 ≤ k) && decide (k < bt / 64)) = false := by simp; omega
                    rw [this, Bool.or_false]
                case round =>
                  obtain ⟨q, rfl, q1, q2, hk, hX, hb⟩ := hrel
                  have HK2 := Lib.hid hk
                  have HB2 := Lib.hid hb
                  clear hk hb
                  have x0 := hX.at_ (i := 0) rfl
                  have x1 := hX.at_ (i := 1) rfl
                  have HXX := Lib.hid hX
                  clear hX
                  by_cases hq : (q : Int) ≤ (bt + bs - 1) / 64
                  · have hqm : q < m := by omega
                    have hc := HK2.out.at_ (cA_get _ hqm)
                    have hfz := HK2.out.frozen q
                    go_wp2_with fail
                    go_roundw
                    case rel =>
                      refine ⟨q + 1, by go_num, by omega, by omega, ?_, HXX.out.far hne.symm _, bel_set HB2.out (Nat.le_refl _) _⟩
                      have h := HK2.out.set_ q (.int .i64 1)
                      rwa [cA_set (g := fun r => (ll.take j).any (covS · r) || (decide ((bt : Int) / 64 ≤ r) && decide (r < q + 1))) (by simp; omega) (fun k hkq => by
                        have : decide (k < q + 1) = decide (k < q) := by simp; omega
                        simp only [this])] at h
                    case measure => simp [intOf]; omega
                  · go_wp2_with fail
                    go_roundw
                    case rel =>
                      refine ⟨j + 1, by omega, by go_num, ?_, HB2.out⟩
                      have h := HK2.out
                      rwa [cA_congr (g := fun r => (ll.take (j + 1)).any (covS · r)) (fun r _ => by
                        rw [take_snoc_of HX.out, List.any_append]
                        have : ([⟨(bt : Int), (bs : Int), k⟩] : List Spt).any (covS · r) = (decide ((bt : Int) / 64 ≤ r) && decide (r < q)) := by
                          simp only [List.any_cons, List.any_nil, Bool.or_false]
                          unfold covS
                          simp only
                          rw [Bool.eq_iff_iff]
                          simp only [Bool.and_eq_true, decide_eq_true_eq]
                          omega
                        rw [this])] at h
                    case measure => simp [intOf]; omega
              · have HFIN := Lib.hid (show cl = (List.range m).map fun q => if ll.any (covS · q) then (1 : Int) else 0 from HD3.out)
                go_wp2_with fail
                go_ret2
                refine ⟨some ⟨w4.heap.size, 0, none⟩, m, m, by rw [HC.out]; rfl, ?_, bel_then HB4.out HB.out, fun a h => by cases h; exact HB4.out.size⟩
                rw [HFIN.out]
                have h := HK.out
                rw [List.take_of_length_le (by omega)] at h
                exact .of_bk h
      · have HC := Lib.hid (show ce = f1 by rw [← HCE.out]; unfold clsE; rw [if_pos HER.out, if_neg (by rw [HSH.out]; exact h2), HF1.out])
        have HD := Lib.hid (show cl = [] by rw [← HCL.out]; unfold clsL; rw [if_neg (by rw [HCE.out, HC.out]; exact h3)])
        go_wp2_with fail
        go_ret2
        exact ⟨none, 0, 0, by rw [HC.out]; rfl, by rw [HD.out]; exact .nil _ _, HB2.out, fun a h => by cases h⟩
  · have HC := Lib.hid (show ce = er by rw [← HCE.out]; unfold clsE; rw [if_neg (by rw [HER.out]; exact h1), HER.out])
    have HD := Lib.hid (show cl = [] by rw [← HCL.out]; unfold clsL; rw [if_neg (by rw [HCE.out, HC.out]; exact h1)])
    go_wp2_with fail
    refine (HR.out _ HB2.out).mono ?_
    rintro e w3 ⟨rfl, hb3⟩
    have HB3 := Lib.hid (bel_then HB2.out hb3)
    clear hb3
    go_wp2_with fail
    go_ret2
    exact ⟨none, 0, 0, by rw [HC.out]; rfl, by rw [HD.out]; exact .nil _ _, HB3.out, fun a h => by cases h⟩
theorem classes_c {d : Nat} {t : Tp d} {v0 v1 v2 v3 v4 v5 v6 : Value} {w : World} (ht : TyAt w d t [v0, v1, v2, v3, v4, v5, v6]) :
    Calls Try.prog 39 #[.agg #[v0, v1, v2, v3, v4, v5, v6]] w fun e w' => ∃ (A : Option Addr) (n c : Nat), e = .returned (.tuple #[.slice A n c, .int .i64 (clsE d t)]) ∧ IntsAt w' A n (clsL d t) ∧ Below w.heap.size w w' :=
  (classes_f ht).mono fun _ _ ⟨A, n, c, h1, h2, h3, _⟩ => ⟨A, n, c, h1, h2, h3⟩
end Go.Proofs.Ytcggghamnmflcaa
