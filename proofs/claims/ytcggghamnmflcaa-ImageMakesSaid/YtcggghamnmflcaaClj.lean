/- Pass: where arguments are handed over. -/
import Derived.Test.YtcggghamnmflcaaCli
import Derived.Test.YtcggghamnmflcaaSsb
import Derived.BigQuiet
namespace Go.Proofs.Ytcggghamnmflcaa
open Go Go.RowKit Go.Shelf
theorem plwC_get {L : List Plw} {i : Nat} {s : Plw} (hs : L[i]? = some s) : (plwC L)[i * 4]? = some (.int .i64 s.arg) ∧ (plwC L)[i * 4 + 1]? = some (.int .i64 s.eight) ∧ (plwC L)[i * 4 + 2]? = some (.int .i64 s.reg) ∧ (plwC L)[i * 4 + 3]? = some (.int .i64 s.off) := by
  induction L generalizing i with
  | nil => simp at hs
  | cons a L ih =>
    cases i with
    | zero =>
      obtain rfl : a = s := by simpa using hs
      exact ⟨rfl, rfl, rfl, rfl⟩
    | succ i =>
      have h := ih (i := i) (by simpa using hs)
      rw [show (i + 1) * 4 = i * 4 + 1 + 1 + 1 + 1 by omega, show i * 4 + 1 + 1 + 1 + 1 + 1 = (i * 4 + 1) + 1 + 1 + 1 + 1 by omega, show i * 4 + 1 + 1 + 1 + 1 + 2 = (i * 4 + 2) + 1 + 1 + 1 + 1 by omega, show i * 4 + 1 + 1 + 1 + 1 + 3 = (i * 4 + 3) + 1 + 1 + 1 + 1 by omega]
      exact h
theorem plws_of_row {W : World} {base : Nat} {A : Option Addr} {n c : Nat} {L : List Plw} (h : W.ownsRow base 87 4 (.slice A n c) L.length (plwC L)) (hn : n = L.length) : PlwsAt W A n L := by
  refine ⟨hn, fun i s hs => ?_⟩
  obtain ⟨e0, e1, e2, e3⟩ := plwC_get hs
  rcases h.2 with ⟨h1, h2⟩ | ⟨g, cap, cur, h1, _⟩
  · injection h1 with a1 a2 a3
    subst a2
    rw [List.length_eq_zero_iff.1 hn.symm] at hs
    simp at hs
  · injection h1 with a1 a2 a3
    subst a1
    have hc := fun j u hu => h.cells (g := g) rfl j u hu
    have hz : ∀ j : Nat, ((⟨g, 0, none⟩ : Addr).add j) = ⟨g, 0 + j, none⟩ := fun j => add_off _ rfl j
    refine ⟨g, 0, rfl, ?_, ?_, ?_, ?_⟩
    · have := hc _ _ e0; rw [hz] at this; exact this
    · have := hc _ _ e1; rw [hz] at this; exact this
    · have := hc _ _ e2; rw [hz] at this; exact this
    · have := hc _ _ e3; rw [hz] at this; exact this
set_option maxRecDepth 100000 in
set_option maxHeartbeats 4000000 in
theorem pass_f {d d' : Nat} (ts : List (Tp d)) (A : Option Addr) (c : Nat) (rt : Tp d') (rv0 rv1 rv2 rv3 rv4 rv5 rv6 : Value) (w : World) (hT : TysAt w d A ts) (hl : ts.length ≤ 9223372036854775807) (hR : TyAt w d' rt [rv0, rv1, rv2, rv3, rv4, rv5, rv6]) :
    Calls Try.prog 67 #[.slice A ts.length c, .agg #[rv0, rv1, rv2, rv3, rv4, rv5, rv6]] w fun e w' => ∃ (B : Option Addr) (n c' : Nat), e = .returned (.tuple #[.slice B n c', .int .i64 (passN d d' ts rt), .int .i64 (passE d d' ts rt)]) ∧ PlwsAt w' B n (passL d d' ts rt) ∧ Below w.heap.size w w' ∧ n ≤ c' := by
  obtain ⟨pE, hE⟩ : ∃ x, passE d d' ts rt = x := ⟨_, rfl⟩
  rw [hE]
  have HE := Lib.hid hE
  obtain ⟨pL, hL⟩ : ∃ x, passL d d' ts rt = x := ⟨_, rfl⟩
  obtain ⟨pN, hN⟩ : ∃ x, passN d d' ts rt = x := ⟨_, rfl⟩
  rw [hL, hN]
  have HPL := Lib.hid hL
  have HPN := Lib.hid hN
  clear hE hL hN
  by_cases h16 : 16 < ts.length
  · obtain rfl : pE = 2 := by rw [← HE.out]; unfold passE; rw [if_pos h16]
    obtain rfl : pL = [] := HPL.out.symm.trans (passL_0 HE.out (by decide)).1
    obtain rfl : pN = 0 := HPN.out.symm.trans (passL_0 HE.out (by decide)).2
    clear hT hR
    go_enter Try.func67, Try.ntmps67
    go_wp2_with fail
    go_ret3
    exact ⟨none, 0, 0, rfl, ⟨rfl, fun i s hs => by simp at hs⟩, bel_alloc (Below.refl _ _) _, Nat.le_refl _⟩
  · have HT := Lib.hid hT
    have HR := Lib.hid hR
    clear hT hR hl
    go_enter Try.func67, Try.ntmps67
    go_wp2_with fail
    have hT1 := Bk.new w 38 #[rv0, rv1, rv2, rv3, rv4, rv5, rv6]
    have hb1 := bel_alloc (Below.refl _ w) (.cells #[rv0, rv1, rv2, rv3, rv4, rv5, rv6] 38)
    generalize World.alloc w _ = W1 at hT1 hb1 ⊢
    have HB1 := Lib.hid hb1
    clear hb1
    go_loopw [20] (fun s20 wr => ∃ j : Nat, j ≤ ts.length ∧ s20 = .int .i64 j ∧ (∀ x ∈ ts.take j, clsE d x = 0) ∧ Below W1.heap.size W1 wr) (fun i _ => ts.length - (intOf i).toNat)
    case atStart => exact ⟨0, Nat.zero_le _, rfl, fun x hx => by simp at hx, Below.refl _ _⟩
    case round =>
      obtain ⟨j, hj, rfl, hz, hb⟩ := hrel
      have HZ := Lib.hid hz
      have HB := Lib.hid hb
      clear hz
      by_cases hlt : j < ts.length
      · obtain ⟨t, ht⟩ : ∃ t, ts[j]? = some t := ⟨_, List.getElem?_eq_getElem hlt⟩
        obtain ⟨b, o, v0, v1, v2, v3, v4, v5, v6, rfl, hty, p0, p1, p2, p3, p4, p5, p6⟩ := (HT.out.below (bel_then HB1.out hb)).at_ ht
        obtain ⟨n0, A1, A2, n1, n2, c1, c2, pk, al, hcs⟩ := hty.form
        simp only [List.cons.injEq, and_true] at hcs
        obtain ⟨rfl, rfl, rfl, rfl, rfl, rfl, rfl⟩ := hcs
        obtain ⟨sh, hsh⟩ : ∃ x, tsh d t = x := ⟨_, rfl⟩
        obtain ⟨tk0, hk⟩ : ∃ x, tk d t = x := ⟨_, rfl⟩
        rw [hsh, hk] at hty
        rw [hsh] at p0
        rw [hk] at p1
        have HTY := Lib.hid hty
        have HTT := Lib.hid ht
        clear hty ht hb hsh hk
        go_wp2_with fail
        have g8 := Bk.new wr 38 #[.int .i64 sh, .int .i64 tk0, .int .i64 n0, .slice A1 n1 c1, .slice A2 n2 c2, .bool pk, .int .i64 al]
        have hb2 := bel_alloc (Below.refl _ wr) (.cells #[.int .i64 sh, .int .i64 tk0, .int .i64 n0, .slice A1 n1 c1, .slice A2 n2 c2, .bool pk, .int .i64 al] 38)
        generalize World.alloc wr _ = W2 at g8 hb2 ⊢
        have HX := Lib.hid (classes_c (HTY.out.below hb2))
        have HB2 := Lib.hid (bel_then HB.out hb2)
        clear hb2 p0 p1 p2 p3 p4 p5 p6
        have t0 := g8.at_ (i := 0) rfl; have t1 := g8.at_ (i := 1) rfl; have t2 := g8.at_ (i := 2) rfl; have t3 := g8.at_ (i := 3) rfl; have t4 := g8.at_ (i := 4) rfl; have t5 := g8.at_ (i := 5) rfl; have t6 := g8.at_ (i := 6) rfl
        go_wp2_with fail
        refine HX.out.mono ?_
        rintro e w3 ⟨C, cn, cc, rfl, -, hb3⟩
        have HB3 := Lib.hid (bel_then HB2.out hb3)
        clear hb3 t0 t1 t2 t3 t4 t5 t6
        obtain ⟨ce, hce⟩ : ∃ x, clsE d t = x := ⟨_, rfl⟩
        rw [hce]
        have HCE := Lib.hid hce
        clear hce
        by_cases hc : ce = 0
        · subst hc
          go_wp2_with fail
          go_roundw
          case rel => exact ⟨j + 1, by omega, by go_num, take_z HTT.out HCE.out HZ.out, HB3.out⟩
          case measure => simp [intOf]; omega
        · have hn : (ce != 0) = true := by simpa using hc
          obtain rfl : pE = ce := by
            rw [← HE.out, ← HCE.out]
            unfold passE
            rw [if_neg h16, firstE_at (by rw [HCE.out]; exact hc) HTT.out HZ.out, if_pos (by rw [HCE.out]; exact hc)]
          obtain rfl : pL = [] := HPL.out.symm.trans (passL_0 HE.out hc).1
          obtain rfl : pN = 0 := HPN.out.symm.trans (passL_0 HE.out hc).2
          go_wp2_with fail
          go_ret3
          exact ⟨none, 0, 0, rfl, ⟨rfl, fun i s hs => by simp at hs⟩, bel_then HB1.out HB3.out, Nat.le_refl _⟩
      · have hje : ts.length ≤ j := by omega
        have HZA := Lib.hid (show ∀ x ∈ ts, clsE d x = 0 by have := HZ.out; rwa [List.take_of_length_le hje] at this)
        replace hT1 := hT1.below hb hT1.lt
        have HBW := Lib.hid (bel_then HB1.out hb)
        clear hb HB HZ
        have t0 := hT1.at_ (i := 0) rfl; have t1 := hT1.at_ (i := 1) rfl; have t2 := hT1.at_ (i := 2) rfl; have t3 := hT1.at_ (i := 3) rfl; have t4 := hT1.at_ (i := 4) rfl; have t5 := hT1.at_ (i := 5) rfl; have t6 := hT1.at_ (i := 6) rfl
        go_upto_region 11 with (fail)
        have hb2 := bel_alloc (Below.refl _ wr) (.cells #[.slice none 0 0, .int .i64 0, .int .i64 0, .slice A ts.length c] 141)
        have hI : HndI wr wr.heap.size A ts.length c [] 0 0 none 0 (wr.alloc (.cells #[.slice none 0 0, .int .i64 0, .int .i64 0, .slice A ts.length c] 141)) := ⟨Bk.new wr 141 _, World.ownsRow_nil _ _ _ _, hb2, Nat.le_refl _⟩
        replace hT1 := hT1.below hb2 hT1.lt
        generalize World.alloc wr _ = W2 at hT1 hb2 hI ⊢
        clear t0 t1 t2 t3 t4 t5 t6
        have t0 := hT1.at_ (i := 0) rfl; have t1 := hT1.at_ (i := 1) rfl; have t2 := hT1.at_ (i := 2) rfl; have t3 := hT1.at_ (i := 3) rfl; have t4 := hT1.at_ (i := 4) rfl; have t5 := hT1.at_ (i := 5) rfl; have t6 := hT1.at_ (i := 6) rfl
        have HI2 := Lib.hid hI
        have HB2 := Lib.hid hb2
        clear hI hb2
        go_wp2_with fail
        refine (same_c _ _ rt emptyT rv0 rv1 rv2 rv3 rv4 rv5 rv6 _ _ _ _ _ _ _ W2 (HR.out.below (bel_then HBW.out HB2.out)) (emptyT_at _)).mono ?_
        rintro e W3 ⟨rfl, hb3⟩
        have HI3 := Lib.hid (HI2.out.below hb3)
        have HB3 := Lib.hid (bel_then HB2.out hb3)
        replace hT1 := hT1.below hb3 hT1.lt
        clear hb3 t0 t1 t2 t3 t4 t5 t6
        have t0 := hT1.at_ (i := 0) rfl; have t1 := hT1.at_ (i := 1) rfl; have t2 := hT1.at_ (i := 2) rfl; have t3 := hT1.at_ (i := 3) rfl; have t4 := hT1.at_ (i := 4) rfl; have t5 := hT1.at_ (i := 5) rfl; have t6 := hT1.at_ (i := 6) rfl
        have HF0 := Lib.hid (firstE_0 HZA.out)
        obtain ⟨nr, hnr⟩ : ∃ x, sameS d' 1 rt emptyT = x := ⟨_, rfl⟩
        rw [hnr]
        have HNR := Lib.hid (show noneR d' rt = nr from hnr)
        clear hnr
        go_upto_if 39 with (fail)
        go_cut [] from 36 (fun wc => pE = 0 ∧ ∃ (S : Option Addr) (sc : Nat), HndI wr wr.heap.size A ts.length c (start0 d' rt).l (start0 d' rt).r (start0 d' rt).top S sc wc)
        case first =>
          cases nr with
          | true =>
            go_wp2_with fail
            go_meet
            case rel =>
              refine ⟨?_, none, 0, ?_⟩
              · rw [← HE.out]
                unfold passE
                rw [if_neg h16, HF0.out, if_neg (by decide), if_pos HNR.out]
              · have : start0 d' rt = ⟨[], 0, 0⟩ := by unfold start0; rw [if_neg (by rw [HNR.out]; simp)]
                rw [this]
                exact HI3.out
          | false =>
            have HX := Lib.hid (classes_c (HR.out.below (bel_then HBW.out HB3.out)))
            go_wp2_with fail
            refine HX.out.mono ?_
            rintro e W4 ⟨C, cn, cc, rfl, hC, hb4⟩
            have HI4 := Lib.hid (HI3.out.below hb4)
            have HB4 := Lib.hid (bel_then HB3.out hb4)
            have HC := Lib.hid hC
            clear hb4 hC t0 t1 t2 t3 t4 t5 t6
            obtain ⟨ce, hce⟩ : ∃ x, clsE d' rt = x := ⟨_, rfl⟩
            rw [hce]
            have HCE := Lib.hid hce
            clear hce
            obtain rfl : pE = ce := by
              rw [← HE.out, ← HCE.out]
              unfold passE
              rw [if_neg h16, HF0.out, if_neg (by decide), if_neg (by rw [HNR.out]; decide)]
            by_cases hc : pE = 0
            · subst hc
              obtain ⟨hl1, hl2⟩ := cls_len HCE.out
              obtain ⟨f0, hf0⟩ : ∃ f0, (clsL d' rt)[0]? = some f0 := ⟨_, List.getElem?_eq_getElem (by omega)⟩
              obtain ⟨cb, co, rfl, x0⟩ := HC.out.2 0 f0 hf0
              have hcn : cn = (clsL d' rt).length := HC.out.1
              have hn1 : 1 ≤ cn := by omega
              simp only [Nat.add_zero] at x0
              have HF := Lib.hid hf0
              clear hf0 hcn
              by_cases h2 : f0 = 2
              · subst h2
                have q0 : W4.cell? ⟨wr.heap.size, 0, none⟩ = some (.slice none 0 0) := HI4.out.h.at_ (i := 0) rfl
                have r0 := HI4.out.h.frozen 0
                have hrow : W4.ownsRow wr.heap.size 87 4 (.slice none 0 0) 0 [] := HI4.out.row
                have hwl := HI4.out.bel.size
                obtain ⟨i0, hi0, hz0', hz1', hz2'⟩ := info_parts info87
                go_wp2_with (at_builtin; refine wpList_append_own _ rfl (.tmp 57) (.tmp 59) 81 rfl wr.heap.size 87 i0 _ 4 32 Try.underlying81 hi0 hz0' hz1' hz2' rfl (by decide) (.slice none 0 0) 0 [] rfl (hrow.alloc _) ⟨W4.heap.size, 0, none⟩ 1 1 [.int .i64 (-1), .int .i64 0, .int .i64 0, .int .i64 0] rfl rfl (new_cells _ _ _) (by simp [Value.oneCell']) (by unfold maxLen; omega) (by omega) (by rw [World.size_alloc]; omega) ?_; intro v' w7 hown' hgrow _; obtain ⟨g', cap', rfl⟩ := ownsRow_succ hown'; have HOWN := Lib.hid hown'; have HGR := Lib.hid hgrow; have k0 := ((HI4.out.h.alloc (.cells #[.int .i64 (-1), .int .i64 0, .int .i64 0, .int .i64 0] 87)).grown hgrow (HI4.out.h.ne_row87 (by decide) HI4.out.row)).at_ (i := 0) rfl; have k1 := ((HI4.out.h.alloc (.cells #[.int .i64 (-1), .int .i64 0, .int .i64 0, .int .i64 0] 87)).grown hgrow (HI4.out.h.ne_row87 (by decide) HI4.out.row)).frozen 0; have k2 := ((HI4.out.h.alloc (.cells #[.int .i64 (-1), .int .i64 0, .int .i64 0, .int .i64 0] 87)).grown hgrow (HI4.out.h.ne_row87 (by decide) HI4.out.row)).at_ (i := 1) rfl; have k3 := ((HI4.out.h.alloc (.cells #[.int .i64 (-1), .int .i64 0, .int .i64 0, .int .i64 0] 87)).grown hgrow (HI4.out.h.ne_row87 (by decide) HI4.out.row)).frozen 1; clear hown' hgrow)
                go_meet
                case rel =>
                  refine ⟨by first | trivial | rfl, some ⟨g', 0, none⟩, cap', ?_⟩
                  have : start0 d' rt = ⟨[⟨-1, 0, 0, 0⟩], 1, 0⟩ := by unfold start0; rw [if_pos ⟨HNR.out, HF.out⟩]
                  rw [this]
                  exact (hnd_step (x := ⟨-1, 0, 0, 0⟩) HI4.out (Below.refl _ _) HOWN.out HGR.out).setR 1
              · have hf2 : (f0 == 2) = false := by simpa using h2
                go_wp2_with fail
                go_meet
                case rel =>
                  refine ⟨by first | trivial | rfl, none, 0, ?_⟩
                  have : start0 d' rt = ⟨[], 0, 0⟩ := by unfold start0; rw [if_neg (by rw [HF.out]; simp [h2])]
                  rw [this]
                  exact HI4.out
            · have hn : (pE != 0) = true := by simpa using hc
              obtain rfl : pL = [] := HPL.out.symm.trans (passL_0 HE.out hc).1
              obtain rfl : pN = 0 := HPN.out.symm.trans (passL_0 HE.out hc).2
              go_wp2_with fail
              go_ret3
              exact ⟨none, 0, 0, rfl, ⟨rfl, fun i s hs => by simp at hs⟩, bel_then HBW.out HB4.out, Nat.le_refl _⟩
        case rest =>
          obtain ⟨rfl, S, sc, hI⟩ := hcut
          have hy1 := HPL.out.symm.trans (passL_1 HE.out).1
          have hy2 := HPN.out.symm.trans (passL_1 HE.out).2
          clear t0 t1 t2 t3 t4 t5 t6 hT1
          obtain ⟨st, hst⟩ : ∃ st, start0 d' rt = st := ⟨_, rfl⟩
          rw [hst] at hI hy1 hy2
          have HY1 := Lib.hid hy1
          have HY2 := Lib.hid hy2
          clear hy1 hy2
          have hst0 : 0 ≤ st.r ∧ st.r ≤ 1 ∧ st.top = 0 ∧ st.l.length ≤ 1 := by
            rw [← hst]
            unfold start0
            split <;> simp
          clear hst
          have HRUN := Lib.hid (runP_ok st HZA.out (by omega) (by omega) (by omega))
          have HI := Lib.hid hI
          clear hI
          obtain ⟨wo, rfl⟩ : ∃ wo : World, wo = wr := ⟨_, rfl⟩
          go_wp2_with fail
          go_loopw [67] (fun s67 wx => ∃ j : Nat, j ≤ ts.length ∧ s67 = .int .i64 j ∧ ∃ (S : Option Addr) (sc : Nat), HndI wo wo.heap.size A ts.length c (runP d st ts j).l (runP d st ts j).r (runP d st ts j).top S sc wx) (fun i _ => ts.length - (intOf i).toNat)
          case atStart => exact ⟨0, Nat.zero_le _, rfl, S, sc, HI.out⟩
          case round =>
            obtain ⟨j, hj, rfl, S', sc', hI'⟩ := hrel
            have HI' := Lib.hid hI'
            clear hI'
            by_cases hlt : j < ts.length
            · obtain ⟨t, ht⟩ : ∃ t, ts[j]? = some t := ⟨_, List.getElem?_eq_getElem hlt⟩
              obtain ⟨z0, z1, z2, z3, z4⟩ := HRUN.out j
              have HO := Lib.hid (over_c wo wo.heap.size A c ts _ _ _ S' sc' _ j t ht (HT.out.below HBW.out) (by omega) HI'.out z0 z1 z2 (by omega) (HZA.out t (List.mem_of_getElem? ht)) (by omega))
              have HN := Lib.hid (runP_next (s := st) ht)
              clear ht z0 z1 z2 z3 z4
              go_wp2_with fail
              refine HO.out.mono ?_
              rintro e wx ⟨⟨v, rfl⟩, S2, sc2, hI2⟩
              have HI2 := Lib.hid hI2
              clear hI2
              go_wp2_with fail
              go_roundw
              case rel =>
                refine ⟨j + 1, by omega, by go_num, S2, sc2, ?_⟩
                rw [HN.out]
                exact HI2.out
              case measure => simp [intOf]; omega
            · have hje : j = ts.length := by omega
              subst hje
              obtain ⟨z0, z1, z2, z3, z4⟩ := HRUN.out ts.length
              obtain ⟨L, hL⟩ : ∃ L, (runP d st ts ts.length).l = L := ⟨_, rfl⟩
              obtain ⟨T, hTT⟩ : ∃ L, (runP d st ts ts.length).top = L := ⟨_, rfl⟩
              obtain ⟨R, hRR⟩ : ∃ L, (runP d st ts ts.length).r = L := ⟨_, rfl⟩
              have hI' := HI'.out
              rw [hL, hTT, hRR] at hI'
              obtain rfl : pL = L := HY1.out.trans hL
              obtain rfl : pN = upS T 16 := by rw [HY2.out, hTT]
              rw [hTT] at z2 z3
              clear hL hTT hRR z0 z1 z4 HRUN HI' HY1 HY2
              have q0 := hI'.h.at_ (i := 0) rfl
              have q2 := hI'.h.at_ (i := 2) rfl
              have HI' := Lib.hid hI'
              clear hI'
              have HU := Lib.hid (fun w' n => cup_q T 16 w' n z2 (by omega) (by omega) (by omega))
              go_wp2_with fail
              go_quiet ((go_at_call 102; exact HU.out _ _))
              go_wp2_with fail
              go_ret3
              exact ⟨S', _, sc', rfl, plws_of_row (HI'.out.row.kept (grown_none (bel_drewN (Below.refl _ _) _)) (by cases (Value.slice S' (List.length pL) sc').ownBlock <;> simp)) rfl, bel_then HBW.out (bel_drewN HI'.out.bel _), by
                rcases HI'.out.row.2 with ⟨h1, h2⟩ | ⟨g, cap, _, h1, _, _, h3, _⟩
                · rw [h2]; exact Nat.zero_le _
                · injection h1 with _ _ h4
                  omega⟩
theorem pass_c {d d' : Nat} (ts : List (Tp d)) (A : Option Addr) (c : Nat) (rt : Tp d') (rv0 rv1 rv2 rv3 rv4 rv5 rv6 : Value) (w : World) (hT : TysAt w d A ts) (hl : ts.length ≤ 9223372036854775807) (hR : TyAt w d' rt [rv0, rv1, rv2, rv3, rv4, rv5, rv6]) :
    Calls Try.prog 67 #[.slice A ts.length c, .agg #[rv0, rv1, rv2, rv3, rv4, rv5, rv6]] w fun e w' => ∃ (B : Option Addr) (n c' : Nat), e = .returned (.tuple #[.slice B n c', .int .i64 (passN d d' ts rt), .int .i64 (passE d d' ts rt)]) ∧ PlwsAt w' B n (passL d d' ts rt) ∧ Below w.heap.size w w' :=
  (pass_f ts A c rt rv0 rv1 rv2 rv3 rv4 rv5 rv6 w hT hl hR).mono fun _ _ ⟨B, n, c', h1, h2, h3, _⟩ => ⟨B, n, c', h1, h2, h3⟩
end Go.Proofs.Ytcggghamnmflcaa
