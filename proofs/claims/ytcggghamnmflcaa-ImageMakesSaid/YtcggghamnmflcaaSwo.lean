/- The walk of shape.lie: what it answers, for whatever type, by the depth. -/
import Derived.Test.YtcggghamnmflcaaSwm
import Derived.Test.YtcggghamnmflcaaSwn
namespace Go.Proofs.Ytcggghamnmflcaa
open Go Go.RowKit Go.Shelf
def mn (x y : Int) : Int := if y < x then y else x
theorem mn2_int (k k' : IntKind) (x y : Int) : Builtin.min2 (.int k x) (.int k' y) = pure (.int k (mn x y)) := by simp only [Builtin.min2, mn]
theorem mn_two (ats : Array TypeId) (ty : TypeId) (a b : Value) : Builtin.min_ ats ty #[a, b] = (Builtin.min2 a b >>= fun s => pure s) := by simp only [Builtin.min_, List.foldlM_cons, List.foldlM_nil]
attribute [local go_sem] mn2_int mn_two
theorem results77 {tmps : Array Value} {W : World} {g : Nat} {a b c er : Value} (h4 : tmps.getD 4 undef = .pointer (some ⟨g, 0, none⟩)) (h5 : tmps.getD 5 undef = er) (h : Bk W g 99 #[a, b, c]) : (results Try.f77 tmps).run Try.prog W = .ok (.tuple #[.agg #[a, b, c], er]) W := by
  have c0 : W.cell? ⟨g, 0, none⟩ = some a := h.at_ (i := 0) rfl
  have c1 : W.cell? ⟨g, 1, none⟩ = some b := h.at_ (i := 1) rfl
  have c2 : W.cell? ⟨g, 2, none⟩ = some c := h.at_ (i := 2) rfl
  rw [Array.getD_eq_getD_getElem?] at h4 h5
  simp [results, Try.results77, go_sem, h4, h5, c0, c1, c2]
theorem empty_len {α : Type} (l : List α) : l.isEmpty = decide (l.length = 0) := by cases l <;> simp
theorem lie_int2 {d : Nat} {t : Nd (Tp d)} {deep k : Int} {w w' : World} (hk' : t.k = k) (hd : 1 ≤ deep) (hs : t.sh = 1) (hb : bareS t = true) (hk : 0 < ksize k) (hn : t.n = 0) (ho : t.of = []) (hw : Below w.heap.size w w') :
    LieP (d + 1) t deep w (.returned (.tuple #[.agg #[.int .i64 (ksize k), .int .i64 (ksize k), .slice none 0 0], .int .i64 0])) w' := by
  subst hk'; exact lie_int hd hs hb hk hn ho hw
theorem Spts.set_ {base : Nat} {w : World} {A : Option Addr} {n : Nat} {l : List Spt} (h : Spts base w A n l) {g : Nat} (hg : g < base) (k : Nat) (v : Value) : Spts base (w.setCell ⟨g, k, none⟩ v) A n l :=
  ⟨⟨h.1.1, fun i s hs => by
    obtain ⟨b, o, ha, c0, c1, c2⟩ := h.1.2 i s hs
    have hb := h.2 _ ha
    have e := Below.heap_setCell w ⟨g, k, none⟩ v b (by simp only at hb ⊢; omega)
    exact ⟨b, o, ha, (World.cell?_of_block e).trans c0, (World.cell?_of_block e).trans c1, (World.cell?_of_block e).trans c2⟩⟩, h.2⟩
theorem Spts.less {base base' : Nat} {w : World} {A : Option Addr} {n : Nat} {l : List Spt} (h : Spts base w A n l) (hb : base' ≤ base) : Spts base' w A n l := ⟨h.1, fun a ha => Nat.le_trans hb (h.2 a ha)⟩
theorem TyAt.fds {w : World} {d : Nat} {t : Nd (Tp d)} {v0 v1 v2 v3 v4 v5 v6 : Value} (h : TyAt w (d + 1) t [v0, v1, v2, v3, v4, v5, v6]) :
    ∃ (A1 A2 : Option Addr) (c1 c2 : Nat), v0 = .int .i64 t.sh ∧ v1 = .int .i64 t.k ∧ v2 = .int .i64 t.n ∧ v3 = .slice A1 t.of.length c1 ∧ v4 = .slice A2 t.fs.length c2 ∧ v5 = .bool t.pk ∧ v6 = .int .i64 t.al ∧ I64 t.sh ∧ I64 t.k ∧ I64 t.n ∧ I64 t.al ∧ t.of.length ≤ c1 ∧ t.fs.length ≤ c2 ∧ c1 ≤ 9223372036854775807 ∧ c2 ≤ 9223372036854775807 ∧
      (∀ i x, t.of[i]? = some x → ∃ b o xs, A1 = some ⟨b, o, none⟩ ∧ xs.length = 7 ∧ Row w b (o + i * 7) xs ∧ TyAt w d x xs) ∧ FdsAt w d A2 t.fs := by
  obtain ⟨A1, A2, c1, c2, e, b1, b2, b3, b4, l1, l2, m1, m2, h1, h2⟩ := h
  simp only [List.cons.injEq, and_true] at e
  obtain ⟨e0, e1, e2, e3, e4, e5, e6⟩ := e
  exact ⟨A1, A2, c1, c2, e0, e1, e2, e3, e4, e5, e6, b1, b2, b3, b4, l1, l2, m1, m2, h1, h2⟩
/-- compound, at a struct or a union. -/
theorem compound_c {d : Nat} (t : Nd (Tp d)) (deep : Int) (w : World) (A1 A2 : Option Addr) (c1 c2 : Nat) (hs : t.sh = 4 ∨ t.sh = 5) (hd : 1 ≤ deep) (hdq : deep ≤ 100) (hL : LieC (deep - 1)) (l1 : t.of.length ≤ c1) (l2 : t.fs.length ≤ c2) (m2 : c2 ≤ 9223372036854775807) (hF : FdsAt w d A2 t.fs) :
    Calls Try.prog 108 #[.agg #[.int .i64 t.sh, .int .i64 t.k, .int .i64 t.n, .slice A1 t.of.length c1, .slice A2 t.fs.length c2, .bool t.pk, .int .i64 t.al], .int .i64 deep] w (LieP (d + 1) t deep w) := by
  cases h : (t.k == 0 && (t.n == 0 && (decide (t.of.length = 0) && (isAlignS t.al && namedS (t.fs.map Fld.nm))))) with
  | false =>
    refine (compound_no A1 A2 t.sh t.k t.n t.al t.of.length c1 c2 t.pk t.fs deep w l2 m2 l1 hF h).mono fun e w' ⟨he, hb⟩ => ?_
    subst he
    refine lie_bad ?_ hb
    rw [plainS_cmp hs hd]
    have e : t.of.isEmpty = decide (t.of.length = 0) := by cases t.of <;> simp
    rw [e, Bool.and_assoc, Bool.and_assoc, Bool.and_assoc, Bool.and_assoc, ← Bool.and_assoc (isAlignS t.al), ← Bool.and_assoc (decide _), ← Bool.and_assoc (t.n == 0), ← Bool.and_assoc (t.k == 0), h, Bool.false_and]
  | true =>
    simp only [Bool.and_eq_true, beq_iff_eq, decide_eq_true_eq] at h
    obtain ⟨hk, hn, ho, ha, hnm⟩ := h
    have hlen : t.fs.length ≤ 40 := by
      have h' := hnm
      unfold namedS at h'
      simp only [Bool.and_eq_true, decide_eq_true_eq, List.length_map] at h'
      exact h'.2
    have := compound_yes A1 A2 t.sh t.al c1 c2 t.pk t.fs deep w l2 m2 hF hd hdq hL ha hnm hlen
    rw [hk, hn, ho]
    exact this.mono fun e w' h => cmp_law hs hd hk hn (List.eq_nil_of_length_eq_zero ho) ha hnm h
set_option maxRecDepth 100000 in
set_option maxHeartbeats 4000000 in
theorem lie_any (deep : Int) (hdq : deep ≤ 100) (hL : 1 ≤ deep → LieC (deep - 1)) : LieC deep := by
  intro d t v0 v1 v2 v3 v4 v5 v6 w ht
  cases d with
  | zero => exact nomatch t
  | succ d =>
    obtain ⟨A1, A2, c1, c2, rfl, rfl, rfl, rfl, rfl, rfl, rfl, b1, b2, b3, b4, l1, l2, m1, m2, h1, h2⟩ := ht.fds
    have HT := Lib.hid ht
    have HO := Lib.hid h1
    have HF := Lib.hid h2
    clear ht h1 h2
    show Calls Try.prog 77 _ w fun e w' => LieP (d + 1) t deep w e w'
    have HCM := fun (hs : Nd.sh t = 4 ∨ Nd.sh t = 5) (hd : 1 ≤ deep) (w' : World) (hb : Below w.heap.size w w') => compound_c t deep w' A1 A2 c1 c2 hs hd hdq (hL hd) l1 l2 m2 (HF.out.below hb)
    have HC := Lib.hid HCM
    clear HCM
    obtain ⟨nf, hnf⟩ : ∃ x, (Nd.fs t).length = x := ⟨_, rfl⟩
    obtain ⟨no, hno⟩ : ∃ x, (Nd.of t).length = x := ⟨_, rfl⟩
    obtain ⟨sh, hsh⟩ : ∃ x, Nd.sh t = x := ⟨_, rfl⟩
    obtain ⟨k, hk⟩ : ∃ x, Nd.k t = x := ⟨_, rfl⟩
    obtain ⟨n, hn⟩ : ∃ x, Nd.n t = x := ⟨_, rfl⟩
    obtain ⟨pk, hpk⟩ : ∃ x, Nd.pk t = x := ⟨_, rfl⟩
    obtain ⟨al, hal⟩ : ∃ x, Nd.al t = x := ⟨_, rfl⟩
    rw [hnf, hno, hsh, hk, hn, hpk, hal] at HC HT
    rw [hnf] at l2
    rw [hno] at l1
    rw [hsh] at b1; rw [hk] at b2; rw [hn] at b3; rw [hal] at b4
    rw [hnf, hno, hsh, hk, hn, hpk, hal]
    have HNF := Lib.hid hnf
    have HNO := Lib.hid hno
    have HSH := Lib.hid hsh
    have HK := Lib.hid hk
    have HN := Lib.hid hn
    have HBR := Lib.hid (show bareS t = (decide (nf = 0) && (!pk && al == 0)) by
      unfold bareS
      rw [hpk, hal, ← hnf, Bool.and_assoc]
      cases Nd.fs t <;> simp)
    clear hnf hno hsh hk hn hpk hal
    go_enter Try.func77, Try.ntmps77
    go_upto_region 1 with (fail)
    have hT : Bk ((w.alloc (.cells #[.int .i64 sh, .int .i64 k, .int .i64 n, .slice A1 no c1, .slice A2 nf c2, .bool pk, .int .i64 al] 38)).alloc (.cells #[.int .i64 0, .int .i64 0, .slice none 0 0] 99)) w.heap.size 38 #[.int .i64 sh, .int .i64 k, .int .i64 n, .slice A1 no c1, .slice A2 nf c2, .bool pk, .int .i64 al] := (Bk.new w _ _).alloc _
    have hR : Bk ((w.alloc (.cells #[.int .i64 sh, .int .i64 k, .int .i64 n, .slice A1 no c1, .slice A2 nf c2, .bool pk, .int .i64 al] 38)).alloc (.cells #[.int .i64 0, .int .i64 0, .slice none 0 0] 99)) (w.heap.size + 1) 99 #[.int .i64 0, .int .i64 0, .slice none 0 0] := Bk.new1 w _ _ _
    have hB : Below w.heap.size w ((w.alloc (.cells #[.int .i64 sh, .int .i64 k, .int .i64 n, .slice A1 no c1, .slice A2 nf c2, .bool pk, .int .i64 al] 38)).alloc (.cells #[.int .i64 0, .int .i64 0, .slice none 0 0] 99)) := bel_alloc (bel_alloc (Below.refl _ _) _) _
    generalize World.alloc _ _ = W at hT hR hB ⊢
    have q0 := hT.at_ (i := 0) rfl
    have q1 := hT.at_ (i := 1) rfl
    have q2 := hT.at_ (i := 2) rfl
    have q3 := hT.at_ (i := 3) rfl
    have q4 := hT.at_ (i := 4) rfl
    have q5 := hT.at_ (i := 5) rfl
    have q6 := hT.at_ (i := 6) rfl
    have z0 := hR.at_ (i := 0) rfl
    have z1 := hR.at_ (i := 1) rfl
    have z2 := hR.at_ (i := 2) rfl
    have f0 := hR.frozen 0
    have f1 := hR.frozen 1
    have f2 := hR.frozen 2
    have s1 := hT.lt
    have s2 := hR.lt
    go_cut [6] from 7 (fun s6 wx => s6 = .bool (decide (nf = 0) && (!pk && al == 0)) ∧ wx = W)
    case first =>
      cases nf with
      | succ nf =>
        go_wp2_with fail
        go_meet
        case rel => exact ⟨by simp, rfl⟩
      | zero =>
        cases pk with
        | true =>
          go_wp2_with fail
          go_meet
          case rel => exact ⟨rfl, rfl⟩
        | false =>
          go_wp2_with fail
          go_meet
          case rel => exact ⟨rfl, rfl⟩
    case rest =>
      obtain ⟨rfl, rfl⟩ := hcut
      obtain ⟨bare, hbare⟩ : ∃ x, (decide (nf = 0) && (!pk && al == 0)) = x := ⟨_, rfl⟩
      rw [hbare]
      have HB := Lib.hid (HBR.out.trans hbare)
      clear hbare
      by_cases hd : deep < 1
      · have HP := Lib.hid (show plainS (d + 1) t deep = false by show (if deep < 1 then false else _) = _; rw [if_pos hd])
        go_wp2_with fail
        exact bodyPost_ret (results77 (a := .int .i64 0) (b := .int .i64 0) (c := .slice none 0 0) (er := .int .i64 100) rfl rfl (((hR.set_ 0 _).set_ 1 _).set_ 2 _)) rfl (lie_bad HP.out (bel_set (bel_set (bel_set hB (by simp) _) (by simp) _) (by simp) _))
      · by_cases hs : sh = 4 ∨ sh = 5
        · rcases hs with rfl | rfl
          all_goals
            go_wp2_with (go_at_call 108; refine (HC.out (by simp) (by omega) _ hB).mono ?_; rintro e w1 ⟨x, rfl, hxe, hxb, hb1⟩; obtain ⟨xsz, xag, xA, xn, xc, xer, xok⟩ := x; have HXE := Lib.hid hxe; have HXB := Lib.hid hxb; have HB1 := Lib.hid hb1; have hR1 := hR.below hb1 hR.lt; clear hxe hxb hb1; have z0 := hR1.at_ (i := 0) rfl; have z1 := hR1.at_ (i := 1) rfl; have z2 := hR1.at_ (i := 2) rfl; have f0 := hR1.frozen 0; have f1 := hR1.frozen 1; have f2 := hR1.frozen 2)
            refine bodyPost_ret (results77 (a := .int .i64 xsz) (b := .int .i64 xag) (c := .slice xA xn xc) (er := .int .i64 xer) rfl rfl (((hR1.set_ 0 _).set_ 1 _).set_ 2 _)) rfl ⟨⟨xsz, xag, xA, xn, xc, xer, xok⟩, rfl, HXE.out, fun h0 b hb => ?_, bel_set (bel_set (bel_set (hB.trans (HB1.out.mono hB.size)) (by simp) _) (by simp) _) (by simp) _⟩
            obtain ⟨p1, p2, p3⟩ := HXB.out h0 b hb
            exact ⟨p1, p2, (((p3.set_ (by omega) _ _).set_ (by omega) _ _).set_ (by omega) _ _).less (by omega)⟩
        · have n4 : (sh == 4) = false := by simp; omega
          have n5 : (sh == 5) = false := by simp; omega
          have H4 := Lib.hid (show Nd.sh t ≠ 4 by rw [HSH.out]; omega)
          have H5 := Lib.hid (show Nd.sh t ≠ 5 by rw [HSH.out]; omega)
          clear hs
          cases bare with
          | false =>
            have HP := Lib.hid (plain_no (deep := deep) H4.out H5.out (.inl HB.out))
            go_wp2_with fail
            exact bodyPost_ret (results77 (a := .int .i64 0) (b := .int .i64 0) (c := .slice none 0 0) (er := .int .i64 100) rfl rfl (((hR.set_ 0 _).set_ 1 _).set_ 2 _)) rfl (lie_bad HP.out (bel_set (bel_set (bel_set hB (by simp) _) (by simp) _) (by simp) _))
          | true =>
            go_upto_region 6 with (fail)
            have IH := size_c k
            go_cut [44] from 45 (fun s44 wx => s44 = .bool (sh == 1 && (decide (0 < ksize k) && (n == 0 && decide (no = 0)))) ∧ wx = wc)
            case first =>
              cases e1 : (sh == 1) with
              | false =>
                go_wp2_with fail
                go_meet
                case rel => exact ⟨by rw [e1]; rfl, rfl⟩
              | true =>
                by_cases e2 : 0 < ksize k
                · cases e3 : (n == 0) with
                  | false =>
                    go_wp2_with (go_at_call 32; (with_reducible refine (size_c _ _).mono ?_); rintro e w' ⟨rfl, rfl⟩)
                    go_meet
                    case rel => exact ⟨by rw [e1, decide_eq_true e2, e3]; rfl, rfl⟩
                  | true =>
                    cases no with
                    | zero =>
                      go_wp2_with (go_at_call 32; (with_reducible refine (size_c _ _).mono ?_); rintro e w' ⟨rfl, rfl⟩)
                      go_meet
                      case rel => exact ⟨by rw [e1, decide_eq_true e2, e3]; rfl, rfl⟩
                    | succ no =>
                      go_wp2_with (go_at_call 32; (with_reducible refine (size_c _ _).mono ?_); rintro e w' ⟨rfl, rfl⟩)
                      go_meet
                      case rel => exact ⟨by rw [e1, decide_eq_true e2, e3]; simp; omega, rfl⟩
                · have e2' : decide (0 < ksize k) = false := decide_eq_false e2
                  go_wp2_with (go_at_call 32; (with_reducible refine (size_c _ _).mono ?_); rintro e w' ⟨rfl, rfl⟩)
                  go_meet
                  case rel => exact ⟨by rw [e1, decide_eq_false (show ¬ 0 < ksize k by omega)]; rfl, rfl⟩
            case rest =>
              obtain ⟨rfl, rfl⟩ := hcut
              cases b44 : (sh == 1 && (decide (0 < ksize k) && (n == 0 && decide (no = 0)))) with
              | true =>
                have hx := b44
                simp only [Bool.and_eq_true, beq_iff_eq, decide_eq_true_eq] at hx
                obtain ⟨rfl, g1, rfl, rfl⟩ := hx
                have G1 := Lib.hid g1
                clear b44 g1
                go_wp2_with (go_at_call 32; (with_reducible refine (size_c _ _).mono ?_); rintro e w' ⟨rfl, rfl⟩)
                exact bodyPost_ret (results77 (a := .int .i64 (ksize k)) (b := .int .i64 (ksize k)) (c := .slice none 0 0) (er := .int .i64 0) rfl rfl (((hR.set_ 0 _).set_ 1 _).set_ 2 _)) rfl (lie_int2 HK.out (by omega) HSH.out HB.out G1.out HN.out (List.eq_nil_of_length_eq_zero HNO.out) (bel_set (bel_set (bel_set hB (by simp) _) (by simp) _) (by simp) _))
              | false =>
                have H1 := Lib.hid b44
                clear b44
                go_upto_region 9 with (fail)
                go_cut [71] from 72 (fun s71 wx => s71 = .bool (sh == 2 && (k == 0 && (n == 0 && decide (no = 0)))) ∧ wx = wc)
                case first =>
                  cases e1 : (sh == 2) with
                  | false =>
                    go_wp2_with fail
                    go_meet
                    case rel => exact ⟨by rw [e1]; rfl, rfl⟩
                  | true =>
                    cases e2 : (k == 0) with
                    | false =>
                      go_wp2_with fail
                      go_meet
                      case rel => exact ⟨by rw [e1, e2]; rfl, rfl⟩
                    | true =>
                      cases e3 : (n == 0) with
                      | false =>
                        go_wp2_with fail
                        go_meet
                        case rel => exact ⟨by rw [e1, e2, e3]; rfl, rfl⟩
                      | true =>
                        cases no with
                        | zero =>
                          go_wp2_with fail
                          go_meet
                          case rel => exact ⟨by rw [e1, e2, e3]; rfl, rfl⟩
                        | succ no =>
                          go_wp2_with fail
                          go_meet
                          case rel => exact ⟨by rw [e1, e2, e3]; simp; omega, rfl⟩
                case rest =>
                  obtain ⟨rfl, rfl⟩ := hcut
                  cases b71 : (sh == 2 && (k == 0 && (n == 0 && decide (no = 0)))) with
                  | true =>
                    have hx := b71
                    simp only [Bool.and_eq_true, beq_iff_eq, decide_eq_true_eq] at hx
                    obtain ⟨rfl, rfl, rfl, rfl⟩ := hx
                    clear b71
                    go_wp2_with fail
                    exact bodyPost_ret (results77 (a := .int .i64 8) (b := .int .i64 8) (c := .slice none 0 0) (er := .int .i64 0) rfl rfl (((hR.set_ 0 _).set_ 1 _).set_ 2 _)) rfl (lie_ptr (by omega) HSH.out HB.out HK.out HN.out (List.eq_nil_of_length_eq_zero HNO.out) (bel_set (bel_set (bel_set hB (by simp) _) (by simp) _) (by simp) _))
                  | false =>
                    have H2 := Lib.hid b71
                    clear b71
                    go_upto_region 11 with (fail)
                    go_cut [92] from 93 (fun s92 wx => s92 = .bool (sh == 3 && (k == 0 && (decide (0 < n) && decide (no = 1)))) ∧ wx = wc)
                    case first =>
                      cases e1 : (sh == 3) with
                      | false =>
                        go_wp2_with fail
                        go_meet
                        case rel => exact ⟨by rw [e1]; rfl, rfl⟩
                      | true =>
                        cases e2 : (k == 0) with
                        | false =>
                          go_wp2_with fail
                          go_meet
                          case rel => exact ⟨by rw [e1, e2]; rfl, rfl⟩
                        | true =>
                          by_cases e3 : 0 < n
                          · by_cases e4 : no = 1
                            · subst e4
                              go_wp2_with fail
                              go_meet
                              case rel => exact ⟨by rw [e1, e2, decide_eq_true (show 0 < n by omega)]; rfl, rfl⟩
                            · have e4' : ((no : Int) == 1) = false := by simp; omega
                              go_wp2_with fail
                              go_meet
                              case rel => exact ⟨by rw [e1, e2, decide_eq_true (show 0 < n by omega), decide_eq_false (show ¬ no = 1 by omega)]; rfl, rfl⟩
                          · have e3' : decide (0 < n) = false := decide_eq_false e3
                            go_wp2_with fail
                            go_meet
                            case rel => exact ⟨by rw [e1, e2, decide_eq_false (show ¬ 0 < n by omega)]; rfl, rfl⟩
                    case rest =>
                      obtain ⟨rfl, rfl⟩ := hcut
                      cases b92 : (sh == 3 && (k == 0 && (decide (0 < n) && decide (no = 1)))) with
                      | false =>
                        have H3 := Lib.hid b92
                        clear b92
                        have HP := Lib.hid (show plainS (d + 1) t deep = false from plain_no H4.out H5.out (.inr ⟨by rw [HSH.out, HK.out, HN.out, empty_len, HNO.out]; exact H1.out, by rw [HSH.out, HK.out, HN.out, empty_len, HNO.out]; exact H2.out, by rw [HSH.out, HK.out, HN.out, HNO.out]; exact H3.out⟩))
                        go_wp2_with fail
                        exact bodyPost_ret (results77 (a := .int .i64 0) (b := .int .i64 0) (c := .slice none 0 0) (er := .int .i64 100) rfl rfl (((hR.set_ 0 _).set_ 1 _).set_ 2 _)) rfl (lie_bad HP.out (bel_set (bel_set (bel_set hB (by simp) _) (by simp) _) (by simp) _))
                      | true =>
                        have hx := b92
                        simp only [Bool.and_eq_true, beq_iff_eq, decide_eq_true_eq] at hx
                        obtain ⟨rfl, rfl, hn0, rfl⟩ := hx
                        clear b92
                        obtain ⟨x, hof⟩ : ∃ x, Nd.of t = [x] := List.length_eq_one_iff.1 HNO.out
                        obtain ⟨b, o, xs, rfl, hxl, hrow, hxt⟩ := HO.out 0 x (by rw [hof]; rfl)
                        have HOF := Lib.hid hof
                        clear hof
                        match xs, hxl with
                        | [y0, y1, y2, y3, y4, y5, y6], _ =>
                          have hrow' := hrow.below hB
                          have HXT := Lib.hid (hxt.below hB)
                          clear hxt hrow
                          have r0 := hrow' 0 _ rfl
                          have r1 := hrow' 1 _ rfl
                          have r2 := hrow' 2 _ rfl
                          have r3 := hrow' 3 _ rfl
                          have r4 := hrow' 4 _ rfl
                          have r5 := hrow' 5 _ rfl
                          have r6 := hrow' 6 _ rfl
                          simp only [Nat.zero_mul, Nat.add_zero] at r0 r1 r2 r3 r4 r5 r6
                          have HL := Lib.hid (hL (by omega))
                          clear hL hrow'
                          go_upto_region 13 with (go_at_call 77; refine (HL.out d x _ _ _ _ _ _ _ _ HXT.out).mono ?_; rintro e w1 ⟨y, rfl, hxe, hxb, hb1⟩; obtain ⟨xsz, xag, xA, xn, xc, xer, xok⟩ := y; have HXE := Lib.hid hxe; have HXB := Lib.hid hxb; have HB1 := Lib.hid hb1; have hR1 := hR.below hb1 hR.lt; have hT1 := hT.below hb1 hT.lt; clear hxe hxb hb1 r0 r1 r2 r3 r4 r5 r6 q0 q1 q2 q3 q4 q5 q6; have q2 := hT1.at_ (i := 2) rfl; have z0 := hR1.at_ (i := 0) rfl; have z1 := hR1.at_ (i := 1) rfl; have z2 := hR1.at_ (i := 2) rfl; have f0 := hR1.frozen 0; have f1 := hR1.frozen 1; have f2 := hR1.frozen 2; have s1 := hT1.lt; have s2 := hR1.lt)
                          have hY : Bk (w1.alloc (.cells #[.int .i64 xsz, .int .i64 xag, .slice xA xn xc] 99)) w1.heap.size 99 #[.int .i64 xsz, .int .i64 xag, .slice xA xn xc] := Bk.new w1 _ _
                          have hR2 := hR1.alloc (.cells #[.int .i64 xsz, .int .i64 xag, .slice xA xn xc] 99)
                          have hT2 := hT1.alloc (.cells #[.int .i64 xsz, .int .i64 xag, .slice xA xn xc] 99)
                          have hB2 : Below w.heap.size w (w1.alloc (.cells #[.int .i64 xsz, .int .i64 xag, .slice xA xn xc] 99)) := bel_then hB (bel_alloc HB1.out _)
                          generalize World.alloc w1 _ = W2 at hY hR2 hT2 hB2 ⊢
                          clear q2 z0 z1 z2 f0 f1 f2 s1 s2 hR1 hT1 hR hT
                          have q2 := hT2.at_ (i := 2) rfl
                          have y0' := hY.at_ (i := 0) rfl
                          have y1' := hY.at_ (i := 1) rfl
                          have z0 := hR2.at_ (i := 0) rfl
                          have z1 := hR2.at_ (i := 1) rfl
                          have z2 := hR2.at_ (i := 2) rfl
                          have f0 := hR2.frozen 0
                          have f1 := hR2.frozen 1
                          have f2 := hR2.frozen 2
                          have hF : ∀ (sz er : Int), er = (if xer = 0 ∧ (65536 < n ∨ 65536 < xsz * n) then 101 else xer) → (xer = 0 → n ≤ 65536 → xsz * n ≤ 65536 → sz = xsz * n) → ∀ w', Below w.heap.size w w' → LieP (d + 1) t deep w (.returned (.tuple #[.agg #[.int .i64 sz, .int .i64 xag, .slice none 0 0], .int .i64 er])) w' := fun sz er he hz w' hw => by
                            have := lie_arr (d := d) (t := t) (x := x) (deep := deep) (w := w) (w' := w') (y := ⟨xsz, xag, xA, xn, xc, xer, xok⟩) (sz := sz) (by omega) HSH.out HB.out HK.out (by rw [HN.out]; exact hn0) HOF.out HXE.out (fun h b hb => ⟨(HXB.out h b hb).1, (HXB.out h b hb).2.1⟩) (by rw [HN.out]; exact hz) hw
                            rw [HN.out] at this
                            rw [he]
                            exact this
                          have HFF := Lib.hid hF
                          clear hF
                          rcases xok with ⟨rfl, k1, k2, k3, k4⟩ | rfl | rfl
                          · by_cases hb1 : 65536 < n
                            · have HE := Lib.hid (show (101 : Int) = (if (0 : Int) = 0 ∧ (65536 < n ∨ 65536 < xsz * n) then 101 else 0) by rw [if_pos ⟨rfl, .inl hb1⟩])
                              go_wp2_with fail
                              exact bodyPost_ret (results77 rfl rfl (((hR2.set_ 0 _).set_ 1 _).set_ 2 _)) rfl (HFF.out _ _ HE.out (fun _ h _ => by omega) _ (bel_set (bel_set (bel_set hB2 (by simp) _) (by simp) _) (by simp) _))
                            · have hp1 : 0 ≤ xsz * n := Int.mul_nonneg (by omega) (by omega)
                              have hp2 : xsz * n ≤ 65536 * 65536 := Int.mul_le_mul k2 (by omega) (by omega) (by omega)
                              have HM := Lib.hid (show mn n 65536 = n by unfold mn; split <;> omega)
                              by_cases hb2 : 65536 < xsz * n
                              · have HE := Lib.hid (show (101 : Int) = (if (0 : Int) = 0 ∧ (65536 < n ∨ 65536 < xsz * n) then 101 else 0) by rw [if_pos ⟨rfl, .inr hb2⟩])
                                go_wp2_with fail
                                exact bodyPost_ret (results77 rfl rfl (((hR2.set_ 0 _).set_ 1 _).set_ 2 _)) rfl (HFF.out _ _ HE.out (fun _ _ h => by omega) _ (bel_set (bel_set (bel_set hB2 (by simp) _) (by simp) _) (by simp) _))
                              · have HE := Lib.hid (show (0 : Int) = (if (0 : Int) = 0 ∧ (65536 < n ∨ 65536 < xsz * n) then 101 else 0) by rw [if_neg (fun h => by omega)])
                                go_wp2_with fail
                                exact bodyPost_ret (results77 rfl rfl (((hR2.set_ 0 _).set_ 1 _).set_ 2 _)) rfl (HFF.out _ _ HE.out (fun _ _ _ => by rw [HM.out]; exact wrap64_id (by omega) (by omega)) _ (bel_set (bel_set (bel_set hB2 (by simp) _) (by simp) _) (by simp) _))
                          · have HE := Lib.hid (show (100 : Int) = (if (100 : Int) = 0 ∧ (65536 < n ∨ 65536 < xsz * n) then 101 else 100) by rw [if_neg (fun h => by omega)])
                            go_wp2_with fail
                            exact bodyPost_ret (results77 rfl rfl (((hR2.set_ 0 _).set_ 1 _).set_ 2 _)) rfl (HFF.out _ _ HE.out (fun h => by omega) _ (bel_set (bel_set (bel_set hB2 (by simp) _) (by simp) _) (by simp) _))
                          · have HE := Lib.hid (show (101 : Int) = (if (101 : Int) = 0 ∧ (65536 < n ∨ 65536 < xsz * n) then 101 else 101) by rw [if_neg (fun h => by omega)])
                            go_wp2_with fail
                            exact bodyPost_ret (results77 rfl rfl (((hR2.set_ 0 _).set_ 1 _).set_ 2 _)) rfl (HFF.out _ _ HE.out (fun h => by omega) _ (bel_set (bel_set (bel_set hB2 (by simp) _) (by simp) _) (by simp) _))
/-- lie, at whatever depth that the program asks. -/
theorem lie_c (deep : Nat) (h : deep ≤ 100) : LieC deep := by
  induction deep with
  | zero => exact lie_any 0 (by omega) (fun h => by omega)
  | succ m ih => exact lie_any _ (by omega) (fun _ => by rw [show ((m + 1 : Nat) : Int) - 1 = (m : Int) by omega]; exact ih (by omega))
end Go.Proofs.Ytcggghamnmflcaa
