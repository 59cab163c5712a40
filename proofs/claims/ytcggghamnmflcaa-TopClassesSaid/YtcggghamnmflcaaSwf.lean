/- The walk of shape.compound where its head does not fit. -/
import Derived.Test.YtcggghamnmflcaaSwe
import Derived.WalkMore
namespace Go.Proofs.Ytcggghamnmflcaa
open Go Go.RowKit Go.Shelf
attribute [local go_sem] wide_fn
attribute [local go_sem] Oper.semAt_some

theorem bcell {W w1 : World} (hb : Below W.heap.size W w1) : (∀ b o, b < W.heap.size → w1.cell? ⟨b, o, none⟩ = W.cell? ⟨b, o, none⟩) ∧ (∀ b o, b < W.heap.size → w1.frozen? ⟨b, o, none⟩ = W.frozen? ⟨b, o, none⟩) :=
  ⟨fun b o h => hb.cell (p := ⟨b, o, none⟩) h, fun b o h => hb.frozen (p := ⟨b, o, none⟩) h⟩
theorem bel_set {w W : World} (h : Below w.heap.size w W) {p : Addr} (hp : w.heap.size ≤ p.block) (v : Value) : Below w.heap.size w (W.setCell p v) := h.setCell hp v
def mx (x y : Int) : Int := if x < y then y else x
theorem mx_eq (x y : Int) : mx x y = max x y := by unfold mx; split <;> omega
theorem mx2_int (k k' : IntKind) (x y : Int) : Builtin.max2 (.int k x) (.int k' y) = pure (.int k (mx x y)) := by simp only [Builtin.max2, gt_iff_lt, mx]
theorem mx_two (ats : Array TypeId) (ty : TypeId) (a b : Value) : Builtin.max_ ats ty #[a, b] = (Builtin.max2 a b >>= fun s => pure s) := by simp only [Builtin.max_, List.foldlM_cons, List.foldlM_nil]
attribute [local go_sem] mx2_int mx_two
set_option maxRecDepth 100000 in
theorem compound_no {d : Nat} (A1 A2 : Option Addr) (sh k n al : Int) (n1 c1 c2 : Nat) (pk : Bool) (l : List (Fld (Tp d))) (deep : Int) (w : World) (hc : l.length ≤ c2) (hm : c2 ≤ 9223372036854775807) (hc1 : n1 ≤ c1) (hF : FdsAt w d A2 l)
    (h : (k == 0 && (n == 0 && (decide (n1 = 0) && (isAlignS al && namedS (l.map Fld.nm))))) = false) :
    Calls Try.prog 108 #[.agg #[.int .i64 sh, .int .i64 k, .int .i64 n, .slice A1 n1 c1, .slice A2 l.length c2, .bool pk, .int .i64 al], .int .i64 deep] w fun e w' => e = .returned (.tuple #[.agg #[.int .i64 0, .int .i64 0, .slice none 0 0], .int .i64 100]) ∧ Below w.heap.size w w' := by
  cases h1 : (k == 0) with
  | false =>
    have g1 : (k != 0) = true := by simpa using h1
    clear h hF
    go_enter Try.func108, Try.ntmps108
    go_wp2
    go_step3
    go_wp2_with (first | (go_at_call 117; (with_reducible refine (isAlign_c _ _).mono ?_); rintro e w' ⟨rfl, rfl⟩; rw [HA.out]) | (go_at_call 118; refine (named_c A2 c2 l _ hc hm (hF.below (by repeat (first | exact Below.refl _ _ | apply bel_alloc)))).mono ?_; rintro e w' ⟨rfl, hb⟩; rw [HN.out]; obtain ⟨hcc, hff⟩ := bcell hb; have HB := Lib.hid hb; clear hb))
    rw [Exit.noGoto_ret]
    exact bodyPost_ret (v := .tuple #[.agg #[.int .i64 0, .int .i64 0, .slice none 0 0], .int .i64 100]) (by simp [results, Try.results108, go_sem]) rfl ⟨rfl, by repeat (first | exact Below.refl _ _ | apply bel_alloc)⟩
  | true =>
    obtain rfl : k = 0 := by simpa using h1
    cases h2 : (n == 0) with
    | false =>
      have g2 : (n != 0) = true := by simpa using h2
      clear h hF
      go_enter Try.func108, Try.ntmps108
      go_wp2
      go_step3
      go_wp2_with (first | (go_at_call 117; (with_reducible refine (isAlign_c _ _).mono ?_); rintro e w' ⟨rfl, rfl⟩; rw [HA.out]) | (go_at_call 118; refine (named_c A2 c2 l _ hc hm (hF.below (by repeat (first | exact Below.refl _ _ | apply bel_alloc)))).mono ?_; rintro e w' ⟨rfl, hb⟩; rw [HN.out]; obtain ⟨hcc, hff⟩ := bcell hb; have HB := Lib.hid hb; clear hb))
      rw [Exit.noGoto_ret]
      exact bodyPost_ret (v := .tuple #[.agg #[.int .i64 0, .int .i64 0, .slice none 0 0], .int .i64 100]) (by simp [results, Try.results108, go_sem]) rfl ⟨rfl, by repeat (first | exact Below.refl _ _ | apply bel_alloc)⟩
    | true =>
      obtain rfl : n = 0 := by simpa using h2
      by_cases h3 : n1 = 0
      · cases h4 : isAlignS al with
        | false =>
          have HA := Lib.hid h4
          clear h hF h4
          subst h3
          go_enter Try.func108, Try.ntmps108
          go_wp2
          go_step3
          go_wp2_with (first | (go_at_call 117; (with_reducible refine (isAlign_c _ _).mono ?_); rintro e w' ⟨rfl, rfl⟩; rw [HA.out]) | (go_at_call 118; refine (named_c A2 c2 l _ hc hm (hF.below (by repeat (first | exact Below.refl _ _ | apply bel_alloc)))).mono ?_; rintro e w' ⟨rfl, hb⟩; rw [HN.out]; obtain ⟨hcc, hff⟩ := bcell hb; have HB := Lib.hid hb; clear hb))
          rw [Exit.noGoto_ret]
          exact bodyPost_ret (v := .tuple #[.agg #[.int .i64 0, .int .i64 0, .slice none 0 0], .int .i64 100]) (by simp [results, Try.results108, go_sem]) rfl ⟨rfl, by repeat (first | exact Below.refl _ _ | apply bel_alloc)⟩
        | true =>
          have HA := Lib.hid h4
          have HN := Lib.hid (show namedS (l.map Fld.nm) = false by rw [h4, decide_eq_true h3] at h; simpa using h)
          clear h h4
          subst h3
          go_enter Try.func108, Try.ntmps108
          go_wp2
          go_step3
          go_wp2_with (first | (go_at_call 117; (with_reducible refine (isAlign_c _ _).mono ?_); rintro e w' ⟨rfl, rfl⟩; rw [HA.out]) | (go_at_call 118; refine (named_c A2 c2 l _ hc hm (hF.below (by repeat (first | exact Below.refl _ _ | apply bel_alloc)))).mono ?_; rintro e w' ⟨rfl, hb⟩; rw [HN.out]; obtain ⟨hcc, hff⟩ := bcell hb; have HB := Lib.hid hb; clear hb))
          rw [Exit.noGoto_ret]
          exact bodyPost_ret (v := .tuple #[.agg #[.int .i64 0, .int .i64 0, .slice none 0 0], .int .i64 100]) (by simp [results, Try.results108, go_sem, hcc]) rfl ⟨rfl, by repeat (first | exact bel_then (by repeat (first | exact Below.refl _ _ | apply bel_alloc)) HB.out | (refine bel_set ?_ (by simp; try omega) _) | apply bel_alloc)⟩
      · have h3' : 0 < n1 := by omega
        clear h hF
        go_enter Try.func108, Try.ntmps108
        go_wp2
        go_step3
        go_wp2_with (first | (go_at_call 117; (with_reducible refine (isAlign_c _ _).mono ?_); rintro e w' ⟨rfl, rfl⟩; rw [HA.out]) | (go_at_call 118; refine (named_c A2 c2 l _ hc hm (hF.below (by repeat (first | exact Below.refl _ _ | apply bel_alloc)))).mono ?_; rintro e w' ⟨rfl, hb⟩; rw [HN.out]; obtain ⟨hcc, hff⟩ := bcell hb; have HB := Lib.hid hb; clear hb))
        rw [Exit.noGoto_ret]
        exact bodyPost_ret (v := .tuple #[.agg #[.int .i64 0, .int .i64 0, .slice none 0 0], .int .i64 100]) (by simp [results, Try.results108, go_sem]) rfl ⟨rfl, by repeat (first | exact Below.refl _ _ | apply bel_alloc)⟩
end Go.Proofs.Ytcggghamnmflcaa
