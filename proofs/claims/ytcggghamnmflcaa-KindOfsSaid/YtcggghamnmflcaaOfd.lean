/- The contract of kind.Of: whatever the words, it answers kofV and kofE of their places. -/
import Derived.Test.YtcggghamnmflcaaOfc
namespace Go.Proofs.Ytcggghamnmflcaa
open Go Go.RowKit Go.Shelf
attribute [local go_sem] wide_fn Oper.semAt_some
def cnt (p : List (Fin 7)) (i : Nat) : Nat := (p.filter fun x => x.val == i).length
theorem cnt_snoc (p : List (Fin 7)) (x : Fin 7) (i : Nat) : cnt (p ++ [x]) i = cnt p i + if x.val = i then 1 else 0 := by
  unfold cnt
  rw [List.filter_append, List.length_append]
  by_cases h : x.val = i <;> simp [h]
theorem fin7 (x : Fin 7) : x = 0 ∨ x = 1 ∨ x = 2 ∨ x = 3 ∨ x = 4 ∨ x = 5 ∨ x = 6 := by omega
theorem cnt_cons (p : List (Fin 7)) (x : Fin 7) (i : Nat) : cnt (x :: p) i = cnt p i + if x.val = i then 1 else 0 := by
  unfold cnt
  by_cases h : x.val = i <;> simp [h]
theorem cnt_sum (p : List (Fin 7)) : cnt p 0 + cnt p 1 + cnt p 2 + cnt p 3 + cnt p 4 + cnt p 5 + cnt p 6 = p.length := by
  induction p with
  | nil => rfl
  | cons x p ih =>
    simp only [cnt_cons, List.length_cons]
    rcases fin7 x with rfl | rfl | rfl | rfl | rfl | rfl | rfl <;> simp (config := { decide := true }) <;> omega
theorem cnt6_no {p : List (Fin 7)} (h : ∀ x ∈ p, x.val ≠ 6) : cnt p 6 = 0 := by
  unfold cnt
  rw [List.length_eq_zero_iff, List.filter_eq_nil_iff]
  intro x hx
  simpa using h x hx
theorem cnt6_yes {p : List (Fin 7)} {x : Fin 7} (h : x ∈ p) (h6 : x.val = 6) : 0 < cnt p 6 := by
  unfold cnt
  exact List.length_pos_of_mem (a := x) (List.mem_filter.2 ⟨h, by simpa using h6⟩)
theorem cnt_take (p : List (Fin 7)) (k i : Nat) : cnt (p.take k) i ≤ cnt p i := by
  unfold cnt
  exact (((List.take_sublist k p).filter _)).length_le
def cells6 (p : List (Fin 7)) : Array Value := #[.int .i64 (cnt p 0), .int .i64 (cnt p 1), .int .i64 (cnt p 2), .int .i64 (cnt p 3), .int .i64 (cnt p 4), .int .i64 (cnt p 5)]
/-- Do these counts say no kind? -/
def ofBad (n c0 c1 c2 c3 c4 c5 c6 : Nat) : Prop := n = 0 ∨ 0 < c6 ∨ 1 < c0 + c1 + min c2 1 ∨ 2 < c2 ∨ 1 < c3 ∨ 1 < c4 + c5 ∨ (0 < c0 ∧ 0 < c3)
instance (n c0 c1 c2 c3 c4 c5 c6 : Nat) : Decidable (ofBad n c0 c1 c2 c3 c4 c5 c6) := by unfold ofBad; infer_instance
def ofV (n c0 c1 c2 c3 c4 c5 c6 : Nat) : Int := if ofBad n c0 c1 c2 c3 c4 c5 c6 then 0 else (if 0 < c0 then 1 else if 0 < c1 then 3 else if 0 < c2 then 7 else 5) + (c5 : Int)
def ofE (n c0 c1 c2 c3 c4 c5 c6 : Nat) : Int := if ofBad n c0 c1 c2 c3 c4 c5 c6 then 80 else 0
theorem of_bad {n c0 c1 c2 c3 c4 c5 c6 : Nat} (h : ofBad n c0 c1 c2 c3 c4 c5 c6) : ofV n c0 c1 c2 c3 c4 c5 c6 = 0 ∧ ofE n c0 c1 c2 c3 c4 c5 c6 = 80 := by
  unfold ofV ofE; rw [if_pos h, if_pos h]; exact ⟨rfl, rfl⟩
theorem of_good {n c0 c1 c2 c3 c4 c5 c6 : Nat} (h : ¬ ofBad n c0 c1 c2 c3 c4 c5 c6) : ofV n c0 c1 c2 c3 c4 c5 c6 = (if 0 < c0 then 1 else if 0 < c1 then 3 else if 0 < c2 then 7 else 5) + (c5 : Int) ∧ ofE n c0 c1 c2 c3 c4 c5 c6 = 0 := by
  unfold ofV ofE; rw [if_neg h, if_neg h]; exact ⟨rfl, rfl⟩
def kofV (p : List (Fin 7)) : Int := ofV p.length (cnt p 0) (cnt p 1) (cnt p 2) (cnt p 3) (cnt p 4) (cnt p 5) (cnt p 6)
def kofE (p : List (Fin 7)) : Int := ofE p.length (cnt p 0) (cnt p 1) (cnt p 2) (cnt p 3) (cnt p 4) (cnt p 5) (cnt p 6)
theorem kofV_is (p : List (Fin 7)) : kofV p = ofV p.length (cnt p 0) (cnt p 1) (cnt p 2) (cnt p 3) (cnt p 4) (cnt p 5) (cnt p 6) := rfl
theorem kofE_is (p : List (Fin 7)) : kofE p = ofE p.length (cnt p 0) (cnt p 1) (cnt p 2) (cnt p 3) (cnt p 4) (cnt p 5) (cnt p 6) := rfl
structure OfI (w0 : World) (sl : Value) (b : Bool) (pre : List (Fin 7)) (W : World) : Prop where
  n : Bk W w0.heap.size 102 (cells6 pre)
  g : Bk W (w0.heap.size + 1) 4 #[.bool b]
  s : Bk W (w0.heap.size + 1 + 1) 50 #[sl]
  bel : Below w0.heap.size w0 W
theorem OfI.own {w0 : World} {sl : Value} {b : Bool} {B1 : Nat} (hB : w0.heap.size ≤ B1) : OwnFrom B1 (fun pre W => OfI w0 sl b pre W) := fun s A C row h hg hr => by
  have hr' : ∀ r, row = some r → ∃ o : Obj, A.heap[r]? = some o ∧ o.isCells = false := fun r e => (hr r e).2
  exact ⟨h.n.kept hg hr', h.g.kept hg hr', h.s.kept hg hr', h.bel.grown hg h.bel.size (fun k e => Nat.le_trans hB (hr k e).1)⟩
set_option maxRecDepth 100000 in
set_option maxHeartbeats 4000000 in
theorem of_c (A : Option Addr) (c : Nat) (l : List ByteArray) (w : World) (hF : StrsAt w A l) (hc : l.length ≤ c) (hm : c ≤ 9223372036854775807) :
    Calls Try.prog 42 #[.slice A l.length c] w fun e w' => e = .returned (.tuple #[.int .i64 (kofV (pl l)), .int .i64 (kofE (pl l))]) ∧ Below w.heap.size w w' := by
  have hlm : l.length ≤ 9223372036854775807 := by omega
  refine (callsIn_wide (n := 9)).1 (callsIn_of_wp_marks Try.func42 rfl trivial ?_ rfl)
  simp only [Try.ntmps42, List.size_toArray, List.length_cons, List.length_nil, Nat.reduceAdd, Nat.reduceSub, Array.replicate_succ, Array.replicate_zero, List.push_toArray, List.append_toArray, List.nil_append, List.cons_append]
  refine wpIn_wide.2 ?_
  go_wp2
  go_step3
  go_wp2
  go_step3
  go_wp2_with (go_at_call 78; refine (places_c _ _ _ _).mono ?_; rintro e w' ⟨rfl, rfl⟩)
  refine range_box (n := 9) (α := Fin 7) (fun T x _ => (T.setIfInBounds 14 (.int .i64 (x.val : Nat))).setIfInBounds 6 (.int .i64 (x.val : Nat))) (fun _ _ _ => True)
    (by omega) rfl (enters_of Try.func109 (by kernel_rfl) rfl)
    (places_stops 8 (by omega) A c l w (w.heap.size + 1 + 1) hF hc hm _ ?hb ?hLb) BxK_t ?hKb ?hps
    (fun pre W => OfI w (.slice A l.length c) (decide (0 < l.length)) pre W ∧ ∀ x ∈ pre, x.val ≠ 6)
    (fun c' pre W => c' = .exit 0 ∧ (∃ p, OfI w (.slice A l.length c) false p W ∧ p.length ≤ l.length) ∧ ∃ x ∈ pre, x.val = 6)
    ?hI ?hIx ?h0 (fun _ _ _ _ _ _ _ _ _ => trivial) ?assign ?body ?done ?stop
  case hb => exact by repeat (first | exact Below.refl _ _ | apply bel_alloc | (refine Below.setCell ?_ (by simp) _))
  case hLb => exact Bk.new2 w _ _ 50 _
  case hKb => exact BxK_b (by simp; omega) (by simp; try omega) (by simp; try omega)
  case hps => exact fun _ => rfl
  case hI => exact fun s X C row h hg hr => ⟨OfI.own (by simp; omega) s X C row h.1 hg hr, h.2⟩
  case hIx =>
    intro c' s X C row h hg hr
    obtain ⟨h1, ⟨p, h2, h4⟩, h3⟩ := h
    exact ⟨h1, ⟨p, OfI.own (by simp; omega) p X C row h2 hg hr, h4⟩, h3⟩
  case h0 => exact ⟨⟨((Bk.new w 102 _).alloc _).alloc _, (Bk.new1 w _ 4 _).alloc _, Bk.new2 w _ _ 50 _, by repeat (first | exact Below.refl _ _ | apply bel_alloc)⟩, fun x h => by simp at h⟩
  case assign =>
    intro r pre x W K hi hK
    simp only [pEnc, List.zip_toArray, List.zip_cons_cons, List.zip_nil_right, List.foldl_toArray', List.size_toArray, List.length_cons, List.length_nil, Nat.reduceAdd, List.foldl_cons, List.foldl_nil, List.setIfInBounds_toArray, List.set_cons_succ, List.set_cons_zero] at hK ⊢
    gi_wp2
    exact hK 0 _ (KeepsFrom.refl _ _) ⟨Below.refl _ _, rfl, rfl⟩ hi trivial
  case body =>
    intro r pre x Bx W hr hi _ hlen
    simp only [List.setIfInBounds_toArray, List.set_cons_succ, List.set_cons_zero]
    obtain ⟨hi, h6⟩ := hi
    have hsum := cnt_sum pre
    have n0 : W.cell? ⟨w.heap.size, 0, none⟩ = some (.int .i64 (cnt pre 0)) := hi.n.at_ (i := 0) rfl
    have f0 := hi.n.frozen 0
    have n1 : W.cell? ⟨w.heap.size, 1, none⟩ = some (.int .i64 (cnt pre 1)) := hi.n.at_ (i := 1) rfl
    have f1 := hi.n.frozen 1
    have n2 : W.cell? ⟨w.heap.size, 2, none⟩ = some (.int .i64 (cnt pre 2)) := hi.n.at_ (i := 2) rfl
    have f2 := hi.n.frozen 2
    have n3 : W.cell? ⟨w.heap.size, 3, none⟩ = some (.int .i64 (cnt pre 3)) := hi.n.at_ (i := 3) rfl
    have f3 := hi.n.frozen 3
    have n4 : W.cell? ⟨w.heap.size, 4, none⟩ = some (.int .i64 (cnt pre 4)) := hi.n.at_ (i := 4) rfl
    have f4 := hi.n.frozen 4
    have n5 : W.cell? ⟨w.heap.size, 5, none⟩ = some (.int .i64 (cnt pre 5)) := hi.n.at_ (i := 5) rfl
    have f5 := hi.n.frozen 5
    have fg := hi.g.frozen 0
    have hg0 : W.cell? ⟨w.heap.size + 1, 0, none⟩ = some (.bool (decide (0 < l.length))) := hi.g.at_ (i := 0) rfl
    rcases fin7 x with rfl | rfl | rfl | rfl | rfl | rfl | rfl
    · have hlt : ((cnt pre 0 : Nat) : Int) + 1 ≤ 9223372036854775807 := by omega
      have hge : 0 ≤ ((cnt pre 0 : Nat) : Int) := by omega
      clear hsum
      simp only [show (((0 : Fin 7).val : Nat) : Int) = 0 from rfl]
      generalize hk : ((cnt pre 0 : Nat) : Int) = kk at *
      gi_wp2_with fail
      subst hk
      refine ⟨keeps_set (KeepsFrom.refl _ _) _ _, ⟨Below.setCell (Below.refl _ _) (by simp) _, Below.heap_setCell _ _ _ _ (by simp only; omega), Below.heap_setCell _ _ _ _ (by simp only; omega)⟩, ⟨?_, hi.g.far (by simp only; omega) _, hi.s.far (by simp only; omega) _, hi.bel.setCell (by simp) _⟩, ?_⟩
      · have := hi.n.set_ 0 (.int .i64 (((cnt pre 0 : Nat) : Int) + 1))
        rw [show (cells6 pre).setIfInBounds 0 (.int .i64 (((cnt pre 0 : Nat) : Int) + 1)) = cells6 (pre ++ [0]) by simp (config := { decide := true }) [cells6, cnt_snoc]] at this
        exact this
      · intro y hy
        rcases List.mem_append.1 hy with h | h
        · exact h6 y h
        · rw [List.mem_singleton.1 h]; decide
    · have hlt : ((cnt pre 1 : Nat) : Int) + 1 ≤ 9223372036854775807 := by omega
      have hge : 0 ≤ ((cnt pre 1 : Nat) : Int) := by omega
      clear hsum
      simp only [show (((1 : Fin 7).val : Nat) : Int) = 1 from rfl]
      generalize hk : ((cnt pre 1 : Nat) : Int) = kk at *
      gi_wp2_with fail
      subst hk
      refine ⟨keeps_set (KeepsFrom.refl _ _) _ _, ⟨Below.setCell (Below.refl _ _) (by simp) _, Below.heap_setCell _ _ _ _ (by simp only; omega), Below.heap_setCell _ _ _ _ (by simp only; omega)⟩, ⟨?_, hi.g.far (by simp only; omega) _, hi.s.far (by simp only; omega) _, hi.bel.setCell (by simp) _⟩, ?_⟩
      · have := hi.n.set_ 1 (.int .i64 (((cnt pre 1 : Nat) : Int) + 1))
        rw [show (cells6 pre).setIfInBounds 1 (.int .i64 (((cnt pre 1 : Nat) : Int) + 1)) = cells6 (pre ++ [1]) by simp (config := { decide := true }) [cells6, cnt_snoc]] at this
        exact this
      · intro y hy
        rcases List.mem_append.1 hy with h | h
        · exact h6 y h
        · rw [List.mem_singleton.1 h]; decide
    · have hlt : ((cnt pre 2 : Nat) : Int) + 1 ≤ 9223372036854775807 := by omega
      have hge : 0 ≤ ((cnt pre 2 : Nat) : Int) := by omega
      clear hsum
      simp only [show (((2 : Fin 7).val : Nat) : Int) = 2 from rfl]
      generalize hk : ((cnt pre 2 : Nat) : Int) = kk at *
      gi_wp2_with fail
      subst hk
      refine ⟨keeps_set (KeepsFrom.refl _ _) _ _, ⟨Below.setCell (Below.refl _ _) (by simp) _, Below.heap_setCell _ _ _ _ (by simp only; omega), Below.heap_setCell _ _ _ _ (by simp only; omega)⟩, ⟨?_, hi.g.far (by simp only; omega) _, hi.s.far (by simp only; omega) _, hi.bel.setCell (by simp) _⟩, ?_⟩
      · have := hi.n.set_ 2 (.int .i64 (((cnt pre 2 : Nat) : Int) + 1))
        rw [show (cells6 pre).setIfInBounds 2 (.int .i64 (((cnt pre 2 : Nat) : Int) + 1)) = cells6 (pre ++ [2]) by simp (config := { decide := true }) [cells6, cnt_snoc]] at this
        exact this
      · intro y hy
        rcases List.mem_append.1 hy with h | h
        · exact h6 y h
        · rw [List.mem_singleton.1 h]; decide
    · have hlt : ((cnt pre 3 : Nat) : Int) + 1 ≤ 9223372036854775807 := by omega
      have hge : 0 ≤ ((cnt pre 3 : Nat) : Int) := by omega
      clear hsum
      simp only [show (((3 : Fin 7).val : Nat) : Int) = 3 from rfl]
      generalize hk : ((cnt pre 3 : Nat) : Int) = kk at *
      gi_wp2_with fail
      subst hk
      refine ⟨keeps_set (KeepsFrom.refl _ _) _ _, ⟨Below.setCell (Below.refl _ _) (by simp) _, Below.heap_setCell _ _ _ _ (by simp only; omega), Below.heap_setCell _ _ _ _ (by simp only; omega)⟩, ⟨?_, hi.g.far (by simp only; omega) _, hi.s.far (by simp only; omega) _, hi.bel.setCell (by simp) _⟩, ?_⟩
      · have := hi.n.set_ 3 (.int .i64 (((cnt pre 3 : Nat) : Int) + 1))
        rw [show (cells6 pre).setIfInBounds 3 (.int .i64 (((cnt pre 3 : Nat) : Int) + 1)) = cells6 (pre ++ [3]) by simp (config := { decide := true }) [cells6, cnt_snoc]] at this
        exact this
      · intro y hy
        rcases List.mem_append.1 hy with h | h
        · exact h6 y h
        · rw [List.mem_singleton.1 h]; decide
    · have hlt : ((cnt pre 4 : Nat) : Int) + 1 ≤ 9223372036854775807 := by omega
      have hge : 0 ≤ ((cnt pre 4 : Nat) : Int) := by omega
      clear hsum
      simp only [show (((4 : Fin 7).val : Nat) : Int) = 4 from rfl]
      generalize hk : ((cnt pre 4 : Nat) : Int) = kk at *
      gi_wp2_with fail
      subst hk
      refine ⟨keeps_set (KeepsFrom.refl _ _) _ _, ⟨Below.setCell (Below.refl _ _) (by simp) _, Below.heap_setCell _ _ _ _ (by simp only; omega), Below.heap_setCell _ _ _ _ (by simp only; omega)⟩, ⟨?_, hi.g.far (by simp only; omega) _, hi.s.far (by simp only; omega) _, hi.bel.setCell (by simp) _⟩, ?_⟩
      · have := hi.n.set_ 4 (.int .i64 (((cnt pre 4 : Nat) : Int) + 1))
        rw [show (cells6 pre).setIfInBounds 4 (.int .i64 (((cnt pre 4 : Nat) : Int) + 1)) = cells6 (pre ++ [4]) by simp (config := { decide := true }) [cells6, cnt_snoc]] at this
        exact this
      · intro y hy
        rcases List.mem_append.1 hy with h | h
        · exact h6 y h
        · rw [List.mem_singleton.1 h]; decide
    · have hlt : ((cnt pre 5 : Nat) : Int) + 1 ≤ 9223372036854775807 := by omega
      have hge : 0 ≤ ((cnt pre 5 : Nat) : Int) := by omega
      clear hsum
      simp only [show (((5 : Fin 7).val : Nat) : Int) = 5 from rfl]
      generalize hk : ((cnt pre 5 : Nat) : Int) = kk at *
      gi_wp2_with fail
      subst hk
      refine ⟨keeps_set (KeepsFrom.refl _ _) _ _, ⟨Below.setCell (Below.refl _ _) (by simp) _, Below.heap_setCell _ _ _ _ (by simp only; omega), Below.heap_setCell _ _ _ _ (by simp only; omega)⟩, ⟨?_, hi.g.far (by simp only; omega) _, hi.s.far (by simp only; omega) _, hi.bel.setCell (by simp) _⟩, ?_⟩
      · have := hi.n.set_ 5 (.int .i64 (((cnt pre 5 : Nat) : Int) + 1))
        rw [show (cells6 pre).setIfInBounds 5 (.int .i64 (((cnt pre 5 : Nat) : Int) + 1)) = cells6 (pre ++ [5]) by simp (config := { decide := true }) [cells6, cnt_snoc]] at this
        exact this
      · intro y hy
        rcases List.mem_append.1 hy with h | h
        · exact h6 y h
        · rw [List.mem_singleton.1 h]; decide
    · simp only [show (((6 : Fin 7).val : Nat) : Int) = 6 from rfl]
      gi_wp2_with fail
      exact ⟨keeps_set (KeepsFrom.refl _ _) _ _, rfl, ⟨pre, ⟨hi.n.far (by simp only; omega) _, hi.g.set_ 0 _, hi.s.far (by simp only; omega) _, hi.bel.setCell (by simp) _⟩, by omega⟩, 6, by simp, rfl⟩
  case done =>
    intro D xs W hD hxs hi hK
    subst hxs
    obtain ⟨hi, h6⟩ := hi
    have hsum := cnt_sum (pl l)
    have hl : (pl l).length = l.length := by simp [pl]
    have hc6 := cnt6_no h6
    have n0 : W.cell? ⟨w.heap.size, 0, none⟩ = some (.int .i64 (cnt (pl l) 0)) := hi.n.at_ (i := 0) rfl
    have n1 : W.cell? ⟨w.heap.size, 1, none⟩ = some (.int .i64 (cnt (pl l) 1)) := hi.n.at_ (i := 1) rfl
    have n2 : W.cell? ⟨w.heap.size, 2, none⟩ = some (.int .i64 (cnt (pl l) 2)) := hi.n.at_ (i := 2) rfl
    have n3 : W.cell? ⟨w.heap.size, 3, none⟩ = some (.int .i64 (cnt (pl l) 3)) := hi.n.at_ (i := 3) rfl
    have n4 : W.cell? ⟨w.heap.size, 4, none⟩ = some (.int .i64 (cnt (pl l) 4)) := hi.n.at_ (i := 4) rfl
    have n5 : W.cell? ⟨w.heap.size, 5, none⟩ = some (.int .i64 (cnt (pl l) 5)) := hi.n.at_ (i := 5) rfl
    have hg0 : W.cell? ⟨w.heap.size + 1, 0, none⟩ = some (.bool (decide (0 < l.length))) := hi.g.at_ (i := 0) rfl
    have hbel := hi.bel
    have hx0 := hi.n.lt
    have hx1 := hi.g.lt
    clear hi h6
    have EV0 := kofV_is (pl l)
    have EE0 := kofE_is (pl l)
    rw [hc6, hl] at EV0 EE0
    rw [hl, hc6] at hsum
    generalize cnt (pl l) 0 = k0 at *
    generalize cnt (pl l) 1 = k1 at *
    generalize cnt (pl l) 2 = k2 at *
    generalize cnt (pl l) 3 = k3 at *
    generalize cnt (pl l) 4 = k4 at *
    generalize cnt (pl l) 5 = k5 at *
    have hm0 : k3 = 0 → (k0 : Int) * (k3 : Int) = 0 := fun h => by rw [h]; simp
    have hm1 : k0 = 1 → (k0 : Int) * (k3 : Int) = k3 := fun h => by rw [h]; simp
    have hm2 : k0 = 0 → (k0 : Int) * (k3 : Int) = 0 := fun h => by rw [h]; simp
    have EV := Lib.hid EV0
    have EE := Lib.hid EE0
    clear EV0 EE0
    have hp : (0 < k0 ∧ fstPos k0 k1 k2 = 0) ∨ (k0 = 0 ∧ 0 < k1 ∧ fstPos k0 k1 k2 = 1) ∨ (k0 = 0 ∧ k1 = 0 ∧ 0 < k2 ∧ fstPos k0 k1 k2 = 2) ∨ (k0 = 0 ∧ k1 = 0 ∧ k2 = 0 ∧ fstPos k0 k1 k2 = -1) := by
      rw [fstPos_is]
      by_cases a0 : 0 < k0
      · exact .inl ⟨a0, if_pos (by omega)⟩
      · by_cases a1 : 0 < k1
        · exact .inr (.inl ⟨by omega, a1, by rw [if_neg (by omega), if_pos (by omega)]⟩)
        · by_cases a2 : 0 < k2
          · exact .inr (.inr (.inl ⟨by omega, by omega, a2, by rw [if_neg (by omega), if_neg (by omega), if_pos (by omega)]⟩))
          · exact .inr (.inr (.inr ⟨by omega, by omega, by omega, by rw [if_neg (by omega), if_neg (by omega), if_neg (by omega)]⟩))
    have KB : Below w.heap.size W (W.putObj D (.deferred none)) := belowK_b (w := w) (Nat.le_refl _) W D _ _ (by simp at hD; omega) hK rfl rfl
    clear hp
    obtain hA | rfl | ⟨rfl, hC⟩ | ⟨rfl, rfl, hD2⟩ | ⟨rfl, rfl, rfl, hE⟩ | ⟨rfl, rfl, rfl, hE⟩ : 2 ≤ k0 ∨ k0 = 1 ∨ (k0 = 0 ∧ 1 ≤ k1) ∨ (k0 = 0 ∧ k1 = 0 ∧ 1 ≤ k2) ∨ (k0 = 0 ∧ k1 = 0 ∧ k2 = 0 ∧ 0 < l.length) ∨ (k0 = 0 ∧ k1 = 0 ∧ k2 = 0 ∧ l.length = 0) := by omega
    · -- two or more
      rw [show decide (0 < l.length) = true from decide_eq_true (by omega)] at hg0
      clear hm0 hm1 hm2
      go_wp2_with (go_at_call 79; refine (idx_c k0 k1 k2 W.heap.size _ (cell_new _ _ _ 0 _ rfl) (cell_new _ _ _ 1 _ rfl) (cell_new _ _ _ 2 _ rfl)).mono ?_; rintro e w' ⟨rfl, rfl⟩)
      all_goals first | (exfalso; omega) | (refine ⟨by simp, .inl ⟨_, _, rfl, run_takeDeferred hK, ?_⟩⟩; refine ⟨_, results_tmp2 rfl _ _ _, ?_, hbel.trans KB⟩; rw [EV.out, EE.out, (of_bad (by unfold ofBad; omega)).1, (of_bad (by unfold ofBad; omega)).2]; rfl)
    · -- char
      rw [show decide (0 < l.length) = true from decide_eq_true (by omega)] at hg0
      rw [show ((1 : Nat) : Int) = 1 from rfl] at n0
      clear hm0 hm1 hm2
      have HP := Lib.hid (show fstPos 1 k1 k2 = 0 by rw [fstPos_is]; exact if_pos (by omega))
      have hKA : (W.alloc (.cells #[.int .i64 1, .int .i64 k1, .int .i64 k2] 3)).drew.heap[D]? = some (.deferred (some [])) := (Below.heap_alloc _ _ _ (Array.getElem?_eq_some_iff.1 hK).1).trans hK
      have KA : Below w.heap.size w ((W.alloc (.cells #[.int .i64 1, .int .i64 k1, .int .i64 k2] 3)).drew.putObj D (.deferred none)) := (bel_drew (bel_alloc hbel _)).trans (belowK_b (w := w) (Nat.le_refl _) _ D _ _ (by simp at hD; omega) hKA rfl rfl)
      have hix : ∀ w, (Instr.index 107 (.agg #[.int .i64 5, .int .i64 1, .int .i64 3, .int .i64 7]) (.int .i64 1)).run Try.prog w = .ok (.int .i64 1) w := fun _ => by kernel_rfl
      go_wp2_with (go_at_call 79; refine (idx_c 1 k1 k2 W.heap.size _ (cell_new _ _ _ 0 _ rfl) (cell_new _ _ _ 1 _ rfl) (cell_new _ _ _ 2 _ rfl)).mono ?_; rintro e w' ⟨rfl, rfl⟩; rw [HP.out])
      all_goals first | (refine ⟨by simp, .inl ⟨_, _, rfl, run_takeDeferred hK, ?_⟩⟩; refine ⟨_, results_tmp2 rfl _ _ _, ?_, hbel.trans KB⟩; rw [EV.out, EE.out, (of_bad (by unfold ofBad; omega)).1, (of_bad (by unfold ofBad; omega)).2]; rfl) | (go_region; go_wp2_with fail; refine ⟨by simp, .inl ⟨_, _, rfl, run_takeDeferred hKA, ?_⟩⟩; refine ⟨_, results_tmp2 rfl _ _ _, ?_, KA⟩; rw [EV.out, EE.out, (of_good (by unfold ofBad; omega)).1, (of_good (by unfold ofBad; omega)).2]; exact ret_ii (by rw [if_pos (by omega)]) rfl)
    · -- short
      rw [show decide (0 < l.length) = true from decide_eq_true (by omega)] at hg0
      rw [show ((0 : Nat) : Int) = 0 from rfl] at n0
      clear hm0 hm1 hm2
      have HP := Lib.hid (show fstPos 0 k1 k2 = 1 by rw [fstPos_is]; rw [if_neg (by omega)]; exact if_pos (by omega))
      have hKA : (W.alloc (.cells #[.int .i64 0, .int .i64 k1, .int .i64 k2] 3)).drew.heap[D]? = some (.deferred (some [])) := (Below.heap_alloc _ _ _ (Array.getElem?_eq_some_iff.1 hK).1).trans hK
      have KA : Below w.heap.size w ((W.alloc (.cells #[.int .i64 0, .int .i64 k1, .int .i64 k2] 3)).drew.putObj D (.deferred none)) := (bel_drew (bel_alloc hbel _)).trans (belowK_b (w := w) (Nat.le_refl _) _ D _ _ (by simp at hD; omega) hKA rfl rfl)
      have hix : ∀ w, (Instr.index 107 (.agg #[.int .i64 5, .int .i64 1, .int .i64 3, .int .i64 7]) (.int .i64 2)).run Try.prog w = .ok (.int .i64 3) w := fun _ => by kernel_rfl
      go_wp2_with (go_at_call 79; refine (idx_c 0 k1 k2 W.heap.size _ (cell_new _ _ _ 0 _ rfl) (cell_new _ _ _ 1 _ rfl) (cell_new _ _ _ 2 _ rfl)).mono ?_; rintro e w' ⟨rfl, rfl⟩; rw [HP.out])
      all_goals first | (refine ⟨by simp, .inl ⟨_, _, rfl, run_takeDeferred hK, ?_⟩⟩; refine ⟨_, results_tmp2 rfl _ _ _, ?_, hbel.trans KB⟩; rw [EV.out, EE.out, (of_bad (by unfold ofBad; omega)).1, (of_bad (by unfold ofBad; omega)).2]; rfl) | (go_region; go_wp2_with fail; refine ⟨by simp, .inl ⟨_, _, rfl, run_takeDeferred hKA, ?_⟩⟩; refine ⟨_, results_tmp2 rfl _ _ _, ?_, KA⟩; rw [EV.out, EE.out, (of_good (by unfold ofBad; omega)).1, (of_good (by unfold ofBad; omega)).2]; exact ret_ii (by rw [if_neg (by omega), if_pos (by omega)]) rfl)
    · -- long
      rw [show decide (0 < l.length) = true from decide_eq_true (by omega)] at hg0
      rw [show ((0 : Nat) : Int) = 0 from rfl] at n0
      rw [show ((0 : Nat) : Int) = 0 from rfl] at n1
      clear hm0 hm1 hm2
      have HP := Lib.hid (show fstPos 0 0 k2 = 2 by rw [fstPos_is]; rw [if_neg (by omega), if_neg (by omega)]; exact if_pos (by omega))
      have hKA : (W.alloc (.cells #[.int .i64 0, .int .i64 0, .int .i64 k2] 3)).drew.heap[D]? = some (.deferred (some [])) := (Below.heap_alloc _ _ _ (Array.getElem?_eq_some_iff.1 hK).1).trans hK
      have KA : Below w.heap.size w ((W.alloc (.cells #[.int .i64 0, .int .i64 0, .int .i64 k2] 3)).drew.putObj D (.deferred none)) := (bel_drew (bel_alloc hbel _)).trans (belowK_b (w := w) (Nat.le_refl _) _ D _ _ (by simp at hD; omega) hKA rfl rfl)
      have hix : ∀ w, (Instr.index 107 (.agg #[.int .i64 5, .int .i64 1, .int .i64 3, .int .i64 7]) (.int .i64 3)).run Try.prog w = .ok (.int .i64 7) w := fun _ => by kernel_rfl
      go_wp2_with (go_at_call 79; refine (idx_c 0 0 k2 W.heap.size _ (cell_new _ _ _ 0 _ rfl) (cell_new _ _ _ 1 _ rfl) (cell_new _ _ _ 2 _ rfl)).mono ?_; rintro e w' ⟨rfl, rfl⟩; rw [HP.out])
      all_goals first | (refine ⟨by simp, .inl ⟨_, _, rfl, run_takeDeferred hK, ?_⟩⟩; refine ⟨_, results_tmp2 rfl _ _ _, ?_, hbel.trans KB⟩; rw [EV.out, EE.out, (of_bad (by unfold ofBad; omega)).1, (of_bad (by unfold ofBad; omega)).2]; rfl) | (go_region; go_wp2_with fail; refine ⟨by simp, .inl ⟨_, _, rfl, run_takeDeferred hKA, ?_⟩⟩; refine ⟨_, results_tmp2 rfl _ _ _, ?_, KA⟩; rw [EV.out, EE.out, (of_good (by unfold ofBad; omega)).1, (of_good (by unfold ofBad; omega)).2]; exact ret_ii (by rw [if_neg (by omega), if_neg (by omega), if_pos (by omega)]) rfl)
    · -- int
      rw [show decide (0 < l.length) = true from decide_eq_true (by omega)] at hg0
      rw [show ((0 : Nat) : Int) = 0 from rfl] at n0
      rw [show ((0 : Nat) : Int) = 0 from rfl] at n1
      rw [show ((0 : Nat) : Int) = 0 from rfl] at n2
      clear hm0 hm1 hm2
      have HP := Lib.hid (show fstPos 0 0 0 = -1 by rw [fstPos_is]; rw [if_neg (by omega), if_neg (by omega)]; exact if_neg (by omega))
      have hKA : (W.alloc (.cells #[.int .i64 0, .int .i64 0, .int .i64 0] 3)).drew.heap[D]? = some (.deferred (some [])) := (Below.heap_alloc _ _ _ (Array.getElem?_eq_some_iff.1 hK).1).trans hK
      have KA : Below w.heap.size w ((W.alloc (.cells #[.int .i64 0, .int .i64 0, .int .i64 0] 3)).drew.putObj D (.deferred none)) := (bel_drew (bel_alloc hbel _)).trans (belowK_b (w := w) (Nat.le_refl _) _ D _ _ (by simp at hD; omega) hKA rfl rfl)
      have hix : ∀ w, (Instr.index 107 (.agg #[.int .i64 5, .int .i64 1, .int .i64 3, .int .i64 7]) (.int .i64 0)).run Try.prog w = .ok (.int .i64 5) w := fun _ => by kernel_rfl
      go_wp2_with (go_at_call 79; refine (idx_c 0 0 0 W.heap.size _ (cell_new _ _ _ 0 _ rfl) (cell_new _ _ _ 1 _ rfl) (cell_new _ _ _ 2 _ rfl)).mono ?_; rintro e w' ⟨rfl, rfl⟩; rw [HP.out])
      all_goals first | (refine ⟨by simp, .inl ⟨_, _, rfl, run_takeDeferred hK, ?_⟩⟩; refine ⟨_, results_tmp2 rfl _ _ _, ?_, hbel.trans KB⟩; rw [EV.out, EE.out, (of_bad (by unfold ofBad; omega)).1, (of_bad (by unfold ofBad; omega)).2]; rfl) | (go_region; go_wp2_with fail; refine ⟨by simp, .inl ⟨_, _, rfl, run_takeDeferred hKA, ?_⟩⟩; refine ⟨_, results_tmp2 rfl _ _ _, ?_, KA⟩; rw [EV.out, EE.out, (of_good (by unfold ofBad; omega)).1, (of_good (by unfold ofBad; omega)).2]; exact ret_ii (by rw [if_neg (by omega), if_neg (by omega), if_neg (by omega)]) rfl)
    · -- none
      rw [show decide (0 < l.length) = false from decide_eq_false (by omega)] at hg0
      rw [show ((0 : Nat) : Int) = 0 from rfl] at n0
      rw [show ((0 : Nat) : Int) = 0 from rfl] at n1
      rw [show ((0 : Nat) : Int) = 0 from rfl] at n2
      clear hm0 hm1 hm2
      go_wp2_with fail
      all_goals (refine ⟨by simp, .inl ⟨_, _, rfl, run_takeDeferred hK, ?_⟩⟩; refine ⟨_, results_tmp2 rfl _ _ _, ?_, hbel.trans KB⟩; rw [EV.out, EE.out, (of_bad (by unfold ofBad; omega)).1, (of_bad (by unfold ofBad; omega)).2]; rfl)
  case stop =>
    intro D c' pre W hD hSp hi hK
    obtain ⟨rfl, ⟨p, hi, hpl⟩, x, hx, h6⟩ := hi
    obtain ⟨k, rfl⟩ := hSp
    have h6c := cnt6_yes (List.mem_of_mem_take hx) h6
    have EV := Lib.hid (kofV_is (pl l))
    have EE := Lib.hid (kofE_is (pl l))
    have hsum := cnt_sum p
    have n0 : W.cell? ⟨w.heap.size, 0, none⟩ = some (.int .i64 (cnt p 0)) := hi.n.at_ (i := 0) rfl
    have n1 : W.cell? ⟨w.heap.size, 1, none⟩ = some (.int .i64 (cnt p 1)) := hi.n.at_ (i := 1) rfl
    have n2 : W.cell? ⟨w.heap.size, 2, none⟩ = some (.int .i64 (cnt p 2)) := hi.n.at_ (i := 2) rfl
    have hg0 : W.cell? ⟨w.heap.size + 1, 0, none⟩ = some (.bool false) := hi.g.at_ (i := 0) rfl
    have hbel := hi.bel
    have KB : Below w.heap.size W (W.putObj D (.deferred none)) := belowK_b (w := w) (Nat.le_refl _) W D _ _ (by simp at hD; omega) hK rfl rfl
    clear hi
    generalize cnt p 0 = k0 at *
    generalize cnt p 1 = k1 at *
    generalize cnt p 2 = k2 at *
    go_wp2_with fail
    all_goals
      refine ⟨by simp, .inl ⟨_, _, rfl, run_takeDeferred hK, ?_⟩⟩
      refine ⟨_, results_tmp2 rfl _ _ _, ?_, hbel.trans KB⟩
      rw [EV.out, EE.out, (of_bad (.inr (.inl h6c))).1, (of_bad (.inr (.inl h6c))).2]
      rfl
end Go.Proofs.Ytcggghamnmflcaa
