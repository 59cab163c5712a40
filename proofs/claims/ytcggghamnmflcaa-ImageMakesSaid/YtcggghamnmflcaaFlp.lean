/- A region that draws its order, in which one new block is laid at whatever place (Flo), in a plain function. -/
import Derived.Test.YtcggghamnmflcaaFlo
namespace Go.Proofs.Ytcggghamnmflcaa
open Go Go.RowKit
section
variable {P : Program} {ops : Array Oper} {md : Region.Mode} {m : Nat}
theorem op_of_quietAt {o : Oper} {a : Act} {v : Value} {E : World → Prop} {K' : Act → World → Prop} {Q' : Exit → Act → World → Prop} {w : World} (hq : o.quietAt P a E w v) (hw : E w) (h : ∀ w', E w' → K' (a.put o.dst v) w') :
    o.wp P a w K' Q' := by
  unfold Oper.quietAt at hq
  unfold Oper.wp
  generalize (execOp a.eval o).run P w = q at *
  cases q with
  | ok x w' =>
    cases x <;> simp only [Oper.quietUpon] at hq <;> simp only [Oper.upon]
    case value u =>
      obtain ⟨e1, e2⟩ := hq
      rw [e1, e2]
      exact h _ hw
    case skip =>
      obtain ⟨e1, e2⟩ := hq
      rw [e1, ← e2]
      exact h _ hw
    case enter f args =>
      obtain ⟨e1, hc⟩ := hq
      rw [e1]
      refine hc.mono fun e w'' ⟨he, hw''⟩ => ?_
      subst he
      exact h _ hw''
  | halt x w' => simp only [Oper.quietUpon] at hq
theorem any_of_headD {n g d : Nat} {W : World} {z : Obj} {om : Oper} {L : Array Bool → Act → Prop} {Q' : Exit → Act → World → Prop}
    (hm : ops[m]? = some om) (hdst : om.dst = some d) (hwant : ∀ ts, Region.wanted om (yielded ops ts) = true) (hdo : ∀ i o, ops[i]? = some o → i ≠ m → i < n → o.dst ≠ some d)
    (hal : ∀ (a : Act) (w : World), (execOp a.eval om).run P w = .ok (.value (.pointer (some ⟨w.heap.size, 0, none⟩))) (w.alloc z))
    (hL : ∀ listed a w, Below W.heap.size W w → (listed.getD m false = true → LaidAt W z d a w) → L listed a → wpAny P md ops Q' g listed a w) :
    ∀ (f : Nat) (listed : Array Bool) (a : Act) (w : World), d < a.tmps.size → listed.size = ops.size → Below W.heap.size W w → (listed.getD m false = true → LaidAt W z d a w) →
      HeadD P md ops (fun w => Below W.heap.size W w) (fun w w' => Below w.heap.size w w') m n L f listed a → wpAny P md ops Q' (f + g) listed a w
  | 0, listed, a, w, _, _, hw, hl, h => by rw [Nat.zero_add]; exact hL _ _ _ hw hl h
  | f + 1, listed, a, w, hsz, hls, hw, hl, h => by
    rw [show f + 1 + g = (f + g) + 1 by omega]
    refine ⟨fun h0 => absurd h0 h.1, fun i hi => ?_⟩
    obtain ⟨hin, hq⟩ := h.2 i hi
    unfold wpOp
    rcases hq with ⟨him, hq⟩ | ⟨him, o, v, ho, hy, hH⟩
    · rw [him]
      simp only [hm]
      rw [if_pos (hwant _)]
      refine .inl ?_
      unfold Oper.wp
      rw [hal]
      simp only [Oper.upon]
      refine any_of_headD hm hdst hwant hdo hal hL f _ _ _ (by rw [put_size]; exact hsz) (by simp [hls]) (hw.alloc hw.size _) (fun _ => ⟨w.heap.size, ?_, hw.size, ?_⟩) (hq om w.heap.size hm)
      · rw [hdst]
        simp [Act.put, hsz]
      · exact heap_alloc_new w _
    · simp only [ho]
      have hlist : (listed.setIfInBounds i true).getD m false = listed.getD m false := by
        simp [Array.getD_eq_getD_getElem?, him]
      rcases hy with ⟨hwd, hy⟩ | ⟨hwd, rfl⟩
      · rw [if_pos hwd]
        refine .inl (op_of_quietAt (hy w hw) (Below.refl _ _) fun w' hw' => ?_)
        exact any_of_headD hm hdst hwant hdo hal hL f _ _ _ (by rw [put_size]; exact hsz) (by simp [hls]) (hw.trans (hw'.mono hw.size)) (fun hlm => (hl (hlist ▸ hlm)).step hw' (hdo i o ho him hin) v) hH
      · rw [if_neg (by simp [hwd])]
        exact any_of_headD hm hdst hwant hdo hal hL f _ _ _ (by rw [put_size]; exact hsz) (by simp [hls]) hw (fun hlm => (hl (hlist ▸ hlm)).step (Below.refl _ _) (hdo i o ho him hin) undef) hH
theorem region_flo {id : Nat} {Q : Exit → Act → World → Prop} {a : Act} {w : World} {l : List Oper} (m : Nat) {om : Oper} {d : Nat} (z : Obj) (hmo : P.follows .mixedOrders = true) (hB : Region.lexTailB .any l.toArray (m + 1) = true)
    (hm : l[m]? = some om) (hdst : om.dst = some d) (hF : floB a.tmps.size m l = true) (hwant : ∀ ts, Region.wanted om (yielded l.toArray ts) = true)
    (hal : ∀ (a : Act) (w : World), (execOp a.eval om).run P w = .ok (.value (.pointer (some ⟨w.heap.size, 0, none⟩))) (w.alloc z))
    (hh : ∃ A, (∀ X, Below w.heap.size w X → wpQuiet P l.toArray (fun w' => ∃ s : BelS X, w' = s.w) (fun a' => a' = A) (l.take m) a) ∧
      ∀ (u : Nat) (w' : World), Below w.heap.size w w' → w.heap.size ≤ u → w'.heap[u]? = some z → wpList P l.toArray Q (l.drop (m + 1)) (A.put (some d) (.pointer (some ⟨u, 0, none⟩))) w') :
    (Code.region id l.toArray true).wp P Q a w := by
  obtain ⟨A, h, hK⟩ := hh
  simp only [Region.lexTailB, Bool.and_eq_true, decide_eq_true_eq] at hB
  obtain ⟨⟨⟨⟨hsel, hn⟩, hs⟩, hc⟩, hlex⟩ := hB
  unfold floB at hF
  rw [hm] at hF
  simp only [hdst, Bool.and_eq_true, decide_eq_true_eq] at hF
  obtain ⟨hown, hds, hdn⟩ := hF
  have hml : m < l.length := (List.getElem?_eq_some_iff.1 hm).1
  have htl : (l.take m).length = m := by simp; omega
  have hdl : (l.drop (m + 1)).length = l.toArray.size - (m + 1) := by simp
  have hdr : ∀ X, Below w.heap.size w.drew X → Below w.heap.size w X := fun X hX => ⟨hX.os, hX.tape, hX.output, hX.size, hX.block⟩
  have H := headD_lex (P := P) (md := .any) (g := l.toArray.size - (m + 1)) (C := fun w' => Below w.heap.size w w') (D := fun w w' => Below w.heap.size w w') (om := om) (Lq := fun a' => a' = A) (m := m) (ops := l.toArray) (by simpa using hm) hsel hs hc (by simpa using hn) (l.take m) 0 (Array.replicate l.toArray.size false) a (fun j hj => by
    have hj' : j < m := by rw [htl] at hj; exact hj
    simp [hj']) (by simpa using htl)
    ⟨by simp, fun j oj _ hl => (by rw [getD_replicate_false] at hl; cases hl), fun t _ ht => getD_in (by simpa using ht) (getD_replicate_false _ _)⟩ (by rw [htl]; exact hlex) (seqD_of_quiet w _ _ hown fun X hX => by rw [← bels_class]; exact h X hX)
  refine wp_region_any hmo ?_
  have := any_of_headD (P := P) (md := .any) (ops := l.toArray) (m := m) (n := m + 1) (W := w) (z := z) (Q' := Q) (g := l.toArray.size - (m + 1)) (by simpa using hm) hdst hwant
    (fun i o ho him hi => by
      have hi' : i < m := by omega
      have : o ∈ l.take m := List.mem_iff_getElem?.2 ⟨i, by rw [List.getElem?_take, if_pos hi']; simpa using ho⟩
      simpa using List.all_eq_true.1 hdn o this) hal
    (fun listed a' w' hw' hla hL => by
      obtain ⟨⟨hseq, hlm⟩, u, A', rfl, rfl⟩ := hL
      obtain ⟨u', h1, h2, h3⟩ := hla hlm
      have hsA : d < A'.tmps.size := by
        have := (Array.getElem?_eq_some_iff.1 h1).1
        rwa [put_size] at this
      rw [hdst] at h1 ⊢
      have hu : u = u' := by
        simp [Act.put, hsA] at h1
        exact h1
      subst hu
      have := wpAny_of_seq (md := .any) (Q' := Q) (l.drop (m + 1)) (m + 1) listed _ w' (fun j => by simp [List.getElem?_drop]) (by rw [hdl]; exact hseq) (hK u w' hw' h2 h3)
      rwa [hdl] at this) _ _ a w.drew hds (by simp) (hdr _ (Below.refl _ _)) (fun hlm => by simp [Array.getD_eq_getD_getElem?, Array.getElem?_replicate] at hlm; split at hlm <;> simp at hlm) H
  rw [htl, show m + 1 + (l.toArray.size - (m + 1)) = l.toArray.size by simp; omega] at this
  exact this
end
end Go.Proofs.Ytcggghamnmflcaa
