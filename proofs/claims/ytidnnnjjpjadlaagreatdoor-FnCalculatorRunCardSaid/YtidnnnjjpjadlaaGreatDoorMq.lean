/- A region that draws its order: operations that are quiet in a class of worlds, and behind all of them a tail in one forced order. No condition: plain laws of the model's regions. -/
import Derived.Test.YtidnnnjjpjadlaaGreatDoorFmt
import Derived.StillTail
namespace Go.Proofs.YtidnnnjjpjadlaaGreatDoor

section
variable {P : Program} {ops : Array Oper} {md : Region.Mode} {C : World → Prop}
/-- Whatever order is picked, as long as operations below n are picked: f of them, then L. -/
def headQ (P : Program) (md : Region.Mode) (ops : Array Oper) (C : World → Prop) (n : Nat) (L : Array Bool → Act → Prop) : Nat → Array Bool → Act → Prop
  | 0, ls, a => L ls a
  | f + 1, ls, a => Region.ready md ops ls ≠ [] ∧ ∀ i ∈ Region.ready md ops ls, i < n ∧ qOp P ops C i (headQ P md ops C n L f (ls.setIfInBounds i true)) a
theorem wpAny_of_headQ {n g : Nat} {L : Array Bool → Act → Prop} {Q' : Exit → Act → World → Prop} (hL : ∀ ls a w, C w → L ls a → wpAny P md ops Q' g ls a w) :
    ∀ (f : Nat) (ls : Array Bool) (a : Act) (w : World), C w → headQ P md ops C n L f ls a → wpAny P md ops Q' (f + g) ls a w
  | 0, _, _, _, hw, h => by rw [Nat.zero_add]; exact hL _ _ _ hw h
  | f + 1, _, _, _, hw, h => by
    rw [show f + 1 + g = (f + g) + 1 by omega]
    exact ⟨fun h0 => absurd h0 h.1, fun i hi => wpOp_of_qOp hw (fun _ _ hw' h' => wpAny_of_headQ hL f _ _ _ hw' h') (h.2 i hi).2⟩
theorem headQ_first {n i : Nat} {oi : Oper} {v : Value} {L : Array Bool → Act → Prop} (hi : ops[i]? = some oi) (hsel : ∀ (j : Nat) (o : Oper) cs b, ops[j]? = some o → o.op ≠ .select cs b)
    (hs : Region.sinkB md ops n = true) (hc : Region.chainB md ops n = true) (hn : n < ops.size) (hin : i < n)
    (hdone : ∀ ls a, L ls a → ∀ j ∈ Region.ready md ops ls, n ≤ j) :
    ∀ (f : Nat) (ls : Array Bool) (a : Act), HeadInv md ops n ls →
      (∀ j oj, ops[j]? = some oj → j ≠ i → ls.getD j true = false → (∀ e ∈ oj.after, Region.binds md e = true → e.on ≠ i) → oi.apart ops oj = true) →
      i ∈ Region.ready md ops ls → YieldsIn P ops C oi v a →
      headQ P md ops C n L f (ls.setIfInBounds i true) (a.put oi.dst v) → headQ P md ops C n L (f + 1) ls a := by
  intro f
  induction f with
  | zero =>
    intro ls a inv _ hr hy H
    have hun := (mem_ready.1 hr).1
    refine ⟨fun h => (by rw [h] at hr; cases hr), fun j hj => ?_⟩
    have hjn : j < n := by
      rcases Nat.lt_or_ge j n with h | h
      · exact h
      · exact absurd hj (tail_waits hs hc hn inv _ i rfl hin hun j h)
    refine ⟨hjn, ?_⟩
    by_cases hji : j = i
    · subst hji; exact hy.qOp hi H
    · exact absurd (hdone _ _ H j (ready_mono hj hji)) (by omega)
  | succ f ih =>
    intro ls a inv hfree hr hy H
    have hun := (mem_ready.1 hr).1
    refine ⟨fun h => (by rw [h] at hr; cases hr), fun j hj => ?_⟩
    have hjn : j < n := by
      rcases Nat.lt_or_ge j n with h | h
      · exact h
      · exact absurd hj (tail_waits hs hc hn inv _ i rfl hin hun j h)
    refine ⟨hjn, ?_⟩
    by_cases hji : j = i
    · subst hji; exact hy.qOp hi H
    · have h1 := (H.2 j (ready_mono hj hji)).2
      obtain ⟨hjun, oj, hoj, hall⟩ := mem_ready.1 hj
      have hnot : ∀ e ∈ oj.after, Region.binds md e = true → e.on ≠ i := fun e he hb heq => by
        have h5 := hall e he hb
        rw [heq, getD_both hun] at h5
        cases h5
      have h2 := qOp_put hoj (hfree j oj hoj hji hjun hnot) (fun cs b => hsel i oi cs b hi) (fun cs b => hsel j oj cs b hoj) hy h1
      have hfree' : ∀ k ok, ops[k]? = some ok → k ≠ i → (ls.setIfInBounds j true).getD k true = false →
          (∀ e ∈ ok.after, Region.binds md e = true → e.on ≠ i) → oi.apart ops ok = true := fun k ok hk hki hun hno => by
        refine hfree k ok hk hki ?_ hno
        by_cases hjk : j = k
        · subst hjk; exact hjun
        · rw [getD_set_ne true hjk] at hun; exact hun
      refine qOp_mono (fun a' h3 => ih (ls.setIfInBounds j true) a' (inv.set hj hjn) hfree' (ready_mono hr (Ne.symm hji)) h3.1 ?_) h2
      rw [Array.setIfInBounds_comm _ _ hji]
      exact h3.2
theorem headQ_lex {n g : Nat} {Lq : Act → Prop} (hsel : Region.noSelect ops = true) (hs : Region.sinkB md ops n = true) (hc : Region.chainB md ops n = true) (hn : n < ops.size) :
    ∀ (l : List Oper) (k : Nat) (ls : Array Bool) (a : Act), (∀ j, j < l.length → l[j]? = ops[k + j]?) → k + l.length = n → HeadInv md ops n ls →
    Region.lexHead md ops g l.length k ls = true → wpQuiet P ops C Lq l a →
    headQ P md ops C n (fun ls' a' => Region.seqB md ops g n ls' = true ∧ Lq a') l.length ls a
  | [], k, ls, a, _, hk, _, hB, h => by
    have : k = n := by simpa using hk
    subst this
    exact ⟨by simpa [Region.lexHead] using hB, h⟩
  | o :: l, k, ls, a, hl, hk, inv, hB, h => by
    have h0 : ops[k]? = some o := by simpa using (hl 0 (by simp)).symm
    simp only [List.length_cons, Region.lexHead, Bool.and_eq_true] at hB
    obtain ⟨⟨hr, hf⟩, hB'⟩ := hB
    have hkn : k < n := by simp only [List.length_cons] at hk; omega
    have hr' : k ∈ Region.ready md ops ls := by simpa using hr
    have hst : qOp P ops C k (wpQuiet P ops C Lq l) a := by unfold qOp; simp only [h0]; exact h
    obtain ⟨v, hy, hK⟩ := yieldsIn_of_qOp h0 hst
    exact headQ_first h0 (Region.noSelect_spec hsel) hs hc hn hkn (fun ls' a' hL => seqB_ready hL.1) l.length ls a inv (Region.free_spec h0 hf) hr' hy
      (headQ_lex hsel hs hc hn l (k + 1) _ _ (fun j hj => by have := hl (j + 1) (by simp; omega); simpa [Nat.add_assoc, Nat.add_comm 1 j] using this) (by simp only [List.length_cons] at hk; omega) (inv.set hr' hkn) hB' hK)
/-- The region: the first n operations quietly, in a class of worlds; then the rest as a list, from every world of the class. -/
theorem wp_region_quiet_tail {id : Nat} {Q : Exit → Act → World → Prop} {a : Act} {w : World} {l : List Oper} (n : Nat) (hm : P.follows .mixedOrders = true) (hB : Region.lexTailB .any l.toArray n = true) (hC : C { w with drawn := w.drawn + 1 })
    (h : wpQuiet P l.toArray C (fun a' => ∀ w', C w' → wpList P l.toArray Q (l.drop n) a' w') (l.take n) a) : (Code.region id l.toArray true).wp P Q a w := by
  simp only [Region.lexTailB, Bool.and_eq_true, decide_eq_true_eq] at hB
  obtain ⟨⟨⟨⟨hsel, hn⟩, hs⟩, hc⟩, hlex⟩ := hB
  have hn' : n < l.length := by simpa using hn
  have htl : (l.take n).length = n := by simp; omega
  have hdl : (l.drop n).length = l.toArray.size - n := by simp
  have inv0 : HeadInv .any l.toArray n (Array.replicate l.toArray.size false) :=
    ⟨by simp, fun j oj _ hl => (by rw [getD_replicate_false] at hl; cases hl), fun t _ ht => getD_in (by simpa using ht) (getD_replicate_false _ _)⟩
  have H := headQ_lex (md := .any) (g := l.toArray.size - n) hsel hs hc hn (l.take n) 0 _ a (fun j hj => by
    have hj' : j < n := by rw [htl] at hj; exact hj
    simp [hj']) (by simpa using htl) inv0 (by rw [htl]; exact hlex) h
  refine wp_region_any hm ?_
  have := wpAny_of_headQ (Q' := Q) (g := l.toArray.size - n) (fun ls a' w' hw' hL => by
    have := wpAny_of_seq (md := .any) (Q' := Q) (l.drop n) n ls a' w' (fun j => by simp [List.getElem?_drop]) (by rw [hdl]; exact hL.1) (hL.2 w' hw')
    rwa [hdl] at this) _ _ _ _ hC H
  rw [htl, show n + (l.toArray.size - n) = l.toArray.size by omega] at this
  exact this
end
end Go.Proofs.YtidnnnjjpjadlaaGreatDoor

/- A region that draws its order, whose operations are quiet in a class of worlds, but for such as move the class on (a store): one walk serves every order. No condition: plain laws of the model's regions. -/
namespace Go.Proofs.YtidnnnjjpjadlaaGreatDoor

section
variable {P : Program} {ops : Array Oper} {md : Region.Mode} {ι : Type} {E : ι → World → Prop} {t : Nat → ι → ι}
/-- An operation's outcome in a world: the value v, and a world of the class E'. -/
def upon2 (P : Program) (E' : World → Prop) (w : World) (v : Value) : Result Next → Prop
  | .ok (.value u) w' => E' w' ∧ u = v
  | .ok .skip w' => E' w' ∧ v = undef
  | .ok (.enter f args) w' => w' = w ∧ Calls P f args w (fun e w'' => e = .returned v ∧ E' w'')
  | _ => False
def at2 (P : Program) (o : Oper) (a : Act) (E' : World → Prop) (w : World) (v : Value) : Prop := upon2 P E' w v ((execOp a.eval o).run P w)
/-- One value, in every world of every class; operation i moves class k to class t i k. -/
def quiet2 (P : Program) (E : ι → World → Prop) (t : Nat → ι → ι) (i : Nat) (o : Oper) (a : Act) (k : ι) (K : Act → ι → Prop) : Prop := ∃ v, (∀ k w, E k w → at2 P o a (E (t i k)) w v) ∧ K (a.put o.dst v) (t i k)
/-- The lexical walk from operation i on. -/
def walk2 (P : Program) (ops : Array Oper) (E : ι → World → Prop) (t : Nat → ι → ι) (Q : Act → ι → Prop) : Nat → List Oper → Act → ι → Prop
  | _, [], a, k => Q a k
  | i, o :: rest, a, k => if Region.wanted o (yielded ops a.tmps) then quiet2 P E t i o a k (walk2 P ops E t Q (i + 1) rest) else walk2 P ops E t Q (i + 1) rest (a.put o.dst undef) k
theorem walk2_nil {Q : Act → ι → Prop} {i : Nat} {a : Act} {k : ι} (h : Q a k) : walk2 P ops E t Q i [] a k := h
theorem walk2_step {Q : Act → ι → Prop} {i : Nat} {a : Act} {k : ι} {o : Oper} {rest : List Oper}
    (h : ∀ K : Act → ι → Prop, (∀ a k, walk2 P ops E t Q (i + 1) rest a k → K a k) → if Region.wanted o (yielded ops a.tmps) then quiet2 P E t i o a k K else K (a.put o.dst undef) k) : walk2 P ops E t Q i (o :: rest) a k :=
  h _ (fun _ _ h => h)
def op2 (P : Program) (ops : Array Oper) (E : ι → World → Prop) (t : Nat → ι → ι) (i : Nat) (K : Act → ι → Prop) (a : Act) (k : ι) : Prop :=
  match ops[i]? with
  | none => K a k
  | some o => if Region.wanted o (yielded ops a.tmps) then quiet2 P E t i o a k K else K (a.put o.dst undef) k
theorem op2_mono {i : Nat} {a : Act} {k : ι} {K K' : Act → ι → Prop} (h : ∀ a k, K a k → K' a k) (hh : op2 P ops E t i K a k) : op2 P ops E t i K' a k := by
  unfold op2 at *
  split
  · exact h _ _ (by simpa [*] using hh)
  · rename_i o ho
    simp only [ho] at hh
    split
    · rename_i hw
      simp only [hw, if_true] at hh
      obtain ⟨v, h1, h2⟩ := hh
      exact ⟨v, h1, h _ _ h2⟩
    · rename_i hw; simp only [hw] at hh; exact h _ _ hh
def any2 (P : Program) (md : Region.Mode) (ops : Array Oper) (E : ι → World → Prop) (t : Nat → ι → ι) (Q : Act → ι → Prop) : Nat → Array Bool → Act → ι → Prop
  | 0, ls, a, k => Region.ready md ops ls = [] ∧ Q a k
  | f + 1, ls, a, k => (Region.ready md ops ls = [] → Q a k) ∧ ∀ i ∈ Region.ready md ops ls, op2 P ops E t i (any2 P md ops E t Q f (ls.setIfInBounds i true)) a k
theorem wp_of_quiet2 {i : Nat} {o : Oper} {a : Act} {k : ι} {K : Act → ι → Prop} {K' : Act → World → Prop} {Q' : Exit → Act → World → Prop} {w : World} (hw : E k w) (h : ∀ a k w', E k w' → K a k → K' a w') (hh : quiet2 P E t i o a k K) : o.wp P a w K' Q' := by
  obtain ⟨v, h1, h2⟩ := hh
  have h3 := h1 k w hw
  unfold at2 at h3
  unfold Oper.wp
  generalize (execOp a.eval o).run P w = r at *
  cases r with
  | ok n w' =>
    cases n <;> simp only [upon2] at h3 <;> simp only [Oper.upon]
    case value u =>
      obtain ⟨e1, e2⟩ := h3
      rw [e2]
      exact h _ _ _ e1 h2
    case skip =>
      obtain ⟨e1, e2⟩ := h3
      rw [← e2]
      exact h _ _ _ e1 h2
    case enter f args =>
      obtain ⟨e1, hc⟩ := h3
      rw [e1]
      exact hc.mono fun e w'' ⟨he, hw''⟩ => by subst he; exact h _ _ _ hw'' h2
  | halt x w' => simp only [upon2] at h3
theorem wpOp_of_op2 {i : Nat} {a : Act} {k : ι} {K : Act → ι → Prop} {K' : Act → World → Prop} {Q' : Exit → Act → World → Prop} {w : World} (hC : E k w) (h : ∀ a k w', E k w' → K a k → K' a w') (hh : op2 P ops E t i K a k) : wpOp P ops Q' i K' a w := by
  unfold op2 at hh
  unfold wpOp
  split
  · rename_i ho; simp only [ho] at hh; exact h _ _ _ hC hh
  · rename_i o ho
    simp only [ho] at hh
    split
    · rename_i hw; simp only [hw, if_true] at hh; exact .inl (wp_of_quiet2 hC h hh)
    · rename_i hw; simp only [hw] at hh; exact h _ _ _ hC hh
theorem wpAny_of_any2 {Q : Act → ι → Prop} {Q' : Exit → Act → World → Prop} (hQ : ∀ a k w, E k w → Q a k → Q' .normal a w) : ∀ (f : Nat) (ls : Array Bool) (a : Act) (k : ι) (w : World), E k w →
    any2 P md ops E t Q f ls a k → wpAny P md ops Q' f ls a w
  | 0, _, _, _, _, hw, h => ⟨h.1, hQ _ _ _ hw h.2⟩
  | f + 1, _, _, _, _, hw, h => ⟨fun h0 => hQ _ _ _ hw (h.1 h0), fun i hi => wpOp_of_op2 hw (fun _ _ _ hw' h' => wpAny_of_any2 hQ f _ _ _ _ hw' h') (h.2 i hi)⟩
/-- In state a operation i leaves v in its temporary, in every world of every class, and class t i k (class k, if it does not come up). -/
def yields2 (P : Program) (ops : Array Oper) (E : ι → World → Prop) (t : Nat → ι → ι) (i : Nat) (o : Oper) (v : Value) (s : ι → ι) (a : Act) : Prop :=
  (Region.wanted o (yielded ops a.tmps) = true ∧ (∀ k w, E k w → at2 P o a (E (t i k)) w v) ∧ s = t i) ∨
  (Region.wanted o (yielded ops a.tmps) = false ∧ v = undef ∧ s = id)
theorem yields2.op {i : Nat} {o : Oper} {v : Value} {s : ι → ι} {a : Act} {k : ι} (hi : ops[i]? = some o) (hy : yields2 P ops E t i o v s a) {K : Act → ι → Prop} (h : K (a.put o.dst v) (s k)) : op2 P ops E t i K a k := by
  unfold op2
  simp only [hi]
  rcases hy with ⟨hw, hv, rfl⟩ | ⟨hw, rfl, rfl⟩
  · simp only [hw, if_true]; exact ⟨v, hv, h⟩
  · simp only [hw, Bool.false_eq_true, if_false]; exact h
theorem yields2.of_same {i : Nat} {o : Oper} {v : Value} {s : ι → ι} {a a' : Act} (hy : yields2 P ops E t i o v s a) (he : execOp a'.eval o = execOp a.eval o)
    (hw : Region.wanted o (yielded ops a'.tmps) = Region.wanted o (yielded ops a.tmps)) : yields2 P ops E t i o v s a' := by
  unfold yields2 at2 at *
  rw [he, hw]
  exact hy
theorem yields2_of_op {i : Nat} {o : Oper} {a : Act} {k : ι} {K : Act → ι → Prop} (hi : ops[i]? = some o) (h : op2 P ops E t i K a k) : ∃ v s, yields2 P ops E t i o v s a ∧ K (a.put o.dst v) (s k) := by
  unfold op2 at h
  simp only [hi] at h
  by_cases hw : Region.wanted o (yielded ops a.tmps) = true
  · simp only [hw, if_true] at h
    obtain ⟨v, h1, h2⟩ := h
    exact ⟨v, t i, .inl ⟨hw, h1, rfl⟩, h2⟩
  · simp only [hw] at h
    exact ⟨undef, id, .inr ⟨by simpa using hw, rfl, rfl⟩, h⟩
theorem op2_put (hcom : ∀ i j k, t i (t j k) = t j (t i k)) {i j : Nat} {oi oj : Oper} {v : Value} {s : ι → ι} (hj : ops[j]? = some oj) (hap : oi.apart ops oj = true)
    (hsi : ∀ cs b, oi.op ≠ .select cs b) (hsj : ∀ cs b, oj.op ≠ .select cs b) {K : Act → ι → Prop} {a : Act} {k : ι}
    (hy : yields2 P ops E t i oi v s a) (h : op2 P ops E t j K (a.put oi.dst v) (s k)) :
    op2 P ops E t j (fun a' k' => yields2 P ops E t i oi v s a' ∧ K (a'.put oi.dst v) (s k')) a k := by
  obtain ⟨h1, h2, h3⟩ := Oper.apart_spec hap
  have keep : ∀ (a : Act), yields2 P ops E t i oi v s a → ∀ u, yields2 P ops E t i oi v s (a.put oj.dst u) := fun a hy u =>
    hy.of_same (execOp_put oi hsi a oj.dst u h3) (wanted_put oi a oj.dst u h3)
  have hs : ∀ k, s (t j k) = t j (s k) := by
    rcases hy with ⟨-, -, rfl⟩ | ⟨-, -, rfl⟩
    · exact fun k => hcom i j k
    · exact fun _ => rfl
  unfold op2 at *
  simp only [hj] at *
  rw [wanted_put oj a oi.dst v h1] at h
  split
  · rename_i hw
    simp only [hw, if_true] at h
    obtain ⟨u, hu, hn⟩ := h
    refine ⟨u, fun k w hw' => ?_, keep a hy u, ?_⟩
    · have := hu k w hw'
      unfold at2 at *
      rwa [execOp_put oj hsj a oi.dst v h1] at this
    · rw [← Act.put_comm a v u h2, hs]; exact hn
  · rename_i hw
    simp only [hw] at h
    exact ⟨keep a hy _, by rw [← Act.put_comm a v undef h2]; exact h⟩
theorem any2_first (hcom : ∀ i j k, t i (t j k) = t j (t i k)) {Q : Act → ι → Prop} {i : Nat} {oi : Oper} {v : Value} {s : ι → ι} (hi : ops[i]? = some oi) (hsel : ∀ (j : Nat) (o : Oper) cs b, ops[j]? = some o → o.op ≠ .select cs b) :
    ∀ (f : Nat) (ls : Array Bool) (a : Act) (k : ι),
      (∀ j oj, ops[j]? = some oj → j ≠ i → ls.getD j true = false → (∀ e ∈ oj.after, Region.binds md e = true → e.on ≠ i) → oi.apart ops oj = true) →
      i ∈ Region.ready md ops ls → yields2 P ops E t i oi v s a →
      any2 P md ops E t Q f (ls.setIfInBounds i true) (a.put oi.dst v) (s k) → any2 P md ops E t Q (f + 1) ls a k := by
  intro f
  induction f with
  | zero =>
    intro ls a k _ hr hy H
    refine ⟨fun h => (by rw [h] at hr; cases hr), fun j hj => ?_⟩
    by_cases hji : j = i
    · subst hji; exact hy.op hi H
    · have := ready_mono hj hji
      rw [H.1] at this
      cases this
  | succ f ih =>
    intro ls a k hfree hr hy H
    have hun := (mem_ready.1 hr).1
    refine ⟨fun h => (by rw [h] at hr; cases hr), fun j hj => ?_⟩
    by_cases hji : j = i
    · subst hji; exact hy.op hi H
    · have h1 := H.2 j (ready_mono hj hji)
      obtain ⟨hjun, oj, hoj, hall⟩ := mem_ready.1 hj
      have hnot : ∀ e ∈ oj.after, Region.binds md e = true → e.on ≠ i := fun e he hb heq => by
        have h5 := hall e he hb
        rw [heq, getD_both hun] at h5
        cases h5
      have h2 := op2_put hcom hoj (hfree j oj hoj hji hjun hnot) (fun cs b => hsel i oi cs b hi) (fun cs b => hsel j oj cs b hoj) hy h1
      have hfree' : ∀ x ox, ops[x]? = some ox → x ≠ i → (ls.setIfInBounds j true).getD x true = false →
          (∀ e ∈ ox.after, Region.binds md e = true → e.on ≠ i) → oi.apart ops ox = true := fun x ox hx hxi hunx hno => by
        refine hfree x ox hx hxi ?_ hno
        by_cases hjx : j = x
        · subst hjx; exact hjun
        · rw [getD_set_ne true hjx] at hunx; exact hunx
      refine op2_mono (fun a' k' h3 => ih (ls.setIfInBounds j true) a' k' hfree' (ready_mono hr (Ne.symm hji)) h3.1 ?_) h2
      rw [Array.setIfInBounds_comm _ _ hji]
      exact h3.2
theorem any2_lex (hcom : ∀ i j k, t i (t j k) = t j (t i k)) {Q : Act → ι → Prop} (hs : Region.noSelect ops = true) : ∀ (l : List Oper) (i : Nat) (ls : Array Bool) (a : Act) (k : ι), (∀ j, l[j]? = ops[i + j]?) →
    Region.lexFrom md ops l.length i ls = true → walk2 P ops E t Q i l a k → any2 P md ops E t Q l.length ls a k
  | [], _, _, _, _, _, hB, h => ⟨by simpa [Region.lexFrom] using hB, h⟩
  | o :: l, i, ls, a, k, hl, hB, h => by
    have h0 : ops[i]? = some o := by simpa using (hl 0).symm
    simp only [List.length_cons, Region.lexFrom, Bool.and_eq_true] at hB
    obtain ⟨⟨hr, hf⟩, hB'⟩ := hB
    have hst : op2 P ops E t i (walk2 P ops E t Q (i + 1) l) a k := by unfold op2; simp only [h0]; exact h
    obtain ⟨v, s, hy, hK⟩ := yields2_of_op h0 hst
    exact any2_first hcom h0 (Region.noSelect_spec hs) l.length ls a k (Region.free_spec h0 hf) (by simpa using hr) hy
      (any2_lex hcom hs l (i + 1) _ _ _ (fun j => by have := hl (j + 1); simpa [Nat.add_assoc, Nat.add_comm 1 j] using this) hB' hK)
/-- One walk of the lexical order serves every order; what stands behind the region is asked in every world of the last class. -/
theorem wp_region_quiet2 {id : Nat} {Q : Exit → Act → World → Prop} {a : Act} {w : World} {l : List Oper} (E : ι → World → Prop) (t : Nat → ι → ι) (k : ι) (hcom : ∀ i j k, t i (t j k) = t j (t i k)) (hm : P.follows .mixedOrders = true) (hB : Region.lexB .any l.toArray = true) (hC : E k { w with drawn := w.drawn + 1 })
    (h : walk2 P l.toArray E t (fun a' k' => ∀ w', E k' w' → Q .normal a' w') 0 l a k) : (Code.region id l.toArray true).wp P Q a w := by
  simp only [Region.lexB, Bool.and_eq_true] at hB
  refine wp_region_any hm (wpAny_of_any2 (t := t) (Q := fun a' k' => ∀ w', E k' w' → Q .normal a' w') (fun _ _ w' hw' h => h w' hw') _ _ _ _ _ hC ?_)
  have := any2_lex (P := P) (E := E) (t := t) (md := .any) hcom hB.1 l 0 (Array.replicate l.toArray.size false) a k (by simp) (by simpa using hB.2) h
  simpa using this
/-- The one step that moves the class on: operation s sets the mark. -/
def mark (s i : Nat) (k : Nat) : Nat := if i = s then 1 else k
theorem mark_comm (s i j : Nat) (k : Nat) : mark s i (mark s j k) = mark s j (mark s i k) := by unfold mark; split <;> split <;> rfl
end
end Go.Proofs.YtidnnnjjpjadlaaGreatDoor
