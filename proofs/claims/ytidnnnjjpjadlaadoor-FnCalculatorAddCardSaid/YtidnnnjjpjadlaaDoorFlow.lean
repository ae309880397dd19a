/- A region that draws its order and holds calls: each operation is shown once, out of what is known of its operands, whatever the order. No condition: laws on walks alone. -/
import Derived.Test.YtidnnnjjpjadlaaDoorPick
import Derived.Orders
namespace Go.Proofs.YtidnnnjjpjadlaaDoor
open Go.ChangeShapes Go.WideShapes Go.ChangeAt Go.RowKit

/-- The sum of f over the first n marks. -/
def tot (f : Nat → Bool → Nat) (l : Array Bool) : Nat → Nat
  | 0 => 0
  | n + 1 => tot f l n + f n (l.getD n true)

theorem getD_set_self {l : Array Bool} {i : Nat} (h : i < l.size) (d : Bool) : (l.setIfInBounds i true).getD i d = true := by
  simp [Array.getD_eq_getD_getElem?, h]
theorem getD_set_far {l : Array Bool} {i j : Nat} (h : i ≠ j) (d : Bool) : (l.setIfInBounds i true).getD j d = l.getD j d := by
  simp [Array.getD_eq_getD_getElem?, h]

theorem tot_set_far (f : Nat → Bool → Nat) (l : Array Bool) {i : Nat} : ∀ n, n ≤ i → tot f (l.setIfInBounds i true) n = tot f l n
  | 0, _ => rfl
  | n + 1, h => by rw [tot, tot, tot_set_far f l n (by omega), getD_set_far (by omega)]
theorem tot_set (f : Nat → Bool → Nat) (l : Array Bool) {i : Nat} (hs : i < l.size) : ∀ n, i < n → tot f (l.setIfInBounds i true) n + f i (l.getD i true) = tot f l n + f i true
  | 0, h => by omega
  | n + 1, h => by
    rw [tot, tot]
    rcases Nat.lt_or_ge i n with hlt | hge
    · have := tot_set f l hs n hlt
      rw [getD_set_far (by omega)]; omega
    · have e : i = n := by omega
      subst e
      rw [tot_set_far f l i (Nat.le_refl _), getD_set_self hs]; omega
theorem tot_le (f : Nat → Bool → Nat) (hf : ∀ i, f i false ≤ f i true) (l : Array Bool) : ∀ n, tot f l n ≤ tot f #[] n
  | 0 => Nat.le_refl _
  | n + 1 => by
    rw [tot, tot]
    have := tot_le f hf l n
    have h2 : f n (l.getD n true) ≤ f n ((#[] : Array Bool).getD n true) := by
      cases l.getD n true
      · simpa using hf n
      · simp
    omega
theorem tot_zero {f : Nat → Bool → Nat} {l : Array Bool} : ∀ {n : Nat}, tot f l n = 0 → ∀ i, i < n → f i (l.getD i true) = 0
  | 0, _, _, h => by omega
  | n + 1, h, i, hi => by
    rw [tot] at h
    rcases Nat.lt_or_ge i n with hlt | hge
    · exact tot_zero (n := n) (by omega) i hlt
    · have e : i = n := by omega
      subst e; omega
theorem tot_same {f : Nat → Bool → Nat} {l : Array Bool} {b : Bool} : ∀ {n : Nat}, (∀ i, i < n → l.getD i true = b) → ∀ {l' : Array Bool}, (∀ i, i < n → l'.getD i true = b) → tot f l n = tot f l' n
  | 0, _, _, _ => rfl
  | n + 1, h, l', h' => by rw [tot, tot, tot_same (fun i hi => h i (by omega)) (fun i hi => h' i (by omega)), h n (by omega), h' n (by omega)]

def unl (_ : Nat) (b : Bool) : Nat := if b then 0 else 1

section
variable {P : Program} {ops : Array Oper} {Q : Exit → Act → World → Prop} {md : Region.Mode}

theorem ready_spec {l : Array Bool} {i : Nat} : i ∈ Region.ready md ops l ↔ i < ops.size ∧ l.getD i true = false ∧ ∃ o, ops[i]? = some o ∧ ∀ e ∈ o.after, Region.binds md e = true → l.getD e.on false = true := by
  unfold Region.ready
  simp only [List.mem_filter, List.mem_range, Bool.and_eq_true, Bool.not_eq_true']
  constructor
  · rintro ⟨h1, h2, h3⟩
    refine ⟨h1, h2, ?_⟩
    cases ho : ops[i]? with
    | none => rw [ho] at h3; simp at h3
    | some o =>
      refine ⟨o, rfl, fun e he hb => ?_⟩
      rw [ho] at h3
      simp only [Option.map_some, Option.getD_some, Array.all_eq_true'] at h3
      have := h3 e he
      simpa [hb] using this
  · rintro ⟨h1, h2, o, ho, h3⟩
    refine ⟨h1, h2, ?_⟩
    rw [ho]
    simp only [Option.map_some, Option.getD_some, Array.all_eq_true']
    intro e he
    cases hb : Region.binds md e
    · simp
    · simp [h3 e he hb]

/-- Whatever is kept by each operation that may come up holds at the end. -/
theorem wpAny_inv (J : Array Bool → Act → World → Prop) (hsz : ∀ l a w, J l a w → l.size = ops.size)
    (hstep : ∀ l a w i, J l a w → i ∈ Region.ready md ops l → wpOp P ops Q i (J (l.setIfInBounds i true)) a w)
    (hend : ∀ l a w, J l a w → Region.ready md ops l = [] → Q .normal a w) :
    ∀ fuel l a w, tot unl l ops.size ≤ fuel → J l a w → wpAny P md ops Q fuel l a w
  | 0, l, a, w, hu, hJ => by
    have h0 : Region.ready md ops l = [] := by
      cases hr : Region.ready md ops l with
      | nil => rfl
      | cons i t =>
        have hi : i ∈ Region.ready md ops l := by rw [hr]; exact List.mem_cons_self
        obtain ⟨h1, h2, _⟩ := ready_spec.1 hi
        have := tot_zero (f := unl) (l := l) (n := ops.size) (by omega) i h1
        rw [h2] at this; simp [unl] at this
    exact ⟨h0, hend _ _ _ hJ h0⟩
  | fuel + 1, l, a, w, hu, hJ => by
    refine ⟨hend _ _ _ hJ, fun i hi => ?_⟩
    obtain ⟨h1, h2, _⟩ := ready_spec.1 hi
    have hs := hsz _ _ _ hJ
    have ht := tot_set unl l (i := i) (by omega) ops.size h1
    rw [h2] at ht
    exact wpOp_mono (fun a' w' h => wpAny_inv J hsz hstep hend fuel _ a' w' (by simp [unl] at ht; omega) h) (hstep _ _ _ _ hJ hi)

/-- What is known in the midst of a region: of each operation that came up, what its temporary holds; the temporaries of the others are as they were. -/
structure Mid (ops : Array Oper) (a0 : Act) (Φ : Nat → Value → World → Prop) (I : Nat → World → Prop) (cost : Nat → Nat) (l : Array Bool) (a : Act) (w : World) : Prop where
  size : l.size = ops.size
  defers : a.defers = a0.defers
  tsize : a.tmps.size = a0.tmps.size
  old : ∀ t, (∀ j o, ops[j]? = some o → o.dst = some t → l.getD j true = false) → a.tmps.getD t undef = a0.tmps.getD t undef
  new : ∀ j o t, ops[j]? = some o → o.dst = some t → l.getD j true = true → Φ j (a.tmps.getD t undef) w
  inv : I (tot (fun i b => if b then cost i else 0) l ops.size) w

/-- What an operation may lean on when it comes up. -/
structure Sees (ops : Array Oper) (a0 : Act) (Φ : Nat → Value → World → Prop) (o : Oper) (md : Region.Mode) (a : Act) (w : World) : Prop where
  old : ∀ t, (ops.all fun x => x.dst != some t) = true → a.eval (.tmp t) = a0.eval (.tmp t)
  new : ∀ j t x, ops[j]? = some x → x.dst = some t → (o.after.any fun e => e.on == j && Region.binds md e) = true → Φ j (a.eval (.tmp t)) w

/-- What an operation leaves. -/
def Leaves (Φ : Nat → Value → World → Prop) (I : Nat → World → Prop) (o : Oper) (i M : Nat) (a : Act) (w : World) (a' : Act) (w' : World) : Prop :=
  ∃ v, a' = a.put o.dst v ∧ Φ i v w' ∧ (∀ j u, Φ j u w → Φ j u w') ∧ I M w'

/-- The checks on a region: edges lead back, no guards, temporaries apart, in bounds. -/
def tidy (md : Region.Mode) (ops : Array Oper) (m : Nat) : Bool :=
  (List.range ops.size).all fun i => match ops[i]? with
    | none => false
    | some o => (o.after.all fun e => !Region.binds md e || e.on < i) && (match o.guard with | none => true | _ => false) &&
      (match o.dst with | none => true | some t => decide (t < m) && (List.range ops.size).all fun j => j == i || (match ops[j]? with | none => true | some x => x.dst != some t))

theorem wp_region_mid {id : Nat} {a0 : Act} {w0 : World} (Φ : Nat → Value → World → Prop) (I : Nat → World → Prop) (cost : Nat → Nat) (N : Nat)
    (hm : P.follows .mixedOrders = true) (htidy : tidy .any ops a0.tmps.size = true)
    (hI : I 0 w0.drew)
    (hN : tot (fun i b => if b then cost i else 0) #[] ops.size ≤ N)
    (hmono : ∀ n m w, I n w → n ≤ m → I m w)
    (hstep : ∀ i o, ops[i]? = some o → ∀ a w M, M + cost i ≤ N → I M w → Sees ops a0 Φ o .any a w → o.wp P a w (Leaves Φ I o i (M + cost i) a w) Q)
    (hend : ∀ a w, a.defers = a0.defers → a.tmps.size = a0.tmps.size → (∀ t, (ops.all fun x => x.dst != some t) = true → a.tmps.getD t undef = a0.tmps.getD t undef) →
      (∀ j o t, ops[j]? = some o → o.dst = some t → Φ j (a.tmps.getD t undef) w) → I N w → Q .normal a w) :
    (Code.region id ops true).wp P Q a0 w0 := by
  have htd : ∀ i o, ops[i]? = some o → (∀ e ∈ o.after, Region.binds .any e = true → e.on < i) ∧ o.guard = none ∧ (∀ t, o.dst = some t → t < a0.tmps.size ∧ ∀ j x, ops[j]? = some x → j ≠ i → x.dst ≠ some t) := by
    intro i o hio
    have hi : i < ops.size := (Array.getElem?_eq_some_iff.1 hio).1
    have h := List.all_eq_true.1 htidy i (List.mem_range.2 hi)
    simp only [hio, Bool.and_eq_true] at h
    obtain ⟨⟨h1, h2⟩, h3⟩ := h
    refine ⟨fun e he hb => ?_, ?_, fun t ht => ?_⟩
    · have := Array.all_eq_true'.1 h1 e he
      simpa [hb] using this
    · cases hg : o.guard with
      | none => rfl
      | some x => rw [hg] at h2; simp at h2
    · rw [ht] at h3
      simp only [Bool.and_eq_true, decide_eq_true_eq] at h3
      refine ⟨h3.1, fun j x hj hne hx => ?_⟩
      have hj' : j < ops.size := (Array.getElem?_eq_some_iff.1 hj).1
      have := List.all_eq_true.1 h3.2 j (List.mem_range.2 hj')
      simp [hj, hne, hx] at this
  have hfle : ∀ l : Array Bool, tot (fun i b => if b then cost i else 0) l ops.size ≤ N := fun l => Nat.le_trans (tot_le _ (by intro i; simp) l _) hN
  refine wp_region_any hm ?_
  refine wpAny_inv (Mid ops a0 Φ I cost) (fun _ _ _ h => h.size) ?_ ?_ _ _ _ _ ?_ ?_
  · intro l a w i hM hi
    obtain ⟨h1, h2, o, hio, h3⟩ := ready_spec.1 hi
    obtain ⟨t1, t2, t3⟩ := htd i o hio
    have htot := tot_set (fun i b => if b then cost i else 0) l (i := i) (by rw [hM.size]; exact h1) ops.size h1
    rw [h2] at htot
    simp only [Bool.false_eq_true, if_false, if_true, Nat.add_zero] at htot
    have hsee : Sees ops a0 Φ o .any a w := by
      refine ⟨fun t ht => hM.old t fun j x hj hx => ?_, fun j t x hj hx hany => ?_⟩
      · have hj' := Array.all_eq_true.1 ht j (Array.getElem?_eq_some_iff.1 hj).1
        have := (Array.getElem?_eq_some_iff.1 hj).2
        rw [this] at hj'
        simp [hx] at hj'
      · obtain ⟨e, he, hb⟩ := Array.any_eq_true'.1 hany
        simp only [Bool.and_eq_true, beq_iff_eq] at hb
        have hl := h3 e he hb.2
        rw [hb.1] at hl
        refine hM.new j x t hj hx ?_
        cases hlj : l[j]? with
        | none => simp [Array.getD_eq_getD_getElem?, hlj] at hl
        | some b => simpa [Array.getD_eq_getD_getElem?, hlj] using hl
    have hs := hstep i o hio a w _ (by have := hfle (l.setIfInBounds i true); omega) hM.inv hsee
    unfold wpOp
    rw [hio]
    have hw : Region.wanted o (yielded ops a.tmps) = true := by simp [Region.wanted, t2]
    simp only [hw, if_true]
    refine .inl (Oper.wp_mono ?_ hs)
    rintro a' w' ⟨v, rfl, hΦ, hst, hI'⟩
    refine ⟨by simpa using hM.size, ?_, ?_, ?_, ?_, ?_⟩
    · rw [← hM.defers]; unfold Act.put; cases o.dst <;> rfl
    · rw [← hM.tsize]; unfold Act.put; cases o.dst <;> simp
    · intro t ht
      have hne : o.dst ≠ some t := fun hx => by
        have := ht i o hio hx
        rw [getD_set_self (by rw [hM.size]; exact h1)] at this
        cases this
      have e1 : (a.put o.dst v).tmps.getD t undef = a.tmps.getD t undef := by
        unfold Act.put
        cases hd : o.dst with
        | none => rfl
        | some d => simp [Array.getD_eq_getD_getElem?, show d ≠ t from fun e => hne (by rw [hd, e])]
      rw [e1]
      refine hM.old t fun j x hj hx => ?_
      have := ht j x hj hx
      rw [getD_set_far (by intro e; subst e; rw [hio] at hj; injection hj with hj; rw [← hj] at hx; exact hne hx)] at this
      exact this
    · intro j x t hj hx hl
      by_cases hji : j = i
      · subst hji
        rw [hio] at hj; injection hj with hj; subst hj
        have ht3 := (t3 t hx).1
        have e1 : (a.put o.dst v).tmps.getD t undef = v := by
          unfold Act.put
          rw [hx]
          simp [Array.getD_eq_getD_getElem?, hM.tsize, ht3]
        rw [e1]; exact hΦ
      · rw [getD_set_far (Ne.symm hji)] at hl
        have hne : o.dst ≠ some t := fun hx' => (t3 t hx').2 j x hj hji hx
        have e1 : (a.put o.dst v).tmps.getD t undef = a.tmps.getD t undef := by
          unfold Act.put
          cases hd : o.dst with
          | none => rfl
          | some d => simp [Array.getD_eq_getD_getElem?, show d ≠ t from fun e => hne (by rw [hd, e])]
        rw [e1]; exact hst _ _ (hM.new j x t hj hx hl)
    · rw [htot]; exact hI'
  · intro l a w hM hr
    have hall : ∀ n i, i < n → i < ops.size → l.getD i true = true := by
      intro n
      induction n with
      | zero => intro i h; omega
      | succ n ih =>
        intro i hi hio
        rcases Nat.lt_or_ge i n with hlt | hge
        · exact ih i hlt hio
        · cases hl : l.getD i true with
          | true => rfl
          | false =>
            have hi2 : ops[i]? = some ops[i] := by simp [hio]
            have : i ∈ Region.ready .any ops l := by
              refine ready_spec.2 ⟨hio, hl, ops[i], hi2, fun e he hb => ?_⟩
              have hlt := (htd i _ hi2).1 e he hb
              have := ih e.on (by omega) (by omega)
              have hz : e.on < l.size := by rw [hM.size]; omega
              simp only [Array.getD_eq_getD_getElem?, Array.getElem?_eq_getElem hz, Option.getD_some] at this ⊢
              exact this
            rw [hr] at this; cases this
    refine hend a w hM.defers hM.tsize (fun t ht => hM.old t fun j x hj hx => ?_) (fun j o t hj ht => hM.new j o t hj ht (hall (j + 1) j (by omega) (Array.getElem?_eq_some_iff.1 hj).1)) (hmono _ _ _ hM.inv (hfle l))
    have hj' := Array.all_eq_true.1 ht j (Array.getElem?_eq_some_iff.1 hj).1
    have := (Array.getElem?_eq_some_iff.1 hj).2
    rw [this] at hj'
    simp [hx] at hj'
  · have : ∀ n l, tot unl l n ≤ n := by
      intro n l
      induction n with
      | zero => exact Nat.le_refl _
      | succ n ih => rw [tot]; have : unl n (l.getD n true) ≤ 1 := by unfold unl; split <;> omega
                     omega
    exact this _ _
  · have hf : ∀ j, (hj : j < ops.size) → (Array.replicate ops.size false).getD j true = false := by
      intro j hj; simp [Array.getD_eq_getD_getElem?, hj]
    refine ⟨by simp, rfl, rfl, fun _ _ => rfl, fun j o t hj _ hl => ?_, ?_⟩
    · rw [hf j (Array.getElem?_eq_some_iff.1 hj).1] at hl; cases hl
    · have hz : ∀ n l, (∀ i, i < n → l.getD i true = false) → tot (fun i b => if b then cost i else 0) l n = 0 := by
        intro n l
        induction n with
        | zero => intro _; rfl
        | succ n ih => intro h; rw [tot, ih (fun i hi => h i (by omega)), h n (by omega)]; simp
      rw [hz _ _ (fun i hi => hf i hi)]
      exact hI

end
end Go.Proofs.YtidnnnjjpjadlaaDoor
