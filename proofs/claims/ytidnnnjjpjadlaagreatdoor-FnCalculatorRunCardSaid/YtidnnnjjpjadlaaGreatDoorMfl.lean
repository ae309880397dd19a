/- A region that draws its order and holds calls: each operation is shown once, out of what is known of its operands, whatever the order. No condition: laws on walks alone. -/
import Derived.Test.YtidnnnjjpjadlaaGreatDoorPick
import Derived.Orders
namespace Go.Proofs.YtidnnnjjpjadlaaGreatDoor
open Go.ChangeShapes Go.WideShapes Go.ChangeAt Go.RowKit

/-- The sum of f over the first n marks. -/
def tot (f : Nat → Bool → Nat) (l : Array Bool) : Nat → Nat
  | 0 => 0
  | n + 1 => tot f l n + f n (l.getD n true)

theorem getD_set_self {l : Array Bool} {i : Nat} (h : i < l.size) (d : Bool) : (l.setIfInBounds i true).getD i d = true := by
  simp [Array.getD_eq_getD_getElem?, h]
theorem getD_set_far {l : Array Bool} {i j : Nat} (h : i ≠ j) (d : Bool) : (l.setIfInBounds i true).getD j d = l.getD j d := by
  simp [Array.getD_eq_getD_getElem?, h]

theorem tot_set_far (f : Nat → Bool → Nat) (l : Array Bool) {i : Nat} : ∀ n, n ≤ i → tot f (l.setIfInBounds i true) n = tot f l n
  | 0, _ => rfl
  | n + 1, h => by rw [tot, tot, tot_set_far f l n (by omega), getD_set_far (by omega)]
theorem tot_set (f : Nat → Bool → Nat) (l : Array Bool) {i : Nat} (hs : i < l.size) : ∀ n, i < n → tot f (l.setIfInBounds i true) n + f i (l.getD i true) = tot f l n + f i true
  | 0, h => by omega
  | n + 1, h => by
    rw [tot, tot]
    rcases Nat.lt_or_ge i n with hlt | hge
    · have := tot_set f l hs n hlt
      rw [getD_set_far (by omega)]; omega
    · have e : i = n := by omega
      subst e
      rw [tot_set_far f l i (Nat.le_refl _), getD_set_self hs]; omega
theorem tot_le (f : Nat → Bool → Nat) (hf : ∀ i, f i false ≤ f i true) (l : Array Bool) : ∀ n, tot f l n ≤ tot f #[] n
  | 0 => Nat.le_refl _
  | n + 1 => by
    rw [tot, tot]
    have := tot_le f hf l n
    have h2 : f n (l.getD n true) ≤ f n ((#[] : Array Bool).getD n true) := by
      cases l.getD n true
      · simpa using hf n
      · simp
    omega
theorem tot_zero {f : Nat → Bool → Nat} {l : Array Bool} : ∀ {n : Nat}, tot f l n = 0 → ∀ i, i < n → f i (l.getD i true) = 0
  | 0, _, _, h => by omega
  | n + 1, h, i, hi => by
    rw [tot] at h
    rcases Nat.lt_or_ge i n with hlt | hge
    · exact tot_zero (n := n) (by omega) i hlt
    · have e : i = n := by omega
      subst e; omega
theorem tot_same {f : Nat → Bool → Nat} {l : Array Bool} {b : Bool} : ∀ {n : Nat}, (∀ i, i < n → l.getD i true = b) → ∀ {l' : Array Bool}, (∀ i, i < n → l'.getD i true = b) → tot f l n = tot f l' n
  | 0, _, _, _ => rfl
  | n + 1, h, l', h' => by rw [tot, tot, tot_same (fun i hi => h i (by omega)) (fun i hi => h' i (by omega)), h n (by omega), h' n (by omega)]

def unl (_ : Nat) (b : Bool) : Nat := if b then 0 else 1

section
variable {P : Program} {ops : Array Oper} {Q : Exit → Act → World → Prop} {md : Region.Mode}

theorem ready_spec {l : Array Bool} {i : Nat} : i ∈ Region.ready md ops l ↔ i < ops.size ∧ l.getD i true = false ∧ ∃ o, ops[i]? = some o ∧ ∀ e ∈ o.after, Region.binds md e = true → l.getD e.on false = true := by
  unfold Region.ready
  simp only [List.mem_filter, List.mem_range, Bool.and_eq_true, Bool.not_eq_true']
  constructor
  · rintro ⟨h1, h2, h3⟩
    refine ⟨h1, h2, ?_⟩
    cases ho : ops[i]? with
    | none => rw [ho] at h3; simp at h3
    | some o =>
      refine ⟨o, rfl, fun e he hb => ?_⟩
      rw [ho] at h3
      simp only [Option.map_some, Option.getD_some, Array.all_eq_true'] at h3
      have := h3 e he
      simpa [hb] using this
  · rintro ⟨h1, h2, o, ho, h3⟩
    refine ⟨h1, h2, ?_⟩
    rw [ho]
    simp only [Option.map_some, Option.getD_some, Array.all_eq_true']
    intro e he
    cases hb : Region.binds md e
    · simp
    · simp [h3 e he hb]

/-- Whatever is kept by each operation that may come up holds at the end. -/
theorem wpAny_inv (J : Array Bool → Act → World → Prop) (hsz : ∀ l a w, J l a w → l.size = ops.size)
    (hstep : ∀ l a w i, J l a w → i ∈ Region.ready md ops l → wpOp P ops Q i (J (l.setIfInBounds i true)) a w)
    (hend : ∀ l a w, J l a w → Region.ready md ops l = [] → Q .normal a w) :
    ∀ fuel l a w, tot unl l ops.size ≤ fuel → J l a w → wpAny P md ops Q fuel l a w
  | 0, l, a, w, hu, hJ => by
    have h0 : Region.ready md ops l = [] := by
      cases hr : Region.ready md ops l with
      | nil => rfl
      | cons i t =>
        have hi : i ∈ Region.ready md ops l := by rw [hr]; exact List.mem_cons_self
        obtain ⟨h1, h2, _⟩ := ready_spec.1 hi
        have := tot_zero (f := unl) (l := l) (n := ops.size) (by omega) i h1
        rw [h2] at this; simp [unl] at this
    exact ⟨h0, hend _ _ _ hJ h0⟩
  | fuel + 1, l, a, w, hu, hJ => by
    refine ⟨hend _ _ _ hJ, fun i hi => ?_⟩
    obtain ⟨h1, h2, _⟩ := ready_spec.1 hi
    have hs := hsz _ _ _ hJ
    have ht := tot_set unl l (i := i) (by omega) ops.size h1
    rw [h2] at ht
    exact wpOp_mono (fun a' w' h => wpAny_inv J hsz hstep hend fuel _ a' w' (by simp [unl] at ht; omega) h) (hstep _ _ _ _ hJ hi)

/-- What is known in the midst of a region: of each operation that came up, what its temporary holds; the temporaries of the others are as they were. -/
structure Mid (ops : Array Oper) (a0 : Act) (Φ : Nat → Value → World → Prop) (I : Nat → World → Prop) (cost : Nat → Nat) (l : Array Bool) (a : Act) (w : World) : Prop where
  size : l.size = ops.size
  defers : a.defers = a0.defers
  tsize : a.tmps.size = a0.tmps.size
  old : ∀ t, (∀ j o, ops[j]? = some o → o.dst = some t → l.getD j true = false) → a.tmps.getD t undef = a0.tmps.getD t undef
  new : ∀ j o t, ops[j]? = some o → o.dst = some t → l.getD j true = true → Φ j (a.tmps.getD t undef) w
  inv : I (tot (fun i b => if b then cost i else 0) l ops.size) w

/-- What an operation may lean on when it comes up. -/
structure Sees (ops : Array Oper) (a0 : Act) (Φ : Nat → Value → World → Prop) (o : Oper) (md : Region.Mode) (a : Act) (w : World) : Prop where
  old : ∀ t, (ops.all fun x => x.dst != some t) = true → a.eval (.tmp t) = a0.eval (.tmp t)
  new : ∀ j t x, ops[j]? = some x → x.dst = some t → (o.after.any fun e => e.on == j && Region.binds md e) = true → Φ j (a.eval (.tmp t)) w

/-- What an operation leaves. -/
def Leaves (Φ : Nat → Value → World → Prop) (I : Nat → World → Prop) (o : Oper) (i M : Nat) (a : Act) (w : World) (a' : Act) (w' : World) : Prop :=
  ∃ v, a' = a.put o.dst v ∧ Φ i v w' ∧ (∀ j u, Φ j u w → Φ j u w') ∧ I M w'

/-- The checks on a region: edges lead back, no guards, temporaries apart, in bounds. -/
def tidy (md : Region.Mode) (ops : Array Oper) (m : Nat) : Bool :=
  (List.range ops.size).all fun i => match ops[i]? with
    | none => false
    | some o => (o.after.all fun e => !Region.binds md e || e.on < i) && (match o.guard with | none => true | _ => false) &&
      (match o.dst with | none => true | some t => decide (t < m) && (List.range ops.size).all fun j => j == i || (match ops[j]? with | none => true | some x => x.dst != some t))

theorem wp_region_mid {id : Nat} {a0 : Act} {w0 : World} (Φ : Nat → Value → World → Prop) (I : Nat → World → Prop) (cost : Nat → Nat) (N : Nat)
    (hm : P.follows .mixedOrders = true) (htidy : tidy .any ops a0.tmps.size = true)
    (hI : I 0 w0.drew)
    (hN : tot (fun i b => if b then cost i else 0) #[] ops.size ≤ N)
    (hmono : ∀ n m w, I n w → n ≤ m → I m w)
    (hstep : ∀ i o, ops[i]? = some o → ∀ a w M, M + cost i ≤ N → I M w → Sees ops a0 Φ o .any a w → o.wp P a w (Leaves Φ I o i (M + cost i) a w) Q)
    (hend : ∀ a w, a.defers = a0.defers → a.tmps.size = a0.tmps.size → (∀ t, (ops.all fun x => x.dst != some t) = true → a.tmps.getD t undef = a0.tmps.getD t undef) →
      (∀ j o t, ops[j]? = some o → o.dst = some t → Φ j (a.tmps.getD t undef) w) → I N w → Q .normal a w) :
    (Code.region id ops true).wp P Q a0 w0 := by
  have htd : ∀ i o, ops[i]? = some o → (∀ e ∈ o.after, Region.binds .any e = true → e.on < i) ∧ o.guard = none ∧ (∀ t, o.dst = some t → t < a0.tmps.size ∧ ∀ j x, ops[j]? = some x → j ≠ i → x.dst ≠ some t) := by
    intro i o hio
    have hi : i < ops.size := (Array.getElem?_eq_some_iff.1 hio).1
    have h := List.all_eq_true.1 htidy i (List.mem_range.2 hi)
    simp only [hio, Bool.and_eq_true] at h
    obtain ⟨⟨h1, h2⟩, h3⟩ := h
    refine ⟨fun e he hb => ?_, ?_, fun t ht => ?_⟩
    · have := Array.all_eq_true'.1 h1 e he
      simpa [hb] using this
    · cases hg : o.guard with
      | none => rfl
      | some x => rw [hg] at h2; simp at h2
    · rw [ht] at h3
      simp only [Bool.and_eq_true, decide_eq_true_eq] at h3
      refine ⟨h3.1, fun j x hj hne hx => ?_⟩
      have hj' : j < ops.size := (Array.getElem?_eq_some_iff.1 hj).1
      have := List.all_eq_true.1 h3.2 j (List.mem_range.2 hj')
      simp [hj, hne, hx] at this
  have hfle : ∀ l : Array Bool, tot (fun i b => if b then cost i else 0) l ops.size ≤ N := fun l => Nat.le_trans (tot_le _ (by intro i; simp) l _) hN
  refine wp_region_any hm ?_
  refine wpAny_inv (Mid ops a0 Φ I cost) (fun _ _ _ h => h.size) ?_ ?_ _ _ _ _ ?_ ?_
  · intro l a w i hM hi
    obtain ⟨h1, h2, o, hio, h3⟩ := ready_spec.1 hi
    obtain ⟨t1, t2, t3⟩ := htd i o hio
    have htot := tot_set (fun i b => if b then cost i else 0) l (i := i) (by rw [hM.size]; exact h1) ops.size h1
    rw [h2] at htot
    simp only [Bool.false_eq_true, if_false, if_true, Nat.add_zero] at htot
    have hsee : Sees ops a0 Φ o .any a w := by
      refine ⟨fun t ht => hM.old t fun j x hj hx => ?_, fun j t x hj hx hany => ?_⟩
      · have hj' := Array.all_eq_true.1 ht j (Array.getElem?_eq_some_iff.1 hj).1
        have := (Array.getElem?_eq_some_iff.1 hj).2
        rw [this] at hj'
        simp [hx] at hj'
      · obtain ⟨e, he, hb⟩ := Array.any_eq_true'.1 hany
        simp only [Bool.and_eq_true, beq_iff_eq] at hb
        have hl := h3 e he hb.2
        rw [hb.1] at hl
        refine hM.new j x t hj hx ?_
        cases hlj : l[j]? with
        | none => simp [Array.getD_eq_getD_getElem?, hlj] at hl
        | some b => simpa [Array.getD_eq_getD_getElem?, hlj] using hl
    have hs := hstep i o hio a w _ (by have := hfle (l.setIfInBounds i true); omega) hM.inv hsee
    unfold wpOp
    rw [hio]
    have hw : Region.wanted o (yielded ops a.tmps) = true := by simp [Region.wanted, t2]
    simp only [hw, if_true]
    refine .inl (Oper.wp_mono ?_ hs)
    rintro a' w' ⟨v, rfl, hΦ, hst, hI'⟩
    refine ⟨by simpa using hM.size, ?_, ?_, ?_, ?_, ?_⟩
    · rw [← hM.defers]; unfold Act.put; cases o.dst <;> rfl
    · rw [← hM.tsize]; unfold Act.put; cases o.dst <;> simp
    · intro t ht
      have hne : o.dst ≠ some t := fun hx => by
        have := ht i o hio hx
        rw [getD_set_self (by rw [hM.size]; exact h1)] at this
        cases this
      have e1 : (a.put o.dst v).tmps.getD t undef = a.tmps.getD t undef := by
        unfold Act.put
        cases hd : o.dst with
        | none => rfl
        | some d => simp [Array.getD_eq_getD_getElem?, show d ≠ t from fun e => hne (by rw [hd, e])]
      rw [e1]
      refine hM.old t fun j x hj hx => ?_
      have := ht j x hj hx
      rw [getD_set_far (by intro e; subst e; rw [hio] at hj; injection hj with hj; rw [← hj] at hx; exact hne hx)] at this
      exact this
    · intro j x t hj hx hl
      by_cases hji : j = i
      · subst hji
        rw [hio] at hj; injection hj with hj; subst hj
        have ht3 := (t3 t hx).1
        have e1 : (a.put o.dst v).tmps.getD t undef = v := by
          unfold Act.put
          rw [hx]
          simp [Array.getD_eq_getD_getElem?, hM.tsize, ht3]
        rw [e1]; exact hΦ
      · rw [getD_set_far (Ne.symm hji)] at hl
        have hne : o.dst ≠ some t := fun hx' => (t3 t hx').2 j x hj hji hx
        have e1 : (a.put o.dst v).tmps.getD t undef = a.tmps.getD t undef := by
          unfold Act.put
          cases hd : o.dst with
          | none => rfl
          | some d => simp [Array.getD_eq_getD_getElem?, show d ≠ t from fun e => hne (by rw [hd, e])]
        rw [e1]; exact hst _ _ (hM.new j x t hj hx hl)
    · rw [htot]; exact hI'
  · intro l a w hM hr
    have hall : ∀ n i, i < n → i < ops.size → l.getD i true = true := by
      intro n
      induction n with
      | zero => intro i h; omega
      | succ n ih =>
        intro i hi hio
        rcases Nat.lt_or_ge i n with hlt | hge
        · exact ih i hlt hio
        · cases hl : l.getD i true with
          | true => rfl
          | false =>
            have hi2 : ops[i]? = some ops[i] := by simp [hio]
            have : i ∈ Region.ready .any ops l := by
              refine ready_spec.2 ⟨hio, hl, ops[i], hi2, fun e he hb => ?_⟩
              have hlt := (htd i _ hi2).1 e he hb
              have := ih e.on (by omega) (by omega)
              have hz : e.on < l.size := by rw [hM.size]; omega
              simp only [Array.getD_eq_getD_getElem?, Array.getElem?_eq_getElem hz, Option.getD_some] at this ⊢
              exact this
            rw [hr] at this; cases this
    refine hend a w hM.defers hM.tsize (fun t ht => hM.old t fun j x hj hx => ?_) (fun j o t hj ht => hM.new j o t hj ht (hall (j + 1) j (by omega) (Array.getElem?_eq_some_iff.1 hj).1)) (hmono _ _ _ hM.inv (hfle l))
    have hj' := Array.all_eq_true.1 ht j (Array.getElem?_eq_some_iff.1 hj).1
    have := (Array.getElem?_eq_some_iff.1 hj).2
    rw [this] at hj'
    simp [hx] at hj'
  · have : ∀ n l, tot unl l n ≤ n := by
      intro n l
      induction n with
      | zero => exact Nat.le_refl _
      | succ n ih => rw [tot]; have : unl n (l.getD n true) ≤ 1 := by unfold unl; split <;> omega
                     omega
    exact this _ _
  · have hf : ∀ j, (hj : j < ops.size) → (Array.replicate ops.size false).getD j true = false := by
      intro j hj; simp [Array.getD_eq_getD_getElem?, hj]
    refine ⟨by simp, rfl, rfl, fun _ _ => rfl, fun j o t hj _ hl => ?_, ?_⟩
    · rw [hf j (Array.getElem?_eq_some_iff.1 hj).1] at hl; cases hl
    · have hz : ∀ n l, (∀ i, i < n → l.getD i true = false) → tot (fun i b => if b then cost i else 0) l n = 0 := by
        intro n l
        induction n with
        | zero => intro _; rfl
        | succ n ih => intro h; rw [tot, ih (fun i hi => h i (by omega)), h n (by omega)]; simp
      rw [hz _ _ (fun i hi => hf i hi)]
      exact hI

end
end Go.Proofs.YtidnnnjjpjadlaaGreatDoor

/- A region of a drawing function: a look at its text alone tells what each operation holds (a number in bounds, a list of such numbers of the call's own), whatever order is drawn. No condition: laws on walks alone. -/
namespace Go.Proofs.YtidnnnjjpjadlaaGreatDoor
open Go.ChangeShapes Go.WideShapes Go.ChangeAt Go.RowKit

inductive El | int (lo hi : Int) | str (n : Nat) | cnt (v : Int) | ints (n : Nat) (lo hi : Int)
  deriving DecidableEq
def El.ok : El → Value → Prop
  | .int lo hi, v => ∃ x : Int, v = .int .i64 x ∧ lo ≤ x ∧ x ≤ hi
  | .str n, v => ∃ s : ByteArray, v = .string s ∧ s.size ≤ n
  | .cnt x, v => v = .int .u64 x
  | .ints n lo hi, v => ∃ cs : Array Value, v = .agg cs ∧ cs.size = n ∧ ∀ k, k < n → ∃ x : Int, cs[k]? = some (.int .i64 x) ∧ lo ≤ x ∧ x ≤ hi
/-- A block that takes a result: n numbers between lo and hi, whatever they are. -/
structure Out where
  B : Nat
  t : TypeId
  n : Nat
  lo : Int
  hi : Int
def Out.ok (o : Out) (w : World) : Prop := ∃ cs : Array Value, Blk w o.B o.t cs ∧ cs.size = o.n ∧ ∀ k, k < o.n → ∃ x : Int, cs[k]? = some (.int .i64 x) ∧ o.lo ≤ x ∧ x ≤ o.hi
/-- The reader's block, and the blocks that take results. -/
structure Cx where
  g : Nat
  outs : List Out
def Cx.free (C : Cx) (b : Nat) : Prop := b ≠ C.g ∧ ∀ o ∈ C.outs, b ≠ o.B
structure Chg (C : Cx) (w w' : World) : Prop where
  os : w'.os = w.os
  tape : w'.tape = w.tape
  output : w'.output = w.output
  size : w.heap.size ≤ w'.heap.size
  block : ∀ k, k < w.heap.size → C.free k → w'.heap[k]? = w.heap[k]?
theorem Chg.refl (C : Cx) (w : World) : Chg C w w := ⟨rfl, rfl, rfl, Nat.le_refl _, fun _ _ _ => rfl⟩
theorem Chg.drew (C : Cx) (w : World) : Chg C w w.drew := ⟨rfl, rfl, rfl, Nat.le_refl _, fun _ _ _ => rfl⟩
theorem Chg.trans {C : Cx} {a b c : World} (h : Chg C a b) (k : Chg C b c) : Chg C a c :=
  ⟨k.os.trans h.os, k.tape.trans h.tape, k.output.trans h.output, Nat.le_trans h.size k.size, fun i hi hf => (k.block i (Nat.lt_of_lt_of_le hi h.size) hf).trans (h.block i hi hf)⟩
theorem Chg.grown {C : Cx} {w w' : World} (h : w.grownBy w' (some C.g)) : Chg C w w' :=
  ⟨h.os, h.tape, h.output, h.size, fun k hk hf => h.block k hk (by intro e; injection e with e; exact hf.1 e)⟩
theorem Chg.toGrown {g : Nat} {w w' : World} (h : Chg ⟨g, []⟩ w w') : w.grownBy w' (some g) :=
  ⟨h.os, h.tape, h.output, h.size, fun k hk hne => h.block k hk ⟨fun e => hne (by rw [e]), by simp⟩⟩
/-- What is known of a value. -/
inductive Ty | any | val (e : El) | lst (n : Nat) (e : El) | cell (e : El) | many (n : Nat) (lo hi : Int) | out (n : Nat) (lo hi : Int) | rd | bool
  deriving DecidableEq
def Ty.has (C : Cx) : Ty → Value → World → Prop
  | .any, _, _ => True
  | .val e, v, _ => e.ok v
  | .lst n e, v, w => ∃ b, v = .slice (some ⟨b, 0, none⟩) n n ∧ C.free b ∧ ∀ k, k < n → ∃ u, w.cell? ⟨b, k, none⟩ = some u ∧ e.ok u
  | .cell e, v, w => ∃ b k u, v = .pointer (some ⟨b, k, none⟩) ∧ C.free b ∧ w.cell? ⟨b, k, none⟩ = some u ∧ e.ok u
  | .many n lo hi, v, w => ∃ b k, v = .pointer (some ⟨b, k, none⟩) ∧ C.free b ∧ ∀ i, i < n → ∃ x : Int, w.cell? ⟨b, k + i, none⟩ = some (.int .i64 x) ∧ lo ≤ x ∧ x ≤ hi
  | .out n lo hi, v, _ => ∃ o, o ∈ C.outs ∧ o.n = n ∧ o.lo = lo ∧ o.hi = hi ∧ v = .pointer (some ⟨o.B, 0, none⟩)
  | .rd, v, _ => v = .pointer (some ⟨C.g, 0, none⟩)
  | .bool, v, _ => ∃ b, v = .bool b

theorem cell_lt {w : World} {b k : Nat} {u : Value} (h : w.cell? ⟨b, k, none⟩ = some u) : b < w.heap.size := by
  rcases Nat.lt_or_ge b w.heap.size with hlt | hge
  · exact hlt
  · have : w.heap[b]? = none := by simp [hge]
    simp [World.cell?, this] at h

theorem cell_chg {C : Cx} {w w' : World} {b k : Nat} {u : Value} (hg : Chg C w w') (hb : C.free b) (h : w.cell? ⟨b, k, none⟩ = some u) : w'.cell? ⟨b, k, none⟩ = some u :=
  (World.cell?_of_block (w := w) (hg.block b (cell_lt h) hb)).trans h

theorem Ty.has_chg {C : Cx} {T : Ty} {v : Value} {w w' : World} (hg : Chg C w w') (h : T.has C v w) : T.has C v w' := by
  cases T with
  | any => trivial
  | val e => exact h
  | rd => exact h
  | bool => exact h
  | out n lo hi => exact h
  | lst n e =>
    obtain ⟨b, h1, h2, h3⟩ := h
    exact ⟨b, h1, h2, fun k hk => let ⟨u, hu, he⟩ := h3 k hk; ⟨u, cell_chg hg h2 hu, he⟩⟩
  | cell e =>
    obtain ⟨b, k, u, h1, h2, h3, h4⟩ := h
    exact ⟨b, k, u, h1, h2, cell_chg hg h2 h3, h4⟩
  | many n lo hi =>
    obtain ⟨b, k, h1, h2, h3⟩ := h
    exact ⟨b, k, h1, h2, fun i hi => let ⟨x, hx, he⟩ := h3 i hi; ⟨x, cell_chg hg h2 hx, he⟩⟩

/-- The bounds that hold all of these numbers, and 0. -/
def hull : List Ty → Option (Int × Int)
  | [] => some (0, 0)
  | .val (.int a b) :: r => match hull r with | some (c, d) => some (min a c, max b d) | none => none
  | _ :: _ => none
/-- The size that holds all of these texts. -/
def hullS : List Ty → Option Nat
  | [] => some 0
  | .val (.str a) :: r => match hullS r with | some b => some (max a b) | none => none
  | _ :: _ => none
def rngFit (lo hi : Int) : Option (Ty × Nat) := if -9223372036854775808 ≤ lo ∧ hi ≤ 9223372036854775807 then some (.val (.int lo hi), 0) else none
def mag (a b : Int) : Int := max (max a (-a)) (max b (-b))

/-- The structs of this program that hold numbers alone, with their sizes. -/
def aggT (t : TypeId) : Nat :=
  if t = 24 then 2 else
  if t = 85 then 2 else
  0
/-- What an operation yields, by what its operands hold; and how many numbers it reads from the reader. -/
def tr (S : FuncId → List Ty → Option (Ty × Nat)) (o : Op) (ρ : Operand → Ty) : Option (Ty × Nat) :=
  match o with
  | .move x => some (ρ x, 0)
  | .assign x => some (ρ x, 0)
  | .binOp op _ x y _ =>
    match op, ρ x, ρ y with
    | .add, .val (.int a b), .val (.int c d) => rngFit (a + c) (b + d)
    | .sub, .val (.int a b), .val (.int c d) => rngFit (a - d) (b - c)
    | .mul, .val (.int a b), .val (.int c d) => if 0 ≤ a ∧ 0 ≤ c then rngFit 0 (b * d) else rngFit (-(mag a b * mag c d)) (mag a b * mag c d)
    | .shl, .val (.int a b), .val (.int c d) => if 0 ≤ c ∧ d ≤ 62 then if 0 ≤ a then rngFit 0 (b * 2 ^ d.toNat) else rngFit (-(mag a b * 2 ^ d.toNat)) (mag a b * 2 ^ d.toNat) else none
    | .shl, .val (.int a b), .val (.cnt v) => if 0 ≤ v ∧ v ≤ 62 then if 0 ≤ a then rngFit 0 (b * 2 ^ v.toNat) else rngFit (-(mag a b * 2 ^ v.toNat)) (mag a b * 2 ^ v.toNat) else none
    | .rem, .val (.int a _), .val (.int c d) => if 0 ≤ a ∧ 1 ≤ c then rngFit 0 (d - 1) else none
    | .quo, .val (.int a b), .val (.int c d) => if 0 ≤ a ∧ b ≤ 9223372036854775807 ∧ 1 ≤ c ∧ c = d then rngFit 0 (b / c) else none
    | .add, .val (.str m), .val (.str n) => if m + n ≤ 1000000 then some (.val (.str (m + n)), 0) else none
    | _, _, _ => none
  | .unOp .neg _ x => match ρ x with | .val (.int a b) => rngFit (-b) (-a) | _ => none
  | .buildSlice t n ps =>
    if t = 93 ∧ 1 ≤ n ∧ n ≤ 1000 ∧ (ps.toList.all fun p => decide (p.1 < n)) = true then
      match hull (ps.toList.map fun p => ρ p.2) with | some (a, b) => some (.lst n (.int a b), 0) | none => none
    else
    if t = 34 ∧ 1 ≤ n ∧ n ≤ 1000 ∧ (ps.toList.all fun p => decide (p.1 < n)) = true then
      match hullS (ps.toList.map fun p => ρ p.2) with | some m => some (.lst n (.str m), 0) | none => none
    else
    none
  | .indexAddr t x i =>
    if t = 93 then match ρ x, ρ i with | .lst n e, .val (.int a b) => if 0 ≤ a ∧ b < n then some (.cell e, 0) else none | _, _ => none else
    if t = 34 then match ρ x, ρ i with | .lst n e, .val (.int a b) => if 0 ≤ a ∧ b < n then some (.cell e, 0) else none | _, _ => none else
    none
  | .build t ps => if aggT t = 2 then match ps.toList with
      | [(0, x), (1, y)] => match ρ x, ρ y with | .val (.int a b), .val (.int c d) => some (.val (.ints 2 (min a c) (max b d)), 0) | _, _ => none
      | _ => none else none
  | .fieldAddr t x i => match ρ x with | .many n a b => if aggT t = n ∧ i < n then some (.cell (.int a b), 0) else none | _ => none
  | .load t x => if t = 3 then match ρ x with | .cell (.int a b) => some (.val (.int a b), 0) | _ => none
    else
    if t = 9 then match ρ x with | .cell (.str n) => some (.val (.str n), 0) | _ => none else
    match ρ x with | .many n a b => if aggT t = n ∧ n ≠ 0 then some (.val (.ints n a b), 0) else none | _ => none
  | .store t x v => match ρ x, ρ v with | .out n lo hi, .val (.ints m a b) => if aggT t = n ∧ m = n ∧ n ≠ 0 ∧ lo ≤ a ∧ b ≤ hi then some (.any, 0) else none | _, _ => none
  | .call c =>
    match c.callee with
    | .value (.func f) => S f (c.args.toList.map ρ)
    | .builtin .min => match c.args.toList.map ρ with | [.val (.int a b), .val (.int c d)] => some (.val (.int (min a c) (min b d)), 0) | _ => none
    | .builtin .max => match c.args.toList.map ρ with | [.val (.int a b), .val (.int c d)] => some (.val (.int (max a c) (max b d)), 0) | _ => none
    | _ => none
  | _ => none

/-- What an operand holds, by what the others have yielded. -/
def see (ops : Array Oper) (base : Nat → Ty) (tys : List Ty) (o : Oper) : Operand → Ty
  | .tmp t => match (List.range ops.size).find? fun j => match ops[j]? with | some x => x.dst == some t | none => false with
    | some j => if (o.after.any fun e => e.on == j && Region.binds .any e) = true then tys.getD j .any else .any
    | none => base t
  | .const (.int .i64 x) => .val (.int x x)
  | .const (.int .u64 x) => .val (.cnt x)
  | .const (.string s) => .val (.str s.size)
  | _ => .any

/-- The look at a region's text: each operation's type and cost. -/
def looks (S : FuncId → List Ty → Option (Ty × Nat)) (ops : Array Oper) (base : Nat → Ty) : List Oper → List Ty → List Nat → Option (List Ty × List Nat)
  | [], tys, cs => some (tys, cs)
  | o :: r, tys, cs => match tr S o.op (see ops base tys o) with
    | some (T, c) => looks S ops base r (tys ++ [T]) (cs ++ [c])
    | none => none

theorem looks_spec {S : FuncId → List Ty → Option (Ty × Nat)} {ops : Array Oper} {base : Nat → Ty} : ∀ (r : List Oper) (tys0 : List Ty) (cs0 : List Nat) (tys : List Ty) (cs : List Nat),
    looks S ops base r tys0 cs0 = some (tys, cs) → tys0.length = cs0.length → (∃ t c, tys = tys0 ++ t ∧ cs = cs0 ++ c) ∧
    ∀ k o, r[k]? = some o → ∃ t0, tr S o.op (see ops base t0 o) = some (tys.getD (tys0.length + k) .any, cs.getD (tys0.length + k) 0) ∧ (∃ t1, tys = t0 ++ t1) ∧ t0.length = tys0.length + k
  | [], tys0, cs0, tys, cs, h, _ => by
    simp only [looks, Option.some.injEq, Prod.mk.injEq] at h
    exact ⟨⟨[], [], by simp [h.1], by simp [h.2]⟩, fun k o hk => by simp at hk⟩
  | o :: r, tys0, cs0, tys, cs, h, hl => by
    simp only [looks] at h
    cases ht : tr S o.op (see ops base tys0 o) with
    | none => rw [ht] at h; simp at h
    | some Tc =>
      obtain ⟨T, c⟩ := Tc
      rw [ht] at h
      obtain ⟨⟨t, c', e1, e2⟩, h2⟩ := looks_spec r _ _ _ _ h (by simp [hl])
      refine ⟨⟨[T] ++ t, [c] ++ c', by simp [e1], by simp [e2]⟩, fun k x hk => ?_⟩
      cases k with
      | zero =>
        simp at hk; subst hk
        refine ⟨tys0, ?_, ⟨[T] ++ t, by simp [e1]⟩, rfl⟩
        rw [ht, e1, e2]
        simp [List.getD_eq_getElem?_getD, hl]
      | succ k =>
        simp at hk
        obtain ⟨t0, h3, h4, h5⟩ := h2 k x hk
        simp only [List.length_append, List.length_cons, List.length_nil, Nat.zero_add] at h3 h5
        exact ⟨t0, by rw [h3, show tys0.length + 1 + k = tys0.length + (k + 1) by omega], h4, by omega⟩

end Go.Proofs.YtidnnnjjpjadlaaGreatDoor

/- The operations of a drawing function's regions, each by what its operands hold. No condition: laws on walks alone. -/
namespace Go.Proofs.YtidnnnjjpjadlaaGreatDoor
open Go.ChangeShapes Go.WideShapes Go.ChangeAt Go.RowKit

section
variable {a : Act} {w : World} {K : Act → World → Prop} {Q : Exit → Act → World → Prop} {o : Oper}
theorem o_move {x : Operand} (ho : o.op = .move x) (h : K (a.put o.dst (a.eval x)) w) : o.wp Tryz.prog a w K Q := by
  unfold Oper.wp execOp; rw [ho]; exact h
theorem o_assign {x : Operand} (ho : o.op = .assign x) (h : K (a.put o.dst (a.eval x)) w) : o.wp Tryz.prog a w K Q := by
  unfold Oper.wp execOp; rw [ho]; exact h
theorem o_add {x y : Operand} {u v : Int} {t t' : TypeId} (ho : o.op = .binOp .add t x y t') (hx : a.eval x = .int .i64 u) (hy : a.eval y = .int .i64 v)
    (h0 : -9223372036854775808 ≤ u + v) (h1 : u + v ≤ 9223372036854775807) (h : K (a.put o.dst (.int .i64 (u + v))) w) : o.wp Tryz.prog a w K Q := by
  have e : IntKind.i64.wrap (u + v) = u + v := IntWalk.i64_in _ (by omega)
  unfold Oper.wp execOp; rw [ho]; simp only [hx, hy]
  simpa [go_sem, e] using h
theorem o_adds {x y : Operand} {u v : ByteArray} {t t' : TypeId} (ho : o.op = .binOp .add t x y t') (hx : a.eval x = .string u) (hy : a.eval y = .string v) (hz : u.size + v.size ≤ 1000000)
    (h : K (a.put o.dst (.string (u ++ v))) w) : o.wp Tryz.prog a w K Q := by
  have hz' : ¬ 9223372036854775807 < u.size + v.size := by omega
  unfold Oper.wp execOp; rw [ho]; simp only [hx, hy]
  simpa [go_sem, hz'] using h
theorem o_sub {x y : Operand} {u v : Int} {t t' : TypeId} (ho : o.op = .binOp .sub t x y t') (hx : a.eval x = .int .i64 u) (hy : a.eval y = .int .i64 v)
    (h0 : -9223372036854775808 ≤ u - v) (h1 : u - v ≤ 9223372036854775807) (h : K (a.put o.dst (.int .i64 (u - v))) w) : o.wp Tryz.prog a w K Q := by
  have e : IntKind.i64.wrap (u - v) = u - v := IntWalk.i64_in _ (by omega)
  unfold Oper.wp execOp; rw [ho]; simp only [hx, hy]
  simpa [go_sem, e] using h
theorem o_mul {x y : Operand} {u v : Int} {t t' : TypeId} (ho : o.op = .binOp .mul t x y t') (hx : a.eval x = .int .i64 u) (hy : a.eval y = .int .i64 v)
    (h0 : -9223372036854775808 ≤ u * v) (h1 : u * v ≤ 9223372036854775807) (h : K (a.put o.dst (.int .i64 (u * v))) w) : o.wp Tryz.prog a w K Q := by
  have e : IntKind.i64.wrap (u * v) = u * v := IntWalk.i64_in _ (by omega)
  unfold Oper.wp execOp; rw [ho]; simp only [hx, hy]
  simpa [go_sem, e] using h
theorem o_shl {x y : Operand} {u v : Int} {t t' : TypeId} {yk : IntKind} (ho : o.op = .binOp .shl t x y t') (hx : a.eval x = .int .i64 u) (hy : a.eval y = .int yk v)
    (hv0 : 0 ≤ v) (hv1 : v ≤ 62) (h0 : -9223372036854775808 ≤ u * 2 ^ v.toNat) (h1 : u * 2 ^ v.toNat ≤ 9223372036854775807) (h : K (a.put o.dst (.int .i64 (u * 2 ^ v.toNat))) w) : o.wp Tryz.prog a w K Q := by
  have e : IntKind.i64.wrap (u * 2 ^ v.toNat) = u * 2 ^ v.toNat := IntWalk.i64_in _ (by omega)
  have hs : Op.shift .shl .i64 u yk v = (pure (.int .i64 (IntKind.i64.wrap (u * 2 ^ v.toNat))) : Sem Value) := shift_shl .i64 yk u v hv0 (by show v ≤ 64; omega)
  unfold Oper.wp execOp; rw [ho]; simp only [hx, hy]
  simpa [go_sem, hs, e] using h
theorem o_quo {x y : Operand} {u v : Int} {t t' : TypeId} (ho : o.op = .binOp .quo t x y t') (hx : a.eval x = .int .i64 u) (hy : a.eval y = .int .i64 v)
    (h0 : 0 ≤ u) (h1 : u ≤ 9223372036854775807) (hv : 1 ≤ v) (h : K (a.put o.dst (.int .i64 (u / v))) w) : o.wp Tryz.prog a w K Q := by
  have q0 : 0 ≤ u / v := Int.ediv_nonneg h0 (by omega)
  have q1 : u / v ≤ u := Int.ediv_le_self _ h0
  have e : IntKind.i64.wrap (u / v) = u / v := IntWalk.i64_in _ (by omega)
  have e2 : u.tdiv v = u / v := Int.tdiv_eq_ediv_of_nonneg h0
  have hv0 : ¬ v = 0 := by omega
  unfold Oper.wp execOp; rw [ho]; simp only [hx, hy]
  simpa [go_sem, e, e2, hv0] using h
theorem o_rem {x y : Operand} {u v : Int} {t t' : TypeId} (ho : o.op = .binOp .rem t x y t') (hx : a.eval x = .int .i64 u) (hy : a.eval y = .int .i64 v)
    (h0 : 0 ≤ u) (hv : 1 ≤ v) (hv2 : v ≤ 9223372036854775808) (h : K (a.put o.dst (.int .i64 (u % v))) w) : o.wp Tryz.prog a w K Q := by
  have q0 : 0 ≤ u % v := Int.emod_nonneg _ (by omega)
  have q1 : u % v < v := Int.emod_lt_of_pos _ (by omega)
  have e : IntKind.i64.wrap (u % v) = u % v := IntWalk.i64_in _ (by omega)
  have e2 : u.tmod v = u % v := Int.tmod_eq_emod_of_nonneg h0
  have hv0 : ¬ v = 0 := by omega
  unfold Oper.wp execOp; rw [ho]; simp only [hx, hy]
  simpa [go_sem, e, e2, hv0] using h
theorem o_min {x y : Operand} {u v : Int} {ts : Array TypeId} {c : Call} (ho : o.op = .call c) (hc : c = ⟨.builtin .min, #[x, y], ts⟩) (hx : a.eval x = .int .i64 u) (hy : a.eval y = .int .i64 v)
    (h : K (a.put o.dst (.int .i64 (min u v))) w) : o.wp Tryz.prog a w K Q := by
  subst hc
  have e : (if v < u then v else u) = min u v := by omega
  have hm : (#[x, y] : Array Operand).map a.eval = #[.int .i64 u, .int .i64 v] := by simp [hx, hy]
  unfold Oper.wp execOp; rw [ho]
  simp only [resolve, hm]
  simpa [go_sem, e] using h
theorem o_neg {x : Operand} {u : Int} {t : TypeId} (ho : o.op = .unOp .neg t x) (hx : a.eval x = .int .i64 u)
    (h0 : -9223372036854775808 ≤ -u) (h1 : -u ≤ 9223372036854775807) (h : K (a.put o.dst (.int .i64 (-u))) w) : o.wp Tryz.prog a w K Q := by
  have e : IntKind.i64.wrap (-u) = -u := IntWalk.i64_in _ (by omega)
  unfold Oper.wp execOp; rw [ho]; simp only [hx]
  simpa [go_sem, e] using h
theorem o_load {x : Operand} {b k : Nat} {u : Value} (ho : o.op = .load 3 x) (hx : a.eval x = .pointer (some ⟨b, k, none⟩)) (hc : w.cell? ⟨b, k, none⟩ = some u)
    (h : K (a.put o.dst u) w) : o.wp Tryz.prog a w K Q := by
  unfold Oper.wp execOp; rw [ho]; simp only [hx]
  simp only [go_sem] at h
  go_simp
  exact h
theorem o_loadS {x : Operand} {b k : Nat} {u : Value} (ho : o.op = .load 9 x) (hx : a.eval x = .pointer (some ⟨b, k, none⟩)) (hc : w.cell? ⟨b, k, none⟩ = some u)
    (h : K (a.put o.dst u) w) : o.wp Tryz.prog a w K Q := by
  unfold Oper.wp execOp; rw [ho]; simp only [hx]
  simp only [go_sem] at h
  go_simp
  exact h
theorem o_indexS {x y : Operand} {b n : Nat} {u : Int} (ho : o.op = .indexAddr 34 x y) (hx : a.eval x = .slice (some ⟨b, 0, none⟩) n n) (hy : a.eval y = .int .i64 u)
    (h0 : 0 ≤ u) (h1 : u < (n : Int)) (h : K (a.put o.dst (.pointer (some ⟨b, u.toNat, none⟩))) w) : o.wp Tryz.prog a w K Q := by
  unfold Oper.wp execOp; rw [ho]
  simp only [hx, hy]
  simp only [go_sem] at h
  go_simp
  exact h
theorem aggT_ok {t : TypeId} (h : aggT t ≠ 0) : ∃ d, Tryz.prog.underlying t = some (.struct d) ∧ (Tryz.prog.info? t).map (·.size) = some (aggT t) := by
  have key : ∀ (u : TypeId) (n : Nat), (match Tryz.prog.underlying u with | some (.struct _) => true | _ => false) = true → (Tryz.prog.info? u).map (·.size) = some n → ∃ d, Tryz.prog.underlying u = some (.struct d) ∧ (Tryz.prog.info? u).map (·.size) = some n := by
    intro u n h1 h2
    split at h1
    · rename_i d hd; exact ⟨d, hd, h2⟩
    · cases h1
  unfold aggT at h ⊢
  repeat' split at h
  all_goals first | (exact absurd rfl h) | skip
  all_goals
    subst_vars
    exact key _ _ (by kernel_rfl) (by kernel_rfl)
theorem aggT_field {t : TypeId} (h : aggT t ≠ 0) {i : Nat} (hi : i < aggT t) : ∃ d f, Tryz.prog.underlying t = some (.struct d) ∧ d[i]? = some f ∧ f.offset = i ∧ (Tryz.prog.info? f.type).map (·.size) = some 1 := by
  have key : ∀ (u : TypeId) (n : Nat), (match Tryz.prog.underlying u with | some (.struct d) => (List.range n).all (fun j => (match d[j]? with | some f => f.offset == j && (Tryz.prog.info? f.type).map (·.size) == some 1 | none => false)) | _ => false) = true → i < n → ∃ d f, Tryz.prog.underlying u = some (.struct d) ∧ d[i]? = some f ∧ f.offset = i ∧ (Tryz.prog.info? f.type).map (·.size) = some 1 := by
    intro u n h1 h2
    split at h1
    · rename_i d hd
      have := List.all_eq_true.1 h1 i (List.mem_range.2 h2)
      split at this
      · rename_i f hf
        simp only [Bool.and_eq_true, beq_iff_eq] at this
        exact ⟨d, f, hd, hf, this.1, this.2⟩
      · cases this
    · cases h1
  unfold aggT at h hi
  repeat' split at h
  all_goals first | (exact absurd rfl h) | skip
  all_goals
    subst_vars
    exact key _ _ (by kernel_rfl) hi
theorem o_field {x : Operand} {t : TypeId} {b k i : Nat} (ho : o.op = .fieldAddr t x i) (ht : aggT t ≠ 0) (hi : i < aggT t) (hx : a.eval x = .pointer (some ⟨b, k, none⟩))
    (h : K (a.put o.dst (.pointer (some ⟨b, k + i, none⟩))) w) : o.wp Tryz.prog a w K Q := by
  obtain ⟨d, f, h1, h2, h3, h4⟩ := aggT_field ht hi
  obtain ⟨j, hj1, hj2⟩ : ∃ j, Tryz.prog.info? f.type = some j ∧ j.size = 1 := by
    cases hh : Tryz.prog.info? f.type with
    | none => rw [hh] at h4; cases h4
    | some j => rw [hh] at h4; exact ⟨j, rfl, by simpa using h4⟩
  have hv : (Instr.fieldAt t (.pointer (some ⟨b, k, none⟩)) i).run Tryz.prog w = .ok (.pointer (some ⟨b, k + i, none⟩)) w := by
    simp [Instr.fieldAt, Instr.sureAddr, run_underlying h1, h2, fieldPlace, h3, Addr.add_lit, sizeOf, typeInfo, hj1, hj2]
  unfold Oper.wp execOp; rw [ho]; simp only [hx]
  rw [Sem.run_bind, hv]
  exact h
theorem o_build2 {x y : Operand} {t : TypeId} {u v : Int} (ho : o.op = .build t #[(0, x), (1, y)]) (ht : aggT t = 2) (hx : a.eval x = .int .i64 u) (hy : a.eval y = .int .i64 v)
    (h : K (a.put o.dst (.agg #[.int .i64 u, .int .i64 v])) w) : o.wp Tryz.prog a w K Q := by
  have hm : (#[(0, x), (1, y)] : Array (Nat × Operand)).map (fun p => (p.1, a.eval p.2)) = #[(0, .int .i64 u), (1, .int .i64 v)] := by simp [hx, hy]
  have hv : (Instr.build t #[(0, .int .i64 u), (1, .int .i64 v)]).run Tryz.prog w = .ok (.agg #[.int .i64 u, .int .i64 v]) w := by
    unfold aggT at ht
    repeat' split at ht
    all_goals first | (exact absurd ht (by decide)) | skip
    all_goals
      subst_vars
      go_simp
  unfold Oper.wp execOp; rw [ho]
  dsimp only
  rw [Sem.run_bind]
  have e : (#[(0, x), (1, y)] : Array (Nat × Operand)).map (fun | (i, x) => (i, a.eval x)) = #[(0, .int .i64 u), (1, .int .i64 v)] := hm
  rw [e, hv]
  exact h
theorem run_cells {b k : Nat} {E : Value → Prop} : ∀ (n i : Nat) (acc : Array Value), (∀ j, j < n → ∃ u, w.cell? ⟨b, k + (i + j), none⟩ = some u ∧ E u) →
    ∃ cs, (loadCellsFrom ⟨b, k, none⟩ i n acc).run Tryz.prog w = .ok cs w ∧ cs.size = acc.size + n ∧ (∀ j, j < acc.size → cs[j]? = acc[j]?) ∧ ∀ j, j < n → ∃ u, cs[acc.size + j]? = some u ∧ E u
  | 0, i, acc, _ => ⟨acc, rfl, rfl, fun _ _ => rfl, fun j hj => by omega⟩
  | n + 1, i, acc, h => by
    obtain ⟨u, hu, hE⟩ := h 0 (by omega)
    obtain ⟨cs, h1, h2, h3, h4⟩ := run_cells n (i + 1) (acc.push u) (fun j hj => by
      obtain ⟨v, hv, hEv⟩ := h (j + 1) (by omega)
      exact ⟨v, by rw [show i + 1 + j = i + (j + 1) by omega]; exact hv, hEv⟩)
    rw [Array.size_push] at h2 h3 h4
    refine ⟨cs, ?_, by omega, fun j hj => ?_, fun j hj => ?_⟩
    · unfold loadCellsFrom
      rw [Sem.run_bind]
      have e : (load (Addr.add ⟨b, k, none⟩ i)).run Tryz.prog w = .ok u w := by
        rw [Addr.add_lit]
        simp only [Nat.add_zero] at hu
        simp [hu]
      rw [e]
      exact h1
    · rw [h3 j (by omega)]; simp [Array.getElem?_push, Nat.ne_of_lt hj]
    · cases j with
      | zero => exact ⟨u, by rw [Nat.add_zero, h3 _ (by omega)]; simp, hE⟩
      | succ j =>
        obtain ⟨v, hv, hEv⟩ := h4 j (by omega)
        exact ⟨v, by rw [← hv]; congr 1; omega, hEv⟩
theorem o_loadAgg {x : Operand} {t : TypeId} {b k n : Nat} {lo hi : Int} (ho : o.op = .load t x) (ht : aggT t = n) (hn : n ≠ 0) (hx : a.eval x = .pointer (some ⟨b, k, none⟩))
    (hc : ∀ i, i < n → ∃ u : Int, w.cell? ⟨b, k + i, none⟩ = some (.int .i64 u) ∧ lo ≤ u ∧ u ≤ hi) (h : ∀ v, (El.ints n lo hi).ok v → K (a.put o.dst v) w) : o.wp Tryz.prog a w K Q := by
  obtain ⟨d, hd, hs⟩ := aggT_ok (t := t) (by rw [ht]; exact hn)
  obtain ⟨cs, e1, e2, _, e4⟩ := run_cells (w := w) (b := b) (k := k) (E := fun v => ∃ u : Int, v = .int .i64 u ∧ lo ≤ u ∧ u ≤ hi) n 0 #[] (fun j hj => by
    obtain ⟨u, hu, hb⟩ := hc j hj
    exact ⟨_, by rw [Nat.zero_add]; exact hu, u, rfl, hb⟩)
  obtain ⟨i, hi1, hi2⟩ : ∃ i, Tryz.prog.info? t = some i ∧ i.size = n := by
    cases hh : Tryz.prog.info? t with
    | none => rw [hh] at hs; cases hs
    | some i => rw [hh, ht] at hs; exact ⟨i, rfl, by simpa using hs⟩
  have hv : (Instr.loadAt t (.pointer (some ⟨b, k, none⟩))).run Tryz.prog w = .ok (.agg cs) w := by
    simp [Instr.loadAt, Instr.sureAddr, loadVar, isAgg, run_underlying hd, loadCells, sizeOf, typeInfo, hi1, hi2, e1]
  unfold Oper.wp execOp; rw [ho]; simp only [hx]
  rw [Sem.run_bind, hv]
  refine h _ ⟨cs, rfl, by simpa using e2, fun j hj => ?_⟩
  obtain ⟨u, hu, x, rfl, hb⟩ := e4 j hj
  exact ⟨x, by simpa using hu, hb⟩
theorem run_storeCells {B : Nat} {t : TypeId} : ∀ (vs : List Value) (i : Nat) (w : World) (cs : Array Value), Blk w B t cs → i + vs.length = cs.size → (∀ v ∈ vs, v.oneCell' = true) →
    ∃ w', (storeCells ⟨B, 0, none⟩ vs i).run Tryz.prog w = .ok () w' ∧ (∃ cs', Blk w' B t cs' ∧ cs'.size = cs.size ∧ (∀ j, j < i → cs'[j]? = cs[j]?) ∧ ∀ j, j < vs.length → cs'[i + j]? = vs[j]?) ∧
      w'.os = w.os ∧ w'.tape = w.tape ∧ w'.output = w.output ∧ w'.heap.size = w.heap.size ∧ ∀ k, k ≠ B → w'.heap[k]? = w.heap[k]?
  | [], i, w, cs, hb, _, _ => ⟨w, rfl, ⟨cs, hb, rfl, fun _ _ => rfl, fun j hj => by simp at hj⟩, rfl, rfl, rfl, rfl, fun _ _ => rfl⟩
  | v :: r, i, w, cs, hb, hs, hv => by
    have hs' : i < cs.size := by simp at hs; omega
    obtain ⟨w', h1, ⟨cs', h2, h3, h4, h5⟩, h6, h7, h8, h9, h10⟩ := run_storeCells r (i + 1) (w.setCell ⟨B, i, none⟩ v) (cs.setIfInBounds i v) (hb.set i v) (by simp at hs ⊢; omega) (fun v hv' => hv v (List.mem_cons_of_mem _ hv'))
    have e : (store (Addr.add ⟨B, 0, none⟩ i) v).run Tryz.prog w = .ok () (w.setCell ⟨B, i, none⟩ v) := by
      rw [Addr.add_lit, Nat.zero_add, run_store _ _ _ _ _ (hv v List.mem_cons_self), hb.cell, hb.frozen]
      simp [hs']
    refine ⟨w', ?_, ⟨cs', h2, by simpa using h3, fun j hj => ?_, fun j hj => ?_⟩, h6, h7, h8, by rw [h9]; simp [World.setCell], fun k hk => (h10 k hk).trans (Below.heap_setCell w _ _ k hk)⟩
    · unfold storeCells
      rw [Sem.run_bind, e]
      exact h1
    · rw [h4 j (by omega)]; simp [show i ≠ j by omega]
    · cases j with
      | zero => rw [Nat.add_zero, h4 i (by omega)]; simp [hs']
      | succ j => rw [show i + (j + 1) = i + 1 + j by omega, h5 j (by simpa using hj)]; simp
theorem o_storeAgg {x y : Operand} {t t' : TypeId} {B n : Nat} {lo hi : Int} {cs : Array Value} (ho : o.op = .store t x y) (ht : aggT t = n) (hn : n ≠ 0) (hx : a.eval x = .pointer (some ⟨B, 0, none⟩)) (hB : Blk w B t' cs) (hcs : cs.size = n)
    (hy : (El.ints n lo hi).ok (a.eval y))
    (h : ∀ (w' : World) (cs' : Array Value), Blk w' B t' cs' → cs'.size = n → (∀ k, k < n → ∃ z : Int, cs'[k]? = some (.int .i64 z) ∧ lo ≤ z ∧ z ≤ hi) → w'.os = w.os → w'.tape = w.tape → w'.output = w.output → w'.heap.size = w.heap.size →
      (∀ k, k ≠ B → w'.heap[k]? = w.heap[k]?) → K (a.put o.dst undef) w') : o.wp Tryz.prog a w K Q := by
  obtain ⟨d, hd, hs⟩ := aggT_ok (t := t) (by rw [ht]; exact hn)
  obtain ⟨vs, ev, hvs, hok⟩ := hy
  have hone : ∀ v ∈ vs.toList, v.oneCell' = true := by
    intro v hv
    obtain ⟨k, hk, rfl⟩ := List.getElem_of_mem hv
    have hk' : k < vs.size := by simpa using hk
    obtain ⟨z, hz, _⟩ := hok k (by omega)
    have : vs[k] = .int .i64 z := by simpa [hk'] using hz
    simp [this]
    rfl
  obtain ⟨w', h1, ⟨cs', h2, h3, _, h5⟩, h6, h7, h8, h9, h10⟩ := run_storeCells (t := t') vs.toList 0 w cs hB (by simp; omega) hone
  obtain ⟨i, hi1, hi2⟩ : ∃ i, Tryz.prog.info? t = some i ∧ i.size = n := by
    cases hh : Tryz.prog.info? t with
    | none => rw [hh] at hs; cases hs
    | some i => rw [hh, ht] at hs; exact ⟨i, rfl, by simpa using hs⟩
  have hv : (Instr.storeAt t (.pointer (some ⟨B, 0, none⟩)) (.agg vs)).run Tryz.prog w = .ok () w' := by
    simp [Instr.storeAt, Instr.sureAddr, storeVar, sizeOf, typeInfo, hi1, hi2, Value.cells, hvs, h1]
  unfold Oper.wp execOp; rw [ho]; simp only [hx, ev]
  rw [Sem.run_bind, hv]
  refine h w' cs' h2 (by omega) (fun k hk => ?_) h6 h7 h8 h9 h10
  obtain ⟨z, hz, hb⟩ := hok k hk
  refine ⟨z, ?_, hb⟩
  have := h5 k (by simp; omega)
  rw [Nat.zero_add] at this
  rw [this]
  simpa using hz
theorem o_index {x y : Operand} {b n : Nat} {u : Int} (ho : o.op = .indexAddr 93 x y) (hx : a.eval x = .slice (some ⟨b, 0, none⟩) n n) (hy : a.eval y = .int .i64 u)
    (h0 : 0 ≤ u) (h1 : u < (n : Int)) (h : K (a.put o.dst (.pointer (some ⟨b, u.toNat, none⟩))) w) : o.wp Tryz.prog a w K Q := by
  unfold Oper.wp execOp; rw [ho]
  simp only [hx, hy]
  simp only [go_sem] at h
  go_simp
  exact h
theorem o_max {x y : Operand} {u v : Int} {ts : Array TypeId} {c : Call} (ho : o.op = .call c) (hc : c = ⟨.builtin .max, #[x, y], ts⟩) (hx : a.eval x = .int .i64 u) (hy : a.eval y = .int .i64 v)
    (h : K (a.put o.dst (.int .i64 (max u v))) w) : o.wp Tryz.prog a w K Q := by
  subst hc
  have e : (if v > u then v else u) = max u v := by omega
  have hm : (#[x, y] : Array Operand).map a.eval = #[.int .i64 u, .int .i64 v] := by simp [hx, hy]
  unfold Oper.wp execOp; rw [ho]
  simp only [resolve, hm]
  simpa [go_sem, e] using h
theorem o_call {f : FuncId} {args : Array Operand} {ts : Array TypeId} {c : Call} {R : Value → World → Prop} (ho : o.op = .call c) (hc : c = ⟨.value (.func f), args, ts⟩)
    (hf : (callFunc f (args.map a.eval)).run Tryz.prog w = .ok (.enter f (args.map a.eval)) w)
    (h : Calls Tryz.prog f (args.map a.eval) w (fun e w' => ∃ v, e = .returned v ∧ R v w')) (hK : ∀ v w', R v w' → K (a.put o.dst v) w') : o.wp Tryz.prog a w K Q := by
  subst hc
  unfold Oper.wp execOp; rw [ho]
  simp [go_sem]
  rw [hf]
  refine h.mono ?_
  rintro e w' ⟨v, rfl, hR⟩
  exact hK _ _ hR
/-- The cells of a written-out list of one-cell values. -/
theorem fill_ok {E : Value → Prop} (hE : ∀ v, E v → v.cells = #[v]) {n : Nat} : ∀ (ps : List (Nat × Value)) (cs : Array Value), (∀ p ∈ ps, p.1 < n ∧ E p.2) → cs.size = n → (∀ k, k < n → ∃ u, cs[k]? = some u ∧ E u) →
    ∃ cs', Instr.fill (fun i => some (i * 1, 1)) cs ps = some cs' ∧ cs'.size = n ∧ ∀ k, k < n → ∃ u, cs'[k]? = some u ∧ E u
  | [], cs, _, h1, h2 => ⟨cs, rfl, h1, h2⟩
  | (i, v) :: r, cs, h0, h1, h2 => by
    obtain ⟨hi, hv⟩ := h0 (i, v) List.mem_cons_self
    have hc := hE v hv
    have hlt : ¬ (i * 1 + 1 > cs.size) := by simp at hi; omega
    obtain ⟨cs', e, s, q⟩ := fill_ok hE r (cs.setIfInBounds i v) (fun p hp => h0 p (List.mem_cons_of_mem _ hp)) (by simpa using h1) (fun k hk => by
      by_cases hik : i = k
      · subst hik; exact ⟨v, by simp [h1, hk], hv⟩
      · obtain ⟨u, hu, hE'⟩ := h2 k hk
        exact ⟨u, by rw [Array.getElem?_setIfInBounds_ne hik]; exact hu, hE'⟩)
    refine ⟨cs', ?_, s, q⟩
    have hlt' : i + 1 ≤ cs.size := by simp at hi; omega
    rw [← e]
    simp [Instr.fill, hc, Nat.not_lt.2 hlt', Array.zipIdx]
theorem o_list {n : Nat} {ps : Array (Nat × Operand)} {lo hi : Int} (ho : o.op = .buildSlice 93 n ps) (hn0 : 1 ≤ n) (hn : n ≤ 1000) (h0 : lo ≤ 0) (h1 : 0 ≤ hi)
    (hps : ∀ p ∈ ps.toList, p.1 < n ∧ ∃ x : Int, a.eval p.2 = .int .i64 x ∧ lo ≤ x ∧ x ≤ hi)
    (h : ∀ cs : Array Value, cs.size = n → (∀ k, k < n → ∃ u, cs[k]? = some u ∧ (El.int lo hi).ok u) → K (a.put o.dst (.slice (some ⟨w.heap.size, 0, none⟩) n n)) (w.alloc (.cells cs 3))) : o.wp Tryz.prog a w K Q := by
  obtain ⟨cs, e, hs, hq⟩ := fill_ok (E := (El.int lo hi).ok) (n := n) (by rintro v ⟨x, rfl, _, _⟩; rfl) (ps.map fun (i, x) => (i, a.eval x)).toList (Array.replicate n (.int .i64 0))
    (by
      intro p hp
      simp only [Array.toList_map, List.mem_map] at hp
      obtain ⟨q, hq, rfl⟩ := hp
      exact hps q hq) (by simp) (fun k hk => ⟨.int .i64 0, by simp [hk], 0, rfl, h0, h1⟩)
  have hz : (Array.range (n * 1)).map (fun k => (#[Value.int .i64 0] : Array Value)[k % (#[Value.int .i64 0] : Array Value).size]!) = Array.replicate n (.int .i64 0) := by
    apply Array.ext
    · simp
    · intro i hi1 hi2; simp [Nat.mod_one]
  have hrun : (Instr.buildSlice 93 n (ps.map fun (i, x) => (i, a.eval x))).run Tryz.prog w = .ok (.slice (some ⟨w.heap.size, 0, none⟩) n n) (w.alloc (.cells cs 3)) := by
    have hn2 : ¬ (n * 1 > 2 ^ 24) := by omega
    have hn3 : ¬ (n * 1 = 0) := by omega
    obtain ⟨i, hi, hi1, hi2⟩ : ∃ i, Tryz.prog.info? 3 = some i ∧ i.size = 1 ∧ i.zero = some (.int .i64 0) := by
      have h1 : (Tryz.prog.info? 3).map (·.size) = some 1 := by kernel_rfl
      have h2 : (Tryz.prog.info? 3).bind (·.zero) = some (.int .i64 0) := by kernel_rfl
      cases hh : Tryz.prog.info? 3 with
      | none => rw [hh] at h1; cases h1
      | some i => rw [hh] at h1 h2; exact ⟨i, rfl, by simpa using h1, by simpa using h2⟩
    have e0 := run_underlying (show Tryz.prog.underlying 93 = some (.slice 3) by kernel_rfl) w
    have e1 : (sizeOf 3).run Tryz.prog w = .ok 1 w := by simp [sizeOf, typeInfo, hi, hi1]
    have e2 : (zeroValue 3).run Tryz.prog w = .ok (.int .i64 0) w := by simp [zeroValue, typeInfo, hi, hi2]
    have e4 : ∀ c, (newRow 3 c).run Tryz.prog w = .ok ⟨w.heap.size, 0, none⟩ (w.alloc (.cells c 3)) := fun c => by simp [newRow]
    have e5 : Instr.fill (fun i => some (i * 1, 1)) ((Array.range (n * 1)).map fun k => (#[Value.int .i64 0] : Array Value)[k % (#[Value.int .i64 0] : Array Value).size]!) (ps.map fun (i, x) => (i, a.eval x)).toList = some cs := by rw [hz]; exact e
    unfold Instr.buildSlice
    rw [Sem.run_bind, e0, Result.andThen_ok]
    show Sem.run Tryz.prog (sizeOf 3 >>= _) w = _
    rw [Sem.run_bind, e1, Result.andThen_ok]
    rw [if_neg hn2]
    show Sem.run Tryz.prog (if n * 1 = 0 then _ else _) w = _
    rw [if_neg hn3]
    show Sem.run Tryz.prog (zeroValue 3 >>= _) w = _
    rw [Sem.run_bind, e2, Result.andThen_ok]
    show Sem.run Tryz.prog (match Instr.fill (fun i => some (i * 1, 1)) ((Array.range (n * 1)).map fun k => (#[Value.int .i64 0] : Array Value)[k % (#[Value.int .i64 0] : Array Value).size]!) (ps.map fun (i, x) => (i, a.eval x)).toList with | some cells => _ | _ => _) w = _
    rw [e5]
    show Sem.run Tryz.prog (newRow 3 cs >>= _) w = _
    rw [Sem.run_bind, e4]
    rfl
  unfold Oper.wp execOp; rw [ho]
  dsimp only
  rw [Sem.run_bind, hrun]
  exact h cs hs hq
theorem o_listS {n : Nat} {ps : Array (Nat × Operand)} {m : Nat} (ho : o.op = .buildSlice 34 n ps) (hn0 : 1 ≤ n) (hn : n ≤ 1000)
    (hps : ∀ p ∈ ps.toList, p.1 < n ∧ ∃ x : ByteArray, a.eval p.2 = .string x ∧ x.size ≤ m)
    (h : ∀ cs : Array Value, cs.size = n → (∀ k, k < n → ∃ u, cs[k]? = some u ∧ (El.str m).ok u) → K (a.put o.dst (.slice (some ⟨w.heap.size, 0, none⟩) n n)) (w.alloc (.cells cs 9))) : o.wp Tryz.prog a w K Q := by
  obtain ⟨cs, e, hs, hq⟩ := fill_ok (E := (El.str m).ok) (n := n) (by rintro v ⟨x, rfl, _⟩; rfl) (ps.map fun (i, x) => (i, a.eval x)).toList (Array.replicate n (.string ⟨#[]⟩))
    (by
      intro p hp
      simp only [Array.toList_map, List.mem_map] at hp
      obtain ⟨q, hq, rfl⟩ := hp
      exact hps q hq) (by simp) (fun k hk => ⟨.string ⟨#[]⟩, by simp [hk], ⟨#[]⟩, rfl, Nat.zero_le _⟩)
  have hz : (Array.range (n * 1)).map (fun k => (#[Value.string ⟨#[]⟩] : Array Value)[k % (#[Value.string ⟨#[]⟩] : Array Value).size]!) = Array.replicate n (.string ⟨#[]⟩) := by
    apply Array.ext
    · simp
    · intro i hi1 hi2; simp [Nat.mod_one]
  have hrun : (Instr.buildSlice 34 n (ps.map fun (i, x) => (i, a.eval x))).run Tryz.prog w = .ok (.slice (some ⟨w.heap.size, 0, none⟩) n n) (w.alloc (.cells cs 9)) := by
    have hn2 : ¬ (n * 1 > 2 ^ 24) := by omega
    have hn3 : ¬ (n * 1 = 0) := by omega
    obtain ⟨i, hi, hi1, hi2⟩ : ∃ i, Tryz.prog.info? 9 = some i ∧ i.size = 1 ∧ i.zero = some (.string ⟨#[]⟩) := by
      have h1 : (Tryz.prog.info? 9).map (·.size) = some 1 := by kernel_rfl
      have h2 : (Tryz.prog.info? 9).bind (·.zero) = some (.string ⟨#[]⟩) := by kernel_rfl
      cases hh : Tryz.prog.info? 9 with
      | none => rw [hh] at h1; cases h1
      | some i => rw [hh] at h1 h2; exact ⟨i, rfl, by simpa using h1, by simpa using h2⟩
    have e0 := run_underlying (show Tryz.prog.underlying 34 = some (.slice 9) by kernel_rfl) w
    have e1 : (sizeOf 9).run Tryz.prog w = .ok 1 w := by simp [sizeOf, typeInfo, hi, hi1]
    have e2 : (zeroValue 9).run Tryz.prog w = .ok (.string ⟨#[]⟩) w := by simp [zeroValue, typeInfo, hi, hi2]
    have e4 : ∀ c, (newRow 9 c).run Tryz.prog w = .ok ⟨w.heap.size, 0, none⟩ (w.alloc (.cells c 9)) := fun c => by simp [newRow]
    have e5 : Instr.fill (fun i => some (i * 1, 1)) ((Array.range (n * 1)).map fun k => (#[Value.string ⟨#[]⟩] : Array Value)[k % (#[Value.string ⟨#[]⟩] : Array Value).size]!) (ps.map fun (i, x) => (i, a.eval x)).toList = some cs := by rw [hz]; exact e
    unfold Instr.buildSlice
    rw [Sem.run_bind, e0, Result.andThen_ok]
    show Sem.run Tryz.prog (sizeOf 9 >>= _) w = _
    rw [Sem.run_bind, e1, Result.andThen_ok]
    rw [if_neg hn2]
    show Sem.run Tryz.prog (if n * 1 = 0 then _ else _) w = _
    rw [if_neg hn3]
    show Sem.run Tryz.prog (zeroValue 9 >>= _) w = _
    rw [Sem.run_bind, e2, Result.andThen_ok]
    show Sem.run Tryz.prog (match Instr.fill (fun i => some (i * 1, 1)) ((Array.range (n * 1)).map fun k => (#[Value.string ⟨#[]⟩] : Array Value)[k % (#[Value.string ⟨#[]⟩] : Array Value).size]!) (ps.map fun (i, x) => (i, a.eval x)).toList with | some cells => _ | _ => _) w = _
    rw [e5]
    show Sem.run Tryz.prog (newRow 9 cs >>= _) w = _
    rw [Sem.run_bind, e4]
    rfl
  unfold Oper.wp execOp; rw [ho]
  dsimp only
  rw [Sem.run_bind, hrun]
  exact h cs hs hq
end
end Go.Proofs.YtidnnnjjpjadlaaGreatDoor

/- A region of a drawing function by a look at its text alone. No condition: laws on walks alone. -/
namespace Go.Proofs.YtidnnnjjpjadlaaGreatDoor
open Go.ChangeShapes Go.WideShapes Go.ChangeAt Go.RowKit

/-- What is known of the functions that such a region calls. -/
def SOk (S : FuncId → List Ty → Option (Ty × Nat)) (w0 : World) (C : Cx) (cap : Nat) : Prop :=
  ∀ f tys T c, S f tys = some (T, c) → ∀ (vs : Array Value) (w : World) (M : Nat), vs.size = tys.length → (∀ k (T' : Ty), tys[k]? = some T' → T'.has C (vs.getD k undef) w) → M + c ≤ cap → Rds w0 w C.g M →
    (callFunc f vs).run Tryz.prog w = .ok (.enter f vs) w ∧ Calls Tryz.prog f vs w (fun e w' => ∃ v, e = .returned v ∧ T.has C v w' ∧ Rds w0 w' C.g (M + c) ∧ w.grownBy w' (some C.g))

theorem grown_refl (w : World) (r : Option Nat) : w.grownBy w r := ⟨rfl, rfl, rfl, Nat.le_refl _, fun _ _ _ => rfl⟩

theorem see_sound {ops : Array Oper} {a0 a : Act} {base : Nat → Ty} {C : Cx} {w : World} {o : Oper} {tys t0 t1 : List Ty} (hp : tys = t0 ++ t1)
    (hs : Sees ops a0 (fun j v w => (tys.getD j .any).has C v w) o .any a w) (hb : ∀ t, (base t).has C (a0.tmps.getD t undef) w) (x : Operand) : (see ops base t0 o x).has C (a.eval x) w := by
  unfold see
  split
  · rename_i t
    split
    · rename_i j hj
      have hj2 := List.find?_some hj
      split
      · rename_i hany
        have hd : (t0.getD j .any) = .any ∨ t0.getD j .any = tys.getD j .any := by
          rcases Nat.lt_or_ge j t0.length with h | h
          · right; rw [hp]; simp [List.getD_eq_getElem?_getD, List.getElem?_append_left h]
          · left; simp [List.getD_eq_getElem?_getD, List.getElem?_eq_none h]
        rcases hd with h | h
        · rw [h]; trivial
        · rw [h]
          cases ho : ops[j]? with
          | none => rw [ho] at hj2; simp at hj2
          | some x =>
            rw [ho] at hj2
            exact hs.new j t x ho (by simpa using hj2) hany
      · trivial
    · rename_i hn
      have hall : (ops.all fun x => x.dst != some t) = true := by
        rw [Array.all_eq_true]
        intro i hi
        have := List.find?_eq_none.1 hn i (List.mem_range.2 hi)
        simpa [hi] using this
      rw [hs.old t hall]
      exact hb t
  · rename_i x
    exact ⟨x, rfl, Int.le_refl _, Int.le_refl _⟩
  · rfl
  · exact ⟨_, rfl, Nat.le_refl _⟩
  · trivial

theorem rngFit_spec {lo hi : Int} {T : Ty} {c : Nat} (h : rngFit lo hi = some (T, c)) : -9223372036854775808 ≤ lo ∧ hi ≤ 9223372036854775807 ∧ T = .val (.int lo hi) ∧ c = 0 := by
  unfold rngFit at h
  split at h
  · rename_i hh
    simp only [Option.some.injEq, Prod.mk.injEq] at h
    exact ⟨hh.1, hh.2, h.1.symm, h.2.symm⟩
  · cases h

theorem hull_spec : ∀ {l : List Ty} {a b : Int}, hull l = some (a, b) → a ≤ 0 ∧ 0 ≤ b ∧ ∀ T ∈ l, ∃ c d, T = .val (.int c d) ∧ a ≤ c ∧ d ≤ b
  | [], a, b, h => by simp only [hull, Option.some.injEq, Prod.mk.injEq] at h; obtain ⟨rfl, rfl⟩ := h; simp
  | T :: r, a, b, h => by
    unfold hull at h
    split at h
    · cases ‹_ :: _ = []›
    · rename_i c d r' heq
      injection heq with h1 h2
      subst h1; subst h2
      split at h
      · rename_i e f he
        simp only [Option.some.injEq, Prod.mk.injEq] at h
        obtain ⟨rfl, rfl⟩ := h
        obtain ⟨h1, h2, h3⟩ := hull_spec he
        refine ⟨by omega, by omega, ?_⟩
        intro T hT
        rcases List.mem_cons.1 hT with rfl | hT
        · exact ⟨c, d, rfl, by omega, by omega⟩
        · obtain ⟨c', d', e1, e2, e3⟩ := h3 T hT
          exact ⟨c', d', e1, by omega, by omega⟩
      · cases h
    · cases h

theorem hullS_spec : ∀ {l : List Ty} {m : Nat}, hullS l = some m → ∀ T ∈ l, ∃ c, T = .val (.str c) ∧ c ≤ m
  | [], _, _ => by simp
  | T :: r, m, h => by
    unfold hullS at h
    split at h
    · cases ‹_ :: _ = []›
    · rename_i c r' heq
      injection heq with h1 h2
      subst h1; subst h2
      split at h
      · rename_i e he
        simp only [Option.some.injEq] at h
        subst h
        have h3 := hullS_spec he
        intro T hT
        rcases List.mem_cons.1 hT with rfl | hT
        · exact ⟨c, rfl, by omega⟩
        · obtain ⟨c', e1, e2⟩ := h3 T hT
          exact ⟨c', e1, by omega⟩
      · cases h
    · cases h
theorem mag_spec {a b x : Int} (h0 : a ≤ x) (h1 : x ≤ b) : -(mag a b) ≤ x ∧ x ≤ mag a b ∧ 0 ≤ mag a b := by unfold mag; omega
theorem mul_mag {x y m n : Int} (hx0 : -m ≤ x) (hx1 : x ≤ m) (hy0 : -n ≤ y) (hy1 : y ≤ n) : -(m * n) ≤ x * y ∧ x * y ≤ m * n := by
  have h : (x * y).natAbs ≤ (m * n).natAbs := by
    rw [Int.natAbs_mul, Int.natAbs_mul]
    exact Nat.mul_le_mul (by omega) (by omega)
  have hmn : 0 ≤ m * n := Int.mul_nonneg (by omega) (by omega)
  omega

def Cx.wf (C : Cx) (w0 : World) : Prop := (∀ o ∈ C.outs, o.B ≠ C.g ∧ w0.heap.size ≤ o.B) ∧ ∀ o ∈ C.outs, ∀ o' ∈ C.outs, o.B = o'.B → o = o'
/-- What stays true in the midst of a region. -/
structure Keeps (C : Cx) (w0 w1 : World) (M : Nat) (w : World) : Prop where
  rd : Rds w0 w C.g M
  chg : Chg C w1 w
  outs : ∀ o ∈ C.outs, o.ok w
theorem Out.ok_grown {C : Cx} {w0 w w' : World} {o : Out} (hw : C.wf w0) (ho : o ∈ C.outs) (h : o.ok w) (hg : w.grownBy w' (some C.g)) : o.ok w' := by
  obtain ⟨cs, h1, h2, h3⟩ := h
  exact ⟨cs, h1.grown hg (by intro e; injection e with e; exact (hw.1 o ho).1 e), h2, h3⟩
theorem Keeps.grown {C : Cx} {w0 w1 w w' : World} {M M' : Nat} (hw : C.wf w0) (h : Keeps C w0 w1 M w) (hg : w.grownBy w' (some C.g)) (hR : Rds w0 w' C.g M') : Keeps C w0 w1 M' w' :=
  ⟨hR, h.chg.trans (Chg.grown hg), fun o ho => Out.ok_grown hw ho (h.outs o ho) hg⟩
theorem Rds.far {w0 w w' : World} {g N B : Nat} (h : Rds w0 w g N) (h1 : w'.os = w.os) (h2 : w'.tape = w.tape) (h3 : w'.output = w.output) (h4 : w'.heap.size = w.heap.size) (h5 : ∀ k, k ≠ B → w'.heap[k]? = w.heap[k]?) (hB : w0.heap.size ≤ B) (hg : B ≠ g) : Rds w0 w' g N := by
  obtain ⟨r1, r2, a, len, cap, p, r3, r4, r5, r6, r7, r8⟩ := h
  exact ⟨r1, ⟨h1.trans r2.os, h2.trans r2.tape, h3.trans r2.output, by rw [h4]; exact r2.size, fun k hk => (h5 k (by omega)).trans (r2.block k hk)⟩, a, len, cap, p, r3, r4, r5, r6, r7, (h5 g (Ne.symm hg)).trans r8⟩

section
variable {S : FuncId → List Ty → Option (Ty × Nat)} {w0 w1 : World} {C : Cx} {cap : Nat}

theorem tr_sound (hS : SOk S w0 C cap) (hw : C.wf w0) {o : Oper} {ρ : Operand → Ty} {a : Act} {w : World} {M c : Nat} {T : Ty} {Q : Exit → Act → World → Prop} (hρ : ∀ x, (ρ x).has C (a.eval x) w)
    (h : tr S o.op ρ = some (T, c)) (hM : M + c ≤ cap) (hK : Keeps C w0 w1 M w) :
    o.wp Tryz.prog a w (fun a' w' => ∃ v, a' = a.put o.dst v ∧ T.has C v w' ∧ Keeps C w0 w1 (M + c) w' ∧ Chg C w w') Q := by
  have hR := hK.rd
  have hst : ∀ (v : Value), T.has C v w → c = 0 → ∃ u, a.put o.dst v = a.put o.dst u ∧ T.has C u w ∧ Keeps C w0 w1 (M + c) w ∧ Chg C w w := fun v hv hc => ⟨v, rfl, hv, hc ▸ hK, Chg.refl _ _⟩
  cases ho : o.op with
  | move x =>
    rw [ho] at h; simp only [tr, Option.some.injEq, Prod.mk.injEq] at h
    exact o_move ho (hst _ (h.1 ▸ hρ x) h.2.symm)
  | assign x =>
    rw [ho] at h; simp only [tr, Option.some.injEq, Prod.mk.injEq] at h
    exact o_assign ho (hst _ (h.1 ▸ hρ x) h.2.symm)
  | binOp op t x y t' =>
    rw [ho] at h; unfold tr at h; dsimp only at h
    have hx := hρ x; have hy := hρ y
    split at h
    · rename_i e1 e2
      rw [e1] at hx; rw [e2] at hy
      obtain ⟨u, eu, u0, u1⟩ := hx; obtain ⟨v, ev, v0, v1⟩ := hy
      obtain ⟨f0, f1, rfl, rfl⟩ := rngFit_spec h
      exact o_add ho eu ev (by omega) (by omega) (hst _ ⟨_, rfl, by omega, by omega⟩ rfl)
    · rename_i e1 e2
      rw [e1] at hx; rw [e2] at hy
      obtain ⟨u, eu, u0, u1⟩ := hx; obtain ⟨v, ev, v0, v1⟩ := hy
      obtain ⟨f0, f1, rfl, rfl⟩ := rngFit_spec h
      exact o_sub ho eu ev (by omega) (by omega) (hst _ ⟨_, rfl, by omega, by omega⟩ rfl)
    · rename_i e1 e2
      rw [e1] at hx; rw [e2] at hy
      obtain ⟨u, eu, u0, u1⟩ := hx; obtain ⟨v, ev, v0, v1⟩ := hy
      split at h
      · rename_i hnn
        obtain ⟨f0, f1, rfl, rfl⟩ := rngFit_spec h
        have q0 : 0 ≤ u * v := Int.mul_nonneg (by omega) (by omega)
        have q1 := Int.mul_le_mul u1 v1 (by omega) (by omega)
        exact o_mul ho eu ev (Int.le_trans f0 q0) (Int.le_trans q1 f1) (hst _ ⟨_, rfl, q0, q1⟩ rfl)
      · obtain ⟨f0, f1, rfl, rfl⟩ := rngFit_spec h
        obtain ⟨m0, m1, m2⟩ := mag_spec u0 u1
        obtain ⟨n0, n1, n2⟩ := mag_spec v0 v1
        obtain ⟨q0, q1⟩ := mul_mag m0 m1 n0 n1
        exact o_mul ho eu ev (Int.le_trans f0 q0) (Int.le_trans q1 f1) (hst _ ⟨_, rfl, q0, q1⟩ rfl)
    · rename_i e1 e2
      rw [e1] at hx; rw [e2] at hy
      obtain ⟨u, eu, u0, u1⟩ := hx; obtain ⟨v, ev, v0, v1⟩ := hy
      split at h
      · rename_i dd hcd
        have hp : (2 : Int) ^ v.toNat ≤ 2 ^ dd.toNat := by
          have : (2 : Nat) ^ v.toNat ≤ 2 ^ dd.toNat := Nat.pow_le_pow_right (by decide) (by omega)
          exact_mod_cast this
        have hp0 : (0 : Int) < 2 ^ v.toNat := Int.pow_pos (by decide)
        split at h
        · obtain ⟨f0, f1, rfl, rfl⟩ := rngFit_spec h
          have q0 : 0 ≤ u * 2 ^ v.toNat := Int.mul_nonneg (by omega) (by omega)
          have q1 := Int.mul_le_mul u1 hp (by omega) (by omega)
          exact o_shl ho eu ev (by omega) (by omega) (Int.le_trans f0 q0) (Int.le_trans q1 f1) (hst _ ⟨_, rfl, q0, q1⟩ rfl)
        · obtain ⟨f0, f1, rfl, rfl⟩ := rngFit_spec h
          obtain ⟨m0, m1, m2⟩ := mag_spec u0 u1
          obtain ⟨q0, q1⟩ := mul_mag (n := 2 ^ dd.toNat) m0 m1 (y := 2 ^ v.toNat) (by omega) hp
          exact o_shl ho eu ev (by omega) (by omega) (Int.le_trans f0 q0) (Int.le_trans q1 f1) (hst _ ⟨_, rfl, q0, q1⟩ rfl)
      · cases h
    · rename_i e1 e2
      rw [e1] at hx; rw [e2] at hy
      obtain ⟨u, eu, u0, u1⟩ := hx
      split at h
      · rename_i vv hcd
        have hp0 : (0 : Int) < 2 ^ vv.toNat := Int.pow_pos (by decide)
        split at h
        · obtain ⟨f0, f1, rfl, rfl⟩ := rngFit_spec h
          have q0 : 0 ≤ u * 2 ^ vv.toNat := Int.mul_nonneg (by omega) (by omega)
          have q1 := Int.mul_le_mul_of_nonneg_right u1 (Int.le_of_lt hp0)
          exact o_shl ho eu hy (by omega) (by omega) (Int.le_trans f0 q0) (Int.le_trans q1 f1) (hst _ ⟨_, rfl, q0, q1⟩ rfl)
        · obtain ⟨f0, f1, rfl, rfl⟩ := rngFit_spec h
          obtain ⟨m0, m1, m2⟩ := mag_spec u0 u1
          obtain ⟨q0, q1⟩ := mul_mag (n := 2 ^ vv.toNat) m0 m1 (y := 2 ^ vv.toNat) (by omega) (Int.le_refl _)
          exact o_shl ho eu hy (by omega) (by omega) (Int.le_trans f0 q0) (Int.le_trans q1 f1) (hst _ ⟨_, rfl, q0, q1⟩ rfl)
      · cases h
    · rename_i e1 e2
      rw [e1] at hx; rw [e2] at hy
      obtain ⟨u, eu, u0, u1⟩ := hx; obtain ⟨v, ev, v0, v1⟩ := hy
      split at h
      · rename_i hc
        obtain ⟨f0, f1, rfl, rfl⟩ := rngFit_spec h
        have q0 : 0 ≤ u % v := Int.emod_nonneg _ (by omega)
        have q1 : u % v < v := Int.emod_lt_of_pos _ (by omega)
        exact o_rem ho eu ev (by omega) (by omega) (by omega) (hst _ ⟨_, rfl, q0, by omega⟩ rfl)
      · cases h
    · rename_i e1 e2
      rw [e1] at hx; rw [e2] at hy
      obtain ⟨u, eu, u0, u1⟩ := hx; obtain ⟨v, ev, v0, v1⟩ := hy
      split at h
      · rename_i hc
        obtain ⟨c0, c2, c1, rfl⟩ := hc
        obtain ⟨f0, f1, rfl, rfl⟩ := rngFit_spec h
        have hv := Int.le_antisymm v1 v0
        subst hv
        have hq := Int.ediv_le_ediv (show (0 : Int) < v by omega) u1
        have hq0 : 0 ≤ u / v := Int.ediv_nonneg (by omega) (by omega)
        exact o_quo ho eu ev (by omega) (by omega) c1 (hst _ ⟨_, rfl, hq0, hq⟩ rfl)
      · cases h
    · rename_i e1 e2
      rw [e1] at hx; rw [e2] at hy
      obtain ⟨u, eu, u0⟩ := hx; obtain ⟨v, ev, v0⟩ := hy
      split at h
      · rename_i hc
        simp only [Option.some.injEq, Prod.mk.injEq] at h
        obtain ⟨rfl, rfl⟩ := h
        exact o_adds ho eu ev (by omega) (hst _ ⟨_, rfl, by rw [ByteArray.size_append]; omega⟩ rfl)
      · cases h
    · cases h
  | unOp op t x =>
    rw [ho] at h; unfold tr at h
    cases op with
    | neg =>
      dsimp only at h
      have hx := hρ x
      split at h
      · rename_i e1
        rw [e1] at hx
        obtain ⟨u, eu, u0, u1⟩ := hx
        obtain ⟨f0, f1, rfl, rfl⟩ := rngFit_spec h
        exact o_neg ho eu (by omega) (by omega) (hst _ ⟨_, rfl, by omega, by omega⟩ rfl)
      · cases h
    | _ => cases h
  | buildSlice t n ps =>
    rw [ho] at h; unfold tr at h; dsimp only at h
    split at h
    · rename_i hc
      obtain ⟨rfl, h0, hn, hall⟩ := hc
      split at h
      · rename_i lo hi hh
        simp only [Option.some.injEq, Prod.mk.injEq] at h
        obtain ⟨rfl, rfl⟩ := h
        obtain ⟨l0, l1, l2⟩ := hull_spec hh
        refine o_list ho h0 hn l0 l1 (fun p hp => ?_) (fun cs hs hcs => ⟨_, rfl, ⟨w.heap.size, rfl, ⟨?_, ?_⟩, fun k hk => ?_⟩, hK.grown hw (World.grownBy_alloc _ _ _) (hR.alloc _), Chg.grown (World.grownBy_alloc _ _ _)⟩)
        · refine ⟨by have := List.all_eq_true.1 hall p hp; simpa using this, ?_⟩
          obtain ⟨c, d, e1, e2, e3⟩ := l2 (ρ p.2) (List.mem_map.2 ⟨p, hp, rfl⟩)
          have hx := hρ p.2
          rw [e1] at hx
          obtain ⟨u, eu, u0, u1⟩ := hx
          exact ⟨u, eu, by omega, by omega⟩
        · have := hR.lt; omega
        · intro o' ho'
          obtain ⟨cs', hb, _⟩ := hK.outs o' ho'
          have := hb.lt; omega
        · obtain ⟨u, hu, hok⟩ := hcs k hk
          exact ⟨u, ((Blk.new w 3 cs).cell k).trans hu, hok⟩
      · cases h
    ·
      split at h
      · rename_i hc
        obtain ⟨rfl, h0, hn, hall⟩ := hc
        split at h
        · rename_i m hh
          simp only [Option.some.injEq, Prod.mk.injEq] at h
          obtain ⟨rfl, rfl⟩ := h
          have l2 := hullS_spec hh
          refine o_listS (m := m) ho h0 hn (fun p hp => ?_) (fun cs hs hcs => ⟨_, rfl, ⟨w.heap.size, rfl, ⟨?_, ?_⟩, fun k hk => ?_⟩, hK.grown hw (World.grownBy_alloc _ _ _) (hR.alloc _), Chg.grown (World.grownBy_alloc _ _ _)⟩)
          · refine ⟨by have := List.all_eq_true.1 hall p hp; simpa using this, ?_⟩
            obtain ⟨c, e1, e2⟩ := l2 (ρ p.2) (List.mem_map.2 ⟨p, hp, rfl⟩)
            have hx := hρ p.2
            rw [e1] at hx
            obtain ⟨u, eu, u0⟩ := hx
            exact ⟨u, eu, by omega⟩
          · have := hR.lt; omega
          · intro o' ho'
            obtain ⟨cs', hb, _⟩ := hK.outs o' ho'
            have := hb.lt; omega
          · obtain ⟨u, hu, hok⟩ := hcs k hk
            exact ⟨u, ((Blk.new w 9 cs).cell k).trans hu, hok⟩
        · cases h
      ·
        cases h
  | indexAddr t x i =>
    rw [ho] at h; unfold tr at h; dsimp only at h
    split at h
    · rename_i ht
      subst ht
      have hx := hρ x; have hy := hρ i
      split at h
      · rename_i e1 e2
        rw [e1] at hx; rw [e2] at hy
        obtain ⟨b, eb, hbg, hcell⟩ := hx; obtain ⟨v, ev, v0, v1⟩ := hy
        split at h
        · rename_i hc
          simp only [Option.some.injEq, Prod.mk.injEq] at h
          obtain ⟨rfl, rfl⟩ := h
          obtain ⟨u, hu, hok⟩ := hcell v.toNat (by omega)
          exact o_index ho eb ev (by omega) (by omega) (hst _ ⟨b, v.toNat, u, rfl, hbg, hu, hok⟩ rfl)
        · cases h
      · cases h
    ·
      split at h
      · rename_i ht
        subst ht
        have hx := hρ x; have hy := hρ i
        split at h
        · rename_i e1 e2
          rw [e1] at hx; rw [e2] at hy
          obtain ⟨b, eb, hbg, hcell⟩ := hx; obtain ⟨v, ev, v0, v1⟩ := hy
          split at h
          · rename_i hc
            simp only [Option.some.injEq, Prod.mk.injEq] at h
            obtain ⟨rfl, rfl⟩ := h
            obtain ⟨u, hu, hok⟩ := hcell v.toNat (by omega)
            exact o_indexS ho eb ev (by omega) (by omega) (hst _ ⟨b, v.toNat, u, rfl, hbg, hu, hok⟩ rfl)
          · cases h
        · cases h
      ·
        cases h
  | build t ps =>
    rw [ho] at h; unfold tr at h; dsimp only at h
    split at h
    · rename_i ht
      split at h
      · rename_i x y hps
        have hp : ps = #[(0, x), (1, y)] := by rw [← Array.toArray_toList (xs := ps), hps]
        subst hp
        have hx := hρ x; have hy := hρ y
        split at h
        · rename_i e1 e2
          rw [e1] at hx; rw [e2] at hy
          obtain ⟨u, eu, u0, u1⟩ := hx; obtain ⟨v, ev, v0, v1⟩ := hy
          simp only [Option.some.injEq, Prod.mk.injEq] at h
          obtain ⟨rfl, rfl⟩ := h
          refine o_build2 ho ht eu ev (hst _ ⟨_, rfl, rfl, fun k hk => ?_⟩ rfl)
          rcases (by omega : k = 0 ∨ k = 1) with rfl | rfl
          · exact ⟨u, rfl, by omega, by omega⟩
          · exact ⟨v, rfl, by omega, by omega⟩
        · cases h
      · cases h
    · cases h
  | fieldAddr t x i =>
    rw [ho] at h; unfold tr at h; dsimp only at h
    have hx := hρ x
    split at h
    · rename_i e1
      rw [e1] at hx
      obtain ⟨b, k, eb, hbg, hc⟩ := hx
      split at h
      · rename_i hn
        obtain ⟨n1, n2⟩ := hn
        simp only [Option.some.injEq, Prod.mk.injEq] at h
        obtain ⟨rfl, rfl⟩ := h
        obtain ⟨z, hz, z0, z1⟩ := hc i n2
        exact o_field ho (by omega) (by omega) eb (hst _ ⟨b, k + i, _, rfl, hbg, hz, z, rfl, z0, z1⟩ rfl)
      · cases h
    · cases h
  | load t x =>
    rw [ho] at h; unfold tr at h; dsimp only at h
    split at h
    · rename_i ht
      subst ht
      have hx := hρ x
      split at h
      · rename_i e1
        rw [e1] at hx
        obtain ⟨b, k, u, eb, hbg, hu, hok⟩ := hx
        simp only [Option.some.injEq, Prod.mk.injEq] at h
        obtain ⟨rfl, rfl⟩ := h
        exact o_load ho eb hu (hst _ hok rfl)
      · cases h
    ·
      split at h
      · rename_i ht
        subst ht
        have hx := hρ x
        split at h
        · rename_i e1
          rw [e1] at hx
          obtain ⟨b, k, u, eb, hbg, hu, hok⟩ := hx
          simp only [Option.some.injEq, Prod.mk.injEq] at h
          obtain ⟨rfl, rfl⟩ := h
          exact o_loadS ho eb hu (hst _ hok rfl)
        · cases h
      ·
        have hx := hρ x
        split at h
        · rename_i e1
          rw [e1] at hx
          obtain ⟨b, k, eb, hbg, hc⟩ := hx
          split at h
          · rename_i hn
            simp only [Option.some.injEq, Prod.mk.injEq] at h
            obtain ⟨rfl, rfl⟩ := h
            exact o_loadAgg ho hn.1 hn.2 eb hc (fun v hv => hst _ hv rfl)
          · cases h
        · cases h
  | store t x y =>
    rw [ho] at h; unfold tr at h; dsimp only at h
    have hx := hρ x; have hy := hρ y
    split at h
    · rename_i e1 e2
      rw [e1] at hx; rw [e2] at hy
      split at h
      · rename_i hc
        obtain ⟨c1, rfl, c2, c3, c4⟩ := hc
        simp only [Option.some.injEq, Prod.mk.injEq] at h
        obtain ⟨rfl, rfl⟩ := h
        obtain ⟨q, hq, q1, q2, q3, eq⟩ := hx
        obtain ⟨cs, hb, hcs, _⟩ := hK.outs q hq
        obtain ⟨w1', w2'⟩ := hw.1 q hq
        refine o_storeAgg ho c1 c2 eq hb (by omega) hy (fun w' cs' k1 k2 k3 k4 k5 k6 k7 k8 => ?_)
        have hchg : Chg C w w' := ⟨k4, k5, k6, by omega, fun k _ hf => k8 k (hf.2 q hq)⟩
        refine ⟨undef, rfl, trivial, ⟨hR.far k4 k5 k6 k7 k8 w2' w1', hK.chg.trans hchg, fun q' hq' => ?_⟩, hchg⟩
        by_cases hqq : q'.B = q.B
        · have := hw.2 q' hq' q hq hqq
          subst this
          exact ⟨cs', k1, by omega, fun k hk => let ⟨z, hz, z0, z1⟩ := k3 k (by omega); ⟨z, hz, by omega, by omega⟩⟩
        · obtain ⟨cs2, b2, b3, b4⟩ := hK.outs q' hq'
          exact ⟨cs2, (k8 q'.B hqq).trans b2, b3, b4⟩
      · cases h
    · cases h
  | call k =>
    rw [ho] at h; unfold tr at h; dsimp only at h
    obtain ⟨callee, args, ts⟩ := k
    dsimp only at h
    split at h
    · rename_i f
      obtain ⟨h1, h2⟩ := hS f _ T c h (args.map a.eval) w M (by simp) (fun k T' hk => by
        simp only [List.getElem?_map, Option.map_eq_some_iff] at hk
        obtain ⟨x, hx, rfl⟩ := hk
        have hx' : args[k]? = some x := by simpa using hx
        have := hρ x
        simpa [Array.getD_eq_getD_getElem?, hx'] using this) hM hR
      exact o_call ho rfl h1 h2 (fun v w' hv => ⟨v, rfl, hv.1, hK.grown hw hv.2.2 hv.2.1, Chg.grown hv.2.2⟩)
    · split at h
      · rename_i lo hi lo' hi' hm
        simp only [Option.some.injEq, Prod.mk.injEq] at h
        obtain ⟨rfl, rfl⟩ := h
        obtain ⟨x, y, e0, e1, e2⟩ : ∃ x y, args.toList = [x, y] ∧ ρ x = .val (.int lo hi) ∧ ρ y = .val (.int lo' hi') := by
          cases hl : args.toList with
          | nil => rw [hl] at hm; simp at hm
          | cons x r =>
            cases r with
            | nil => rw [hl] at hm; simp at hm
            | cons y r =>
              cases r with
              | nil => rw [hl] at hm; simp at hm; exact ⟨x, y, rfl, hm.1, hm.2⟩
              | cons z r => rw [hl] at hm; simp at hm
        have hx := hρ x; have hy := hρ y
        rw [e1] at hx; rw [e2] at hy
        obtain ⟨u, eu, u0, u1⟩ := hx; obtain ⟨v, ev, v0, v1⟩ := hy
        have ha : args = #[x, y] := by rw [← Array.toArray_toList (xs := args), e0]
        exact o_min ho (by rw [ha]) eu ev (hst _ ⟨_, rfl, by omega, by omega⟩ rfl)
      · cases h
    · split at h
      · rename_i lo hi lo' hi' hm
        simp only [Option.some.injEq, Prod.mk.injEq] at h
        obtain ⟨rfl, rfl⟩ := h
        obtain ⟨x, y, e0, e1, e2⟩ : ∃ x y, args.toList = [x, y] ∧ ρ x = .val (.int lo hi) ∧ ρ y = .val (.int lo' hi') := by
          cases hl : args.toList with
          | nil => rw [hl] at hm; simp at hm
          | cons x r =>
            cases r with
            | nil => rw [hl] at hm; simp at hm
            | cons y r =>
              cases r with
              | nil => rw [hl] at hm; simp at hm; exact ⟨x, y, rfl, hm.1, hm.2⟩
              | cons z r => rw [hl] at hm; simp at hm
        have hx := hρ x; have hy := hρ y
        rw [e1] at hx; rw [e2] at hy
        obtain ⟨u, eu, u0, u1⟩ := hx; obtain ⟨v, ev, v0, v1⟩ := hy
        have ha : args = #[x, y] := by rw [← Array.toArray_toList (xs := args), e0]
        exact o_max ho (by rw [ha]) eu ev (hst _ ⟨_, rfl, by omega, by omega⟩ rfl)
      · cases h
    · cases h
  | _ => rw [ho] at h; cases h

end

/-- The frame behind a region: each operation's value put where it belongs. -/
def putAll (vs : Nat → Value) : List Oper → Nat → Act → Act
  | [], _, a => a
  | o :: r, k, a => putAll vs r (k + 1) (a.put o.dst (vs k))

def Ty.sub : Ty → Ty → Bool
  | .val (.int a b), .val (.int c d) => decide (c ≤ a) && decide (b ≤ d)
  | T, U => decide (T = U)
theorem Ty.sub_has {T U : Ty} (h : T.sub U = true) {C : Cx} {v : Value} {w : World} (hv : T.has C v w) : U.has C v w := by
  unfold Ty.sub at h
  split at h
  · obtain ⟨x, e, h0, h1⟩ := hv
    simp only [Bool.and_eq_true, decide_eq_true_eq] at h
    exact ⟨x, e, by omega, by omega⟩
  · have : T = U := by simpa using h
    exact this ▸ hv

/-- The whole check of a region. -/
def lookB (S : FuncId → List Ty → Option (Ty × Nat)) (l : List Oper) (base : Nat → Ty) (m c : Nat) (want : List (Nat × Ty)) : Bool :=
  tidy .any l.toArray m && match looks S l.toArray base l [] [] with
    | some (tys, cs) => decide (tot (fun i b => if b then cs.getD i 0 else 0) #[] l.length ≤ c) && want.all fun p => (match l[p.1]? with | some o => o.dst.isSome | none => false) && (tys.getD p.1 .any).sub p.2
    | none => false

theorem act_ext {a b : Act} (h1 : a.tmps.size = b.tmps.size) (h2 : ∀ t, a.tmps.getD t undef = b.tmps.getD t undef) (h3 : a.defers = b.defers) : a = b := by
  obtain ⟨t1, d1⟩ := a; obtain ⟨t2, d2⟩ := b
  simp only at h1 h2 h3
  subst h3
  have : t1 = t2 := by
    apply Array.ext h1
    intro i hi hi'
    have := h2 i
    simpa [Array.getD_eq_getD_getElem?, hi, hi'] using this
  rw [this]

theorem putAll_size (vs : Nat → Value) : ∀ (l : List Oper) (k : Nat) (a : Act), (putAll vs l k a).tmps.size = a.tmps.size ∧ (putAll vs l k a).defers = a.defers
  | [], _, _ => ⟨rfl, rfl⟩
  | o :: r, k, a => by
    obtain ⟨h1, h2⟩ := putAll_size vs r (k + 1) (a.put o.dst (vs k))
    rw [putAll, h1, h2]
    unfold Act.put
    cases o.dst <;> simp

theorem putAll_get (vs : Nat → Value) (t : Nat) (x : Value) : ∀ (l : List Oper) (k : Nat) (a : Act), t < a.tmps.size → (a.tmps.getD t undef = x ∨ ∃ (j : Nat) (o : Oper), l[j]? = some o ∧ o.dst = some t) →
    (∀ (j : Nat) (o : Oper), l[j]? = some o → o.dst = some t → vs (k + j) = x) → (putAll vs l k a).tmps.getD t undef = x
  | [], _, a, _, h, _ => by
    rcases h with h | ⟨j, o, h, _⟩
    · exact h
    · simp at h
  | o :: r, k, a, ht, h, hv => by
    rw [putAll]
    refine putAll_get vs t x r (k + 1) _ (by unfold Act.put; cases o.dst <;> simpa using ht) ?_ (fun j o' hj hd => by have := hv (j + 1) o' (by simpa using hj) hd; rw [← this]; congr 1; omega)
    by_cases hd : o.dst = some t
    · left
      have := hv 0 o (by simp) hd
      unfold Act.put
      rw [hd]
      simp only [Nat.add_zero] at this
      simp [Array.getD_eq_getD_getElem?, ht, this]
    · have e1 : (a.put o.dst (vs k)).tmps.getD t undef = a.tmps.getD t undef := by
        unfold Act.put
        cases hd' : o.dst with
        | none => rfl
        | some d => simp [Array.getD_eq_getD_getElem?, show d ≠ t from fun e => hd (by rw [hd', e])]
      rw [e1]
      rcases h with h | ⟨j, o', hj, hd'⟩
      · exact .inl h
      · cases j with
        | zero => simp at hj; subst hj; exact absurd hd' hd
        | succ j => exact .inr ⟨j, o', by simpa using hj, hd'⟩

theorem wp_region_lookC {S : FuncId → List Ty → Option (Ty × Nat)} {w0 w : World} {C : Cx} {M cap c : Nat} {l : List Oper} {a0 : Act} {id : Nat} {Q : Exit → Act → World → Prop}
    (base : Nat → Ty) (want : List (Nat × Ty)) (hS : SOk S w0 C cap) (hw : C.wf w0) (hR : Rds w0 w C.g M) (ho : ∀ o ∈ C.outs, o.ok w) (hc : M + c ≤ cap) (hB : lookB S l base a0.tmps.size c want = true)
    (hbase : ∀ t, (base t).has C (a0.tmps.getD t undef) w)
    (hend : ∀ (vs : Nat → Value) (w' : World), (∀ p ∈ want, p.2.has C (vs p.1) w') → Keeps C w0 w (M + c) w' → Q .normal (putAll vs l 0 a0) w') :
    (Code.region id l.toArray true).wp Tryz.prog Q a0 w := by
  unfold lookB at hB
  simp only [Bool.and_eq_true] at hB
  obtain ⟨htidy, hB⟩ := hB
  cases hlk : looks S l.toArray base l [] [] with
  | none => rw [hlk] at hB; cases hB
  | some tc =>
    obtain ⟨tys, cs⟩ := tc
    rw [hlk] at hB
    simp only [Bool.and_eq_true, decide_eq_true_eq] at hB
    obtain ⟨htot, hwant⟩ := hB
    obtain ⟨_, hsp⟩ := looks_spec _ _ _ _ _ hlk rfl
    simp only [List.length_nil, Nat.zero_add] at hsp
    refine wp_region_mid (fun j v w => (tys.getD j .any).has C v w) (fun n w' => Keeps C w0 w (M + n) w') (fun i => cs.getD i 0) c (by kernel_rfl) htidy ⟨hR.drew, Chg.drew _ _, fun o h => ho o h⟩ (by simpa using htot)
      (fun n m w h hnm => ⟨h.1.mono (by omega), h.2, h.3⟩) ?_ ?_
    · intro i o hi a w1 n hn hI hs
      have hi' : l[i]? = some o := by simpa using hi
      obtain ⟨t0, h1, ⟨t1, h2⟩, _⟩ := hsp i o hi'
      have h3 := tr_sound hS hw (M := M + n) (Q := Q) (fun x => see_sound h2 hs (fun t => Ty.has_chg hI.chg (hbase t)) x) h1 (by omega) hI
      refine Oper.wp_mono ?_ h3
      rintro a' w2 ⟨v, rfl, hv, hR', hG'⟩
      exact ⟨v, rfl, hv, fun j u hu => Ty.has_chg hG' hu, by show Keeps C w0 w (M + (n + cs.getD i 0)) w2; rw [← Nat.add_assoc]; exact hR'⟩
    · intro a w1 hd hsz hold hnew hI
      have hkey : a = putAll (fun j => match l[j]? with | some o => (match o.dst with | some t => a.tmps.getD t undef | none => undef) | none => undef) l 0 a0 := by
        refine act_ext ?_ ?_ ?_
        · rw [(putAll_size _ _ _ _).1, hsz]
        · intro t
          rcases Nat.lt_or_ge t a0.tmps.size with ht | ht
          · refine (putAll_get _ t _ l 0 a0 ht ?_ ?_).symm
            · by_cases hex : ∃ (j : Nat) (o : Oper), l[j]? = some o ∧ o.dst = some t
              · exact .inr hex
              · left
                refine (hold t ?_).symm
                rw [Array.all_eq_true]
                intro i hi
                have hi2 : i < l.length := by simpa using hi
                have : ¬ (l[i]).dst = some t := fun h => hex ⟨i, l[i], by simp [hi2], h⟩
                simpa using this
            · intro j o hj hdst
              simp [hj, hdst]
          · have h1 := (putAll_size (fun j => match l[j]? with | some o => (match o.dst with | some t => a.tmps.getD t undef | none => undef) | none => undef) l 0 a0).1
            rw [Array.getD_eq_getD_getElem?, Array.getD_eq_getD_getElem?, Array.getElem?_eq_none (by omega), Array.getElem?_eq_none (by rw [h1]; exact ht)]
        · rw [(putAll_size _ _ _ _).2, hd]
      rw [hkey]
      refine hend _ _ (fun p hp => ?_) hI
      have := List.all_eq_true.1 hwant p hp
      simp only [Bool.and_eq_true] at this
      obtain ⟨h1, h2⟩ := this
      cases hl : l[p.1]? with
      | none => rw [hl] at h1; cases h1
      | some o =>
        rw [hl] at h1
        cases hdst : o.dst with
        | none => simp [hdst] at h1
        | some t =>
          simp only [hdst]
          exact Ty.sub_has h2 (hnew p.1 o t (by simpa using hl) hdst)

theorem wf_nil (g : Nat) (w0 : World) : Cx.wf ⟨g, []⟩ w0 := ⟨by simp, by simp⟩
theorem wp_region_look {S : FuncId → List Ty → Option (Ty × Nat)} {w0 w : World} {g M cap c : Nat} {l : List Oper} {a0 : Act} {id : Nat} {Q : Exit → Act → World → Prop}
    (base : Nat → Ty) (want : List (Nat × Ty)) (hS : SOk S w0 ⟨g, []⟩ cap) (hR : Rds w0 w g M) (hc : M + c ≤ cap) (hB : lookB S l base a0.tmps.size c want = true)
    (hbase : ∀ t, (base t).has ⟨g, []⟩ (a0.tmps.getD t undef) w)
    (hend : ∀ (vs : Nat → Value) (w' : World), (∀ p ∈ want, p.2.has ⟨g, []⟩ (vs p.1) w') → Rds w0 w' g (M + c) → w.grownBy w' (some g) → Q .normal (putAll vs l 0 a0) w') :
    (Code.region id l.toArray true).wp Tryz.prog Q a0 w :=
  wp_region_lookC base want hS (wf_nil g w0) hR (by simp) hc hB hbase (fun vs w' h1 h2 => hend vs w' h1 h2.rd h2.chg.toGrown)

end Go.Proofs.YtidnnnjjpjadlaaGreatDoor

/- The functions that the drawing regions call, and what two and three drawn numbers leave. No condition: contracts for the walks of the laws. -/
namespace Go.Proofs.YtidnnnjjpjadlaaGreatDoor
open Go.ChangeShapes Go.WideShapes Go.ChangeAt Go.RowKit

def TwoPost (l1 h1 l2 h2 : Int) (w : World) (e : Ending) (w' : World) : Prop := ∃ x y : Int, l1 ≤ x ∧ x ≤ h1 ∧ l2 ≤ y ∧ y ≤ h2 ∧ e = .returned (.tuple #[.int .i64 x, .int .i64 y]) ∧ Below w.heap.size w w'
def ThreePost (l1 h1 l2 h2 l3 h3 : Int) (w : World) (e : Ending) (w' : World) : Prop := ∃ x y z : Int, l1 ≤ x ∧ x ≤ h1 ∧ l2 ≤ y ∧ y ≤ h2 ∧ l3 ≤ z ∧ z ≤ h3 ∧ e = .returned (.tuple #[.int .i64 x, .int .i64 y, .int .i64 z]) ∧ Below w.heap.size w w'

theorem arr1 {vs : Array Value} (h : vs.size = 1) : vs = #[vs.getD 0 undef] := by
  apply Array.ext
  · simpa using h
  · intro i h1 h2
    have : i = 0 := by simp at h2; omega
    subst this; simp [Array.getD_eq_getD_getElem?, h1]
theorem arr2 {vs : Array Value} (h : vs.size = 2) : vs = #[vs.getD 0 undef, vs.getD 1 undef] := by
  apply Array.ext
  · simpa using h
  · intro i h1 h2
    have : i = 0 ∨ i = 1 := by simp at h2; omega
    rcases this with rfl | rfl <;> simp [Array.getD_eq_getD_getElem?, h1]

/-- A function of the reader alone that draws a number between lo and hi. -/
def sumInt (lo hi : Int) (c : Nat) (tys : List Ty) : Option (Ty × Nat) := match tys with | [.rd] => some (.val (.int lo hi), c) | _ => none
def sumPick (tys : List Ty) : Option (Ty × Nat) := match tys with | [.rd, .val (.int a b)] => if 1 ≤ a ∧ b ≤ 4611686018427387904 then some (.val (.int 0 (b - 1)), 1) else none | _ => none

def OneOk (F : List Ty → Option (Ty × Nat)) (f : FuncId) (w0 : World) (C : Cx) (cap : Nat) : Prop :=
  ∀ tys T c, F tys = some (T, c) → ∀ (vs : Array Value) (w : World) (M : Nat), vs.size = tys.length → (∀ k (T' : Ty), tys[k]? = some T' → T'.has C (vs.getD k undef) w) → M + c ≤ cap → Rds w0 w C.g M →
    (callFunc f vs).run Tryz.prog w = .ok (.enter f vs) w ∧ Calls Tryz.prog f vs w (fun e w' => ∃ v, e = .returned v ∧ T.has C v w' ∧ Rds w0 w' C.g (M + c) ∧ w.grownBy w' (some C.g))

theorem sok_cons {F : List Ty → Option (Ty × Nat)} {S : FuncId → List Ty → Option (Ty × Nat)} {f : FuncId} {w0 : World} {C : Cx} {cap : Nat} (h : OneOk F f w0 C cap) (hS : SOk S w0 C cap) :
    SOk (fun k tys => if k = f then F tys else S k tys) w0 C cap := by
  intro k tys T c hk
  dsimp only at hk
  split at hk
  · rename_i e; subst e; exact h tys T c hk
  · exact hS k tys T c hk
theorem sok_nil (w0 : World) (C : Cx) (cap : Nat) : SOk (fun _ _ => none) w0 C cap := by
  intro k tys T c hk; cases hk

theorem one_pick (w0 : World) (C : Cx) : OneOk sumPick 45 w0 C 999000 := by
  intro tys T c h vs w M hs hv hM hR
  unfold sumPick at h
  split at h
  · rename_i a b
    split at h
    · rename_i hab
      simp only [Option.some.injEq, Prod.mk.injEq] at h
      obtain ⟨rfl, rfl⟩ := h
      have h0 := hv 0 _ rfl
      obtain ⟨x, h1, h2, h3⟩ := hv 1 _ rfl
      have e := arr2 (by simpa using hs)
      rw [h1, show vs.getD 0 undef = _ from h0] at e
      subst e
      refine ⟨by go_simp, (pick_any hR (by omega) (by omega) (by omega)).mono ?_⟩
      rintro e w' ⟨y, y0, y1, rfl, R', G'⟩
      exact ⟨_, rfl, ⟨y, rfl, y0, by omega⟩, R', G'⟩
    · cases h
  · cases h

theorem one_int {f : FuncId} {lo hi : Int} {c0 : Nat} {w0 : World} {C : Cx} (hf : ∀ (v : Value) (w : World), (callFunc f #[v]).run Tryz.prog w = .ok (.enter f #[v]) w)
    (hc : ∀ (w : World) (N : Nat), N + c0 ≤ 999000 → Rds w0 w C.g N → Calls Tryz.prog f #[.pointer (some ⟨C.g, 0, none⟩)] w (IntPost w0 w C.g (N + c0) lo hi)) : OneOk (sumInt lo hi c0) f w0 C 999000 := by
  intro tys T c h vs w M hs hv hM hR
  unfold sumInt at h
  split at h
  · simp only [Option.some.injEq, Prod.mk.injEq] at h
    obtain ⟨rfl, rfl⟩ := h
    have h0 := hv 0 _ rfl
    have e := arr1 (by simpa using hs)
    rw [show vs.getD 0 undef = _ from h0] at e
    subst e
    refine ⟨hf _ _, (hc _ _ hM hR).mono ?_⟩
    rintro e w' ⟨y, y0, y1, rfl, R', G'⟩
    exact ⟨_, rfl, ⟨y, rfl, y0, y1⟩, R', G'⟩
  · cases h

end Go.Proofs.YtidnnnjjpjadlaaGreatDoor
