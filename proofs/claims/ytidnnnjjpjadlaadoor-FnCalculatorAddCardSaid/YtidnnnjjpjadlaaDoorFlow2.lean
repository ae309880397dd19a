/- A region of a drawing function: a look at its text alone tells what each operation holds (a number in bounds, a list of such numbers of the call's own), whatever order is drawn. No condition: laws on walks alone. -/
import Derived.Test.YtidnnnjjpjadlaaDoorFlow
namespace Go.Proofs.YtidnnnjjpjadlaaDoor
open Go.ChangeShapes Go.WideShapes Go.ChangeAt Go.RowKit

inductive El | int (lo hi : Int) | str (n : Nat) | cnt (v : Int) | ints (n : Nat) (lo hi : Int)
  deriving DecidableEq
def El.ok : El → Value → Prop
  | .int lo hi, v => ∃ x : Int, v = .int .i64 x ∧ lo ≤ x ∧ x ≤ hi
  | .str n, v => ∃ s : ByteArray, v = .string s ∧ s.size ≤ n
  | .cnt x, v => v = .int .u64 x
  | .ints n lo hi, v => ∃ cs : Array Value, v = .agg cs ∧ cs.size = n ∧ ∀ k, k < n → ∃ x : Int, cs[k]? = some (.int .i64 x) ∧ lo ≤ x ∧ x ≤ hi
/-- A block that takes a result: n numbers between lo and hi, whatever they are. -/
structure Out where
  B : Nat
  t : TypeId
  n : Nat
  lo : Int
  hi : Int
def Out.ok (o : Out) (w : World) : Prop := ∃ cs : Array Value, Blk w o.B o.t cs ∧ cs.size = o.n ∧ ∀ k, k < o.n → ∃ x : Int, cs[k]? = some (.int .i64 x) ∧ o.lo ≤ x ∧ x ≤ o.hi
/-- The reader's block, and the blocks that take results. -/
structure Cx where
  g : Nat
  outs : List Out
def Cx.free (C : Cx) (b : Nat) : Prop := b ≠ C.g ∧ ∀ o ∈ C.outs, b ≠ o.B
structure Chg (C : Cx) (w w' : World) : Prop where
  os : w'.os = w.os
  tape : w'.tape = w.tape
  output : w'.output = w.output
  size : w.heap.size ≤ w'.heap.size
  block : ∀ k, k < w.heap.size → C.free k → w'.heap[k]? = w.heap[k]?
theorem Chg.refl (C : Cx) (w : World) : Chg C w w := ⟨rfl, rfl, rfl, Nat.le_refl _, fun _ _ _ => rfl⟩
theorem Chg.drew (C : Cx) (w : World) : Chg C w w.drew := ⟨rfl, rfl, rfl, Nat.le_refl _, fun _ _ _ => rfl⟩
theorem Chg.trans {C : Cx} {a b c : World} (h : Chg C a b) (k : Chg C b c) : Chg C a c :=
  ⟨k.os.trans h.os, k.tape.trans h.tape, k.output.trans h.output, Nat.le_trans h.size k.size, fun i hi hf => (k.block i (Nat.lt_of_lt_of_le hi h.size) hf).trans (h.block i hi hf)⟩
theorem Chg.grown {C : Cx} {w w' : World} (h : w.grownBy w' (some C.g)) : Chg C w w' :=
  ⟨h.os, h.tape, h.output, h.size, fun k hk hf => h.block k hk (by intro e; injection e with e; exact hf.1 e)⟩
theorem Chg.toGrown {g : Nat} {w w' : World} (h : Chg ⟨g, []⟩ w w') : w.grownBy w' (some g) :=
  ⟨h.os, h.tape, h.output, h.size, fun k hk hne => h.block k hk ⟨fun e => hne (by rw [e]), by simp⟩⟩
/-- What is known of a value. -/
inductive Ty | any | val (e : El) | lst (n : Nat) (e : El) | cell (e : El) | many (n : Nat) (lo hi : Int) | out (n : Nat) (lo hi : Int) | rd | bool
  deriving DecidableEq
def Ty.has (C : Cx) : Ty → Value → World → Prop
  | .any, _, _ => True
  | .val e, v, _ => e.ok v
  | .lst n e, v, w => ∃ b, v = .slice (some ⟨b, 0, none⟩) n n ∧ C.free b ∧ ∀ k, k < n → ∃ u, w.cell? ⟨b, k, none⟩ = some u ∧ e.ok u
  | .cell e, v, w => ∃ b k u, v = .pointer (some ⟨b, k, none⟩) ∧ C.free b ∧ w.cell? ⟨b, k, none⟩ = some u ∧ e.ok u
  | .many n lo hi, v, w => ∃ b k, v = .pointer (some ⟨b, k, none⟩) ∧ C.free b ∧ ∀ i, i < n → ∃ x : Int, w.cell? ⟨b, k + i, none⟩ = some (.int .i64 x) ∧ lo ≤ x ∧ x ≤ hi
  | .out n lo hi, v, _ => ∃ o, o ∈ C.outs ∧ o.n = n ∧ o.lo = lo ∧ o.hi = hi ∧ v = .pointer (some ⟨o.B, 0, none⟩)
  | .rd, v, _ => v = .pointer (some ⟨C.g, 0, none⟩)
  | .bool, v, _ => ∃ b, v = .bool b

theorem cell_lt {w : World} {b k : Nat} {u : Value} (h : w.cell? ⟨b, k, none⟩ = some u) : b < w.heap.size := by
  rcases Nat.lt_or_ge b w.heap.size with hlt | hge
  · exact hlt
  · have : w.heap[b]? = none := by simp [hge]
    simp [World.cell?, this] at h

theorem cell_chg {C : Cx} {w w' : World} {b k : Nat} {u : Value} (hg : Chg C w w') (hb : C.free b) (h : w.cell? ⟨b, k, none⟩ = some u) : w'.cell? ⟨b, k, none⟩ = some u :=
  (World.cell?_of_block (w := w) (hg.block b (cell_lt h) hb)).trans h

theorem Ty.has_chg {C : Cx} {T : Ty} {v : Value} {w w' : World} (hg : Chg C w w') (h : T.has C v w) : T.has C v w' := by
  cases T with
  | any => trivial
  | val e => exact h
  | rd => exact h
  | bool => exact h
  | out n lo hi => exact h
  | lst n e =>
    obtain ⟨b, h1, h2, h3⟩ := h
    exact ⟨b, h1, h2, fun k hk => let ⟨u, hu, he⟩ := h3 k hk; ⟨u, cell_chg hg h2 hu, he⟩⟩
  | cell e =>
    obtain ⟨b, k, u, h1, h2, h3, h4⟩ := h
    exact ⟨b, k, u, h1, h2, cell_chg hg h2 h3, h4⟩
  | many n lo hi =>
    obtain ⟨b, k, h1, h2, h3⟩ := h
    exact ⟨b, k, h1, h2, fun i hi => let ⟨x, hx, he⟩ := h3 i hi; ⟨x, cell_chg hg h2 hx, he⟩⟩

/-- The bounds that hold all of these numbers, and 0. -/
def hull : List Ty → Option (Int × Int)
  | [] => some (0, 0)
  | .val (.int a b) :: r => match hull r with | some (c, d) => some (min a c, max b d) | none => none
  | _ :: _ => none
def rngFit (lo hi : Int) : Option (Ty × Nat) := if -9223372036854775808 ≤ lo ∧ hi ≤ 9223372036854775807 then some (.val (.int lo hi), 0) else none
def mag (a b : Int) : Int := max (max a (-a)) (max b (-b))

/-- The structs of this program that hold numbers alone, with their sizes. -/
def aggT (t : TypeId) : Nat :=
  if t = 24 then 2 else
  if t = 81 then 2 else
  0
/-- What an operation yields, by what its operands hold; and how many numbers it reads from the reader. -/
def tr (S : FuncId → List Ty → Option (Ty × Nat)) (o : Op) (ρ : Operand → Ty) : Option (Ty × Nat) :=
  match o with
  | .move x => some (ρ x, 0)
  | .assign x => some (ρ x, 0)
  | .binOp op _ x y _ =>
    match op, ρ x, ρ y with
    | .add, .val (.int a b), .val (.int c d) => rngFit (a + c) (b + d)
    | .sub, .val (.int a b), .val (.int c d) => rngFit (a - d) (b - c)
    | .mul, .val (.int a b), .val (.int c d) => if 0 ≤ a ∧ 0 ≤ c then rngFit 0 (b * d) else rngFit (-(mag a b * mag c d)) (mag a b * mag c d)
    | .shl, .val (.int a b), .val (.int c d) => if 0 ≤ c ∧ d ≤ 62 then if 0 ≤ a then rngFit 0 (b * 2 ^ d.toNat) else rngFit (-(mag a b * 2 ^ d.toNat)) (mag a b * 2 ^ d.toNat) else none
    | .shl, .val (.int a b), .val (.cnt v) => if 0 ≤ v ∧ v ≤ 62 then if 0 ≤ a then rngFit 0 (b * 2 ^ v.toNat) else rngFit (-(mag a b * 2 ^ v.toNat)) (mag a b * 2 ^ v.toNat) else none
    | .rem, .val (.int a _), .val (.int c d) => if 0 ≤ a ∧ 1 ≤ c then rngFit 0 (d - 1) else none
    | .quo, .val (.int a b), .val (.int c d) => if 0 ≤ a ∧ b ≤ 9223372036854775807 ∧ 1 ≤ c ∧ c = d then rngFit 0 (b / c) else none
    | _, _, _ => none
  | .unOp .neg _ x => match ρ x with | .val (.int a b) => rngFit (-b) (-a) | _ => none
  | .buildSlice t n ps =>
    if t = 72 ∧ 1 ≤ n ∧ n ≤ 1000 ∧ (ps.toList.all fun p => decide (p.1 < n)) = true then
      match hull (ps.toList.map fun p => ρ p.2) with | some (a, b) => some (.lst n (.int a b), 0) | none => none
    else none
  | .indexAddr t x i =>
    if t = 72 then match ρ x, ρ i with | .lst n e, .val (.int a b) => if 0 ≤ a ∧ b < n then some (.cell e, 0) else none | _, _ => none else none
  | .build t ps => if aggT t = 2 then match ps.toList with
      | [(0, x), (1, y)] => match ρ x, ρ y with | .val (.int a b), .val (.int c d) => some (.val (.ints 2 (min a c) (max b d)), 0) | _, _ => none
      | _ => none else none
  | .fieldAddr t x i => match ρ x with | .many n a b => if aggT t = n ∧ i < n then some (.cell (.int a b), 0) else none | _ => none
  | .load t x => if t = 3 then match ρ x with | .cell (.int a b) => some (.val (.int a b), 0) | _ => none
    else match ρ x with | .many n a b => if aggT t = n ∧ n ≠ 0 then some (.val (.ints n a b), 0) else none | _ => none
  | .store t x v => match ρ x, ρ v with | .out n lo hi, .val (.ints m a b) => if aggT t = n ∧ m = n ∧ n ≠ 0 ∧ lo ≤ a ∧ b ≤ hi then some (.any, 0) else none | _, _ => none
  | .call c =>
    match c.callee with
    | .value (.func f) => S f (c.args.toList.map ρ)
    | .builtin .min => match c.args.toList.map ρ with | [.val (.int a b), .val (.int c d)] => some (.val (.int (min a c) (min b d)), 0) | _ => none
    | .builtin .max => match c.args.toList.map ρ with | [.val (.int a b), .val (.int c d)] => some (.val (.int (max a c) (max b d)), 0) | _ => none
    | _ => none
  | _ => none

/-- What an operand holds, by what the others have yielded. -/
def see (ops : Array Oper) (base : Nat → Ty) (tys : List Ty) (o : Oper) : Operand → Ty
  | .tmp t => match (List.range ops.size).find? fun j => match ops[j]? with | some x => x.dst == some t | none => false with
    | some j => if (o.after.any fun e => e.on == j && Region.binds .any e) = true then tys.getD j .any else .any
    | none => base t
  | .const (.int .i64 x) => .val (.int x x)
  | .const (.int .u64 x) => .val (.cnt x)
  | _ => .any

/-- The look at a region's text: each operation's type and cost. -/
def looks (S : FuncId → List Ty → Option (Ty × Nat)) (ops : Array Oper) (base : Nat → Ty) : List Oper → List Ty → List Nat → Option (List Ty × List Nat)
  | [], tys, cs => some (tys, cs)
  | o :: r, tys, cs => match tr S o.op (see ops base tys o) with
    | some (T, c) => looks S ops base r (tys ++ [T]) (cs ++ [c])
    | none => none

theorem looks_spec {S : FuncId → List Ty → Option (Ty × Nat)} {ops : Array Oper} {base : Nat → Ty} : ∀ (r : List Oper) (tys0 : List Ty) (cs0 : List Nat) (tys : List Ty) (cs : List Nat),
    looks S ops base r tys0 cs0 = some (tys, cs) → tys0.length = cs0.length → (∃ t c, tys = tys0 ++ t ∧ cs = cs0 ++ c) ∧
    ∀ k o, r[k]? = some o → ∃ t0, tr S o.op (see ops base t0 o) = some (tys.getD (tys0.length + k) .any, cs.getD (tys0.length + k) 0) ∧ (∃ t1, tys = t0 ++ t1) ∧ t0.length = tys0.length + k
  | [], tys0, cs0, tys, cs, h, _ => by
    simp only [looks, Option.some.injEq, Prod.mk.injEq] at h
    exact ⟨⟨[], [], by simp [h.1], by simp [h.2]⟩, fun k o hk => by simp at hk⟩
  | o :: r, tys0, cs0, tys, cs, h, hl => by
    simp only [looks] at h
    cases ht : tr S o.op (see ops base tys0 o) with
    | none => rw [ht] at h; simp at h
    | some Tc =>
      obtain ⟨T, c⟩ := Tc
      rw [ht] at h
      obtain ⟨⟨t, c', e1, e2⟩, h2⟩ := looks_spec r _ _ _ _ h (by simp [hl])
      refine ⟨⟨[T] ++ t, [c] ++ c', by simp [e1], by simp [e2]⟩, fun k x hk => ?_⟩
      cases k with
      | zero =>
        simp at hk; subst hk
        refine ⟨tys0, ?_, ⟨[T] ++ t, by simp [e1]⟩, rfl⟩
        rw [ht, e1, e2]
        simp [List.getD_eq_getElem?_getD, hl]
      | succ k =>
        simp at hk
        obtain ⟨t0, h3, h4, h5⟩ := h2 k x hk
        simp only [List.length_append, List.length_cons, List.length_nil, Nat.zero_add] at h3 h5
        exact ⟨t0, by rw [h3, show tys0.length + 1 + k = tys0.length + (k + 1) by omega], h4, by omega⟩

end Go.Proofs.YtidnnnjjpjadlaaDoor
