/- A row of texts appended to a row of texts; a row that is only read, cut. No condition: contracts for the walks of the laws. -/
import Derived.Deep.Upon
import Derived.Test.YtidnnnjjpjadlaaGreatDoorRowS
namespace Go.Proofs.YtidnnnjjpjadlaaGreatDoor
open Go.ChangeShapes Go.WideShapes Go.ChangeAt Go.RowKit

theorem run_append_rows {w : World} {base b2 : Nat} {v u : Value} {A B : List ByteArray} (h1 : RowS w base v A) (h2 : RowS w b2 u B) (hl : A.length + B.length ≤ 1000) (hbase : base ≤ w.heap.size) (ty : TypeId) :
    ∃ v' w', (Builtin.append_ #[34, 34] ty #[v, u]).run Tryz.prog w = .ok v' w' ∧ RowS w' base v' (A ++ B) ∧ w.grownBy w' v.ownBlock := by
  obtain ⟨i0, hi, hz0, hz1, hz2⟩ := (info_parts (P := Tryz.prog) (e := 9) (z := .string ⟨#[]⟩) (size := 1) (bytes := 16) (by kernel_rfl) : ∃ i, Tryz.prog.info? 9 = some i ∧ i.zero = some (.string ⟨#[]⟩) ∧ i.size = 1 ∧ i.bytes = 16)
  obtain ⟨ao, c, rfl, -, hc, hA⟩ := h2.open_
  rcases h2.2 with ⟨e, h0⟩ | ⟨g, cap, cur, e, -⟩
  · have hB : B = [] := List.eq_nil_of_length_eq_zero h0
    subst hB
    obtain ⟨a1, c1, rfl, -, hc1, -⟩ := h1.open_
    rw [e]
    exact ⟨_, w, run_append_nothing w _ _ ty 9 i0 Tryz.underlying34 hi a1 A.length c1 hc1 _ (Src.ofNil w Tryz.underlying34 0), by rw [List.append_nil]; exact h1, World.grownBy.refl _ _⟩
  · rw [e]
    simp only [Value.slice.injEq] at e
    obtain ⟨rfl, -, rfl⟩ := e
    obtain ⟨v', w', hr, k1, k2, -⟩ := run_append_own (P := Tryz.prog) w base 34 ty 9 i0 (.string ⟨#[]⟩) 1 16 Tryz.underlying34 hi hz0 hz1 hz2 rfl (by decide) v A.length (A.map Value.string) h1 ⟨g, 0, none⟩ B.length c (B.map Value.string) (by simp)
      (fun j x hx => by
        have hj : j < B.length := by
          rcases Nat.lt_or_ge j B.length with h | h
          · exact h
          · rw [List.getElem?_eq_none (by simpa using h)] at hx; cases hx
        obtain ⟨g', e', cA, -⟩ := hA (by omega)
        have e3 : g = g' := by cases e'; rfl
        subst e3
        have k := cA j hj
        have e2 : ((⟨g, 0, none⟩ : Addr).add j) = ⟨g, j, none⟩ := by unfold Addr.add; split <;> simp_all
        refine (e2 ▸ k).trans ?_
        rw [← hx]
        simp [List.getD_eq_getElem?_getD, hj])
      (fun x hx => by obtain ⟨y, -, rfl⟩ := List.mem_map.1 hx; rfl) (by unfold maxLen; omega) (by omega) hbase
    refine ⟨v', w', hr, ?_, k2⟩
    unfold RowS
    rw [List.map_append, List.length_append]
    exact k1
/-- A row of texts behind a row of texts, at the operation. -/
theorem wpList_append_rows {w : World} {ops : Array Oper} {rest : List Oper} {o : Oper} {a : Act} {Q : Exit → Act → World → Prop} (hgd : o.guard = none) (s x : Operand)
    (ho : o.op = .call { callee := .builtin .append, args := #[s, x], argTypes := #[34, 34] })
    {base b2 : Nat} {v u : Value} {A B : List ByteArray} (hs : a.eval s = v) (hx : a.eval x = u) (h1 : RowS w base v A) (h2 : RowS w b2 u B) (hl : A.length + B.length ≤ 1000) (hbase : base ≤ w.heap.size)
    (h : ∀ v' w', RowS w' base v' (A ++ B) → w.grownBy w' v.ownBlock → wpList Tryz.prog ops Q rest (a.put o.dst v') w') : wpList Tryz.prog ops Q (o :: rest) a w :=
  wpList_plain hgd fun _ hK => by
    obtain ⟨v', w', hr, k1, k2⟩ := run_append_rows h1 h2 hl hbase o.type
    unfold Oper.wp execOp
    simp only [ho, resolve, invoke, builtin, Sem.run_bind, Sem.run_pure, Result.andThen_ok, List.map_toArray, List.map_cons, List.map_nil, hs, hx, hr]
    exact hK _ _ (h v' w' k1 k2)
theorem RdT.cutTo {w : World} {a : Option Addr} {xs : List ByteArray} (h : RdT w a xs) (k : Nat) : RdT w a (xs.take k) := by
  intro j hj
  rw [List.length_take] at hj
  obtain ⟨x, h1, h2, h3⟩ := h j (by omega)
  refine ⟨x, h1, h2, ?_⟩
  rw [h3]
  have : j < k := by omega
  simp [List.getD_eq_getElem?_getD, this]
theorem RdT.cutFrom {w : World} {x : Addr} {xs : List ByteArray} (h : RdT w (some x) xs) (k : Nat) : RdT w (some (x.add k)) (xs.drop k) := by
  intro j hj
  rw [List.length_drop] at hj
  obtain ⟨y, h1, h2, h3⟩ := h (k + j) (by omega)
  injection h1 with h1
  subst h1
  refine ⟨_, rfl, ?_, ?_⟩
  · unfold Addr.add; split <;> exact h2
  · have e : (x.add k).add j = x.add (k + j) := by
      unfold Addr.add
      (repeat' split) <;> simp_all <;> omega
    rw [e, h3]
    simp [List.getD_eq_getElem?_getD]
end Go.Proofs.YtidnnnjjpjadlaaGreatDoor
