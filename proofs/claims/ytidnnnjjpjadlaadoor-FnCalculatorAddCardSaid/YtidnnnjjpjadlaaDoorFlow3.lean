/- The operations of a drawing function's regions, each by what its operands hold. No condition: laws on walks alone. -/
import Derived.Test.YtidnnnjjpjadlaaDoorFlow2
namespace Go.Proofs.YtidnnnjjpjadlaaDoor
open Go.ChangeShapes Go.WideShapes Go.ChangeAt Go.RowKit

section
variable {a : Act} {w : World} {K : Act → World → Prop} {Q : Exit → Act → World → Prop} {o : Oper}
theorem o_move {x : Operand} (ho : o.op = .move x) (h : K (a.put o.dst (a.eval x)) w) : o.wp Tryd.prog a w K Q := by
  unfold Oper.wp execOp; rw [ho]; exact h
theorem o_assign {x : Operand} (ho : o.op = .assign x) (h : K (a.put o.dst (a.eval x)) w) : o.wp Tryd.prog a w K Q := by
  unfold Oper.wp execOp; rw [ho]; exact h
theorem o_add {x y : Operand} {u v : Int} {t t' : TypeId} (ho : o.op = .binOp .add t x y t') (hx : a.eval x = .int .i64 u) (hy : a.eval y = .int .i64 v)
    (h0 : -9223372036854775808 ≤ u + v) (h1 : u + v ≤ 9223372036854775807) (h : K (a.put o.dst (.int .i64 (u + v))) w) : o.wp Tryd.prog a w K Q := by
  have e : IntKind.i64.wrap (u + v) = u + v := IntWalk.i64_in _ (by omega)
  unfold Oper.wp execOp; rw [ho]; simp only [hx, hy]
  simpa [go_sem, e] using h
theorem o_sub {x y : Operand} {u v : Int} {t t' : TypeId} (ho : o.op = .binOp .sub t x y t') (hx : a.eval x = .int .i64 u) (hy : a.eval y = .int .i64 v)
    (h0 : -9223372036854775808 ≤ u - v) (h1 : u - v ≤ 9223372036854775807) (h : K (a.put o.dst (.int .i64 (u - v))) w) : o.wp Tryd.prog a w K Q := by
  have e : IntKind.i64.wrap (u - v) = u - v := IntWalk.i64_in _ (by omega)
  unfold Oper.wp execOp; rw [ho]; simp only [hx, hy]
  simpa [go_sem, e] using h
theorem o_mul {x y : Operand} {u v : Int} {t t' : TypeId} (ho : o.op = .binOp .mul t x y t') (hx : a.eval x = .int .i64 u) (hy : a.eval y = .int .i64 v)
    (h0 : -9223372036854775808 ≤ u * v) (h1 : u * v ≤ 9223372036854775807) (h : K (a.put o.dst (.int .i64 (u * v))) w) : o.wp Tryd.prog a w K Q := by
  have e : IntKind.i64.wrap (u * v) = u * v := IntWalk.i64_in _ (by omega)
  unfold Oper.wp execOp; rw [ho]; simp only [hx, hy]
  simpa [go_sem, e] using h
theorem o_shl {x y : Operand} {u v : Int} {t t' : TypeId} {yk : IntKind} (ho : o.op = .binOp .shl t x y t') (hx : a.eval x = .int .i64 u) (hy : a.eval y = .int yk v)
    (hv0 : 0 ≤ v) (hv1 : v ≤ 62) (h0 : -9223372036854775808 ≤ u * 2 ^ v.toNat) (h1 : u * 2 ^ v.toNat ≤ 9223372036854775807) (h : K (a.put o.dst (.int .i64 (u * 2 ^ v.toNat))) w) : o.wp Tryd.prog a w K Q := by
  have e : IntKind.i64.wrap (u * 2 ^ v.toNat) = u * 2 ^ v.toNat := IntWalk.i64_in _ (by omega)
  have hs : Op.shift .shl .i64 u yk v = (pure (.int .i64 (IntKind.i64.wrap (u * 2 ^ v.toNat))) : Sem Value) := shift_shl .i64 yk u v hv0 (by show v ≤ 64; omega)
  unfold Oper.wp execOp; rw [ho]; simp only [hx, hy]
  simpa [go_sem, hs, e] using h
theorem o_quo {x y : Operand} {u v : Int} {t t' : TypeId} (ho : o.op = .binOp .quo t x y t') (hx : a.eval x = .int .i64 u) (hy : a.eval y = .int .i64 v)
    (h0 : 0 ≤ u) (h1 : u ≤ 9223372036854775807) (hv : 1 ≤ v) (h : K (a.put o.dst (.int .i64 (u / v))) w) : o.wp Tryd.prog a w K Q := by
  have q0 : 0 ≤ u / v := Int.ediv_nonneg h0 (by omega)
  have q1 : u / v ≤ u := Int.ediv_le_self _ h0
  have e : IntKind.i64.wrap (u / v) = u / v := IntWalk.i64_in _ (by omega)
  have e2 : u.tdiv v = u / v := Int.tdiv_eq_ediv_of_nonneg h0
  have hv0 : ¬ v = 0 := by omega
  unfold Oper.wp execOp; rw [ho]; simp only [hx, hy]
  simpa [go_sem, e, e2, hv0] using h
theorem o_rem {x y : Operand} {u v : Int} {t t' : TypeId} (ho : o.op = .binOp .rem t x y t') (hx : a.eval x = .int .i64 u) (hy : a.eval y = .int .i64 v)
    (h0 : 0 ≤ u) (hv : 1 ≤ v) (hv2 : v ≤ 9223372036854775808) (h : K (a.put o.dst (.int .i64 (u % v))) w) : o.wp Tryd.prog a w K Q := by
  have q0 : 0 ≤ u % v := Int.emod_nonneg _ (by omega)
  have q1 : u % v < v := Int.emod_lt_of_pos _ (by omega)
  have e : IntKind.i64.wrap (u % v) = u % v := IntWalk.i64_in _ (by omega)
  have e2 : u.tmod v = u % v := Int.tmod_eq_emod_of_nonneg h0
  have hv0 : ¬ v = 0 := by omega
  unfold Oper.wp execOp; rw [ho]; simp only [hx, hy]
  simpa [go_sem, e, e2, hv0] using h
theorem o_min {x y : Operand} {u v : Int} {ts : Array TypeId} {c : Call} (ho : o.op = .call c) (hc : c = ⟨.builtin .min, #[x, y], ts⟩) (hx : a.eval x = .int .i64 u) (hy : a.eval y = .int .i64 v)
    (h : K (a.put o.dst (.int .i64 (min u v))) w) : o.wp Tryd.prog a w K Q := by
  subst hc
  have e : (if v < u then v else u) = min u v := by omega
  have hm : (#[x, y] : Array Operand).map a.eval = #[.int .i64 u, .int .i64 v] := by simp [hx, hy]
  unfold Oper.wp execOp; rw [ho]
  simp only [resolve, hm]
  simpa [go_sem, e] using h
theorem o_neg {x : Operand} {u : Int} {t : TypeId} (ho : o.op = .unOp .neg t x) (hx : a.eval x = .int .i64 u)
    (h0 : -9223372036854775808 ≤ -u) (h1 : -u ≤ 9223372036854775807) (h : K (a.put o.dst (.int .i64 (-u))) w) : o.wp Tryd.prog a w K Q := by
  have e : IntKind.i64.wrap (-u) = -u := IntWalk.i64_in _ (by omega)
  unfold Oper.wp execOp; rw [ho]; simp only [hx]
  simpa [go_sem, e] using h
theorem o_load {x : Operand} {b k : Nat} {u : Value} (ho : o.op = .load 3 x) (hx : a.eval x = .pointer (some ⟨b, k, none⟩)) (hc : w.cell? ⟨b, k, none⟩ = some u)
    (h : K (a.put o.dst u) w) : o.wp Tryd.prog a w K Q := by
  unfold Oper.wp execOp; rw [ho]; simp only [hx]
  simp only [go_sem] at h
  go_simp
  exact h
theorem aggT_ok {t : TypeId} (h : aggT t ≠ 0) : ∃ d, Tryd.prog.underlying t = some (.struct d) ∧ (Tryd.prog.info? t).map (·.size) = some (aggT t) := by
  have key : ∀ (u : TypeId) (n : Nat), (match Tryd.prog.underlying u with | some (.struct _) => true | _ => false) = true → (Tryd.prog.info? u).map (·.size) = some n → ∃ d, Tryd.prog.underlying u = some (.struct d) ∧ (Tryd.prog.info? u).map (·.size) = some n := by
    intro u n h1 h2
    split at h1
    · rename_i d hd; exact ⟨d, hd, h2⟩
    · cases h1
  unfold aggT at h ⊢
  repeat' split at h
  all_goals first | (exact absurd rfl h) | skip
  all_goals
    subst_vars
    exact key _ _ (by kernel_rfl) (by kernel_rfl)
theorem aggT_field {t : TypeId} (h : aggT t ≠ 0) {i : Nat} (hi : i < aggT t) : ∃ d f, Tryd.prog.underlying t = some (.struct d) ∧ d[i]? = some f ∧ f.offset = i ∧ (Tryd.prog.info? f.type).map (·.size) = some 1 := by
  have key : ∀ (u : TypeId) (n : Nat), (match Tryd.prog.underlying u with | some (.struct d) => (List.range n).all (fun j => (match d[j]? with | some f => f.offset == j && (Tryd.prog.info? f.type).map (·.size) == some 1 | none => false)) | _ => false) = true → i < n → ∃ d f, Tryd.prog.underlying u = some (.struct d) ∧ d[i]? = some f ∧ f.offset = i ∧ (Tryd.prog.info? f.type).map (·.size) = some 1 := by
    intro u n h1 h2
    split at h1
    · rename_i d hd
      have := List.all_eq_true.1 h1 i (List.mem_range.2 h2)
      split at this
      · rename_i f hf
        simp only [Bool.and_eq_true, beq_iff_eq] at this
        exact ⟨d, f, hd, hf, this.1, this.2⟩
      · cases this
    · cases h1
  unfold aggT at h hi
  repeat' split at h
  all_goals first | (exact absurd rfl h) | skip
  all_goals
    subst_vars
    exact key _ _ (by kernel_rfl) hi
theorem o_field {x : Operand} {t : TypeId} {b k i : Nat} (ho : o.op = .fieldAddr t x i) (ht : aggT t ≠ 0) (hi : i < aggT t) (hx : a.eval x = .pointer (some ⟨b, k, none⟩))
    (h : K (a.put o.dst (.pointer (some ⟨b, k + i, none⟩))) w) : o.wp Tryd.prog a w K Q := by
  obtain ⟨d, f, h1, h2, h3, h4⟩ := aggT_field ht hi
  obtain ⟨j, hj1, hj2⟩ : ∃ j, Tryd.prog.info? f.type = some j ∧ j.size = 1 := by
    cases hh : Tryd.prog.info? f.type with
    | none => rw [hh] at h4; cases h4
    | some j => rw [hh] at h4; exact ⟨j, rfl, by simpa using h4⟩
  have hv : (Instr.fieldAt t (.pointer (some ⟨b, k, none⟩)) i).run Tryd.prog w = .ok (.pointer (some ⟨b, k + i, none⟩)) w := by
    simp [Instr.fieldAt, Instr.sureAddr, run_underlying h1, h2, fieldPlace, h3, Addr.add_lit, sizeOf, typeInfo, hj1, hj2]
  unfold Oper.wp execOp; rw [ho]; simp only [hx]
  rw [Sem.run_bind, hv]
  exact h
theorem o_build2 {x y : Operand} {t : TypeId} {u v : Int} (ho : o.op = .build t #[(0, x), (1, y)]) (ht : aggT t = 2) (hx : a.eval x = .int .i64 u) (hy : a.eval y = .int .i64 v)
    (h : K (a.put o.dst (.agg #[.int .i64 u, .int .i64 v])) w) : o.wp Tryd.prog a w K Q := by
  have hm : (#[(0, x), (1, y)] : Array (Nat × Operand)).map (fun p => (p.1, a.eval p.2)) = #[(0, .int .i64 u), (1, .int .i64 v)] := by simp [hx, hy]
  have hv : (Instr.build t #[(0, .int .i64 u), (1, .int .i64 v)]).run Tryd.prog w = .ok (.agg #[.int .i64 u, .int .i64 v]) w := by
    unfold aggT at ht
    repeat' split at ht
    all_goals first | (exact absurd ht (by decide)) | skip
    all_goals
      subst_vars
      go_simp
  unfold Oper.wp execOp; rw [ho]
  dsimp only
  rw [Sem.run_bind]
  have e : (#[(0, x), (1, y)] : Array (Nat × Operand)).map (fun | (i, x) => (i, a.eval x)) = #[(0, .int .i64 u), (1, .int .i64 v)] := hm
  rw [e, hv]
  exact h
theorem run_cells {b k : Nat} {E : Value → Prop} : ∀ (n i : Nat) (acc : Array Value), (∀ j, j < n → ∃ u, w.cell? ⟨b, k + (i + j), none⟩ = some u ∧ E u) →
    ∃ cs, (loadCellsFrom ⟨b, k, none⟩ i n acc).run Tryd.prog w = .ok cs w ∧ cs.size = acc.size + n ∧ (∀ j, j < acc.size → cs[j]? = acc[j]?) ∧ ∀ j, j < n → ∃ u, cs[acc.size + j]? = some u ∧ E u
  | 0, i, acc, _ => ⟨acc, rfl, rfl, fun _ _ => rfl, fun j hj => by omega⟩
  | n + 1, i, acc, h => by
    obtain ⟨u, hu, hE⟩ := h 0 (by omega)
    obtain ⟨cs, h1, h2, h3, h4⟩ := run_cells n (i + 1) (acc.push u) (fun j hj => by
      obtain ⟨v, hv, hEv⟩ := h (j + 1) (by omega)
      exact ⟨v, by rw [show i + 1 + j = i + (j + 1) by omega]; exact hv, hEv⟩)
    rw [Array.size_push] at h2 h3 h4
    refine ⟨cs, ?_, by omega, fun j hj => ?_, fun j hj => ?_⟩
    · unfold loadCellsFrom
      rw [Sem.run_bind]
      have e : (load (Addr.add ⟨b, k, none⟩ i)).run Tryd.prog w = .ok u w := by
        rw [Addr.add_lit]
        simp only [Nat.add_zero] at hu
        simp [hu]
      rw [e]
      exact h1
    · rw [h3 j (by omega)]; simp [Array.getElem?_push, Nat.ne_of_lt hj]
    · cases j with
      | zero => exact ⟨u, by rw [Nat.add_zero, h3 _ (by omega)]; simp, hE⟩
      | succ j =>
        obtain ⟨v, hv, hEv⟩ := h4 j (by omega)
        exact ⟨v, by rw [← hv]; congr 1; omega, hEv⟩
theorem o_loadAgg {x : Operand} {t : TypeId} {b k n : Nat} {lo hi : Int} (ho : o.op = .load t x) (ht : aggT t = n) (hn : n ≠ 0) (hx : a.eval x = .pointer (some ⟨b, k, none⟩))
    (hc : ∀ i, i < n → ∃ u : Int, w.cell? ⟨b, k + i, none⟩ = some (.int .i64 u) ∧ lo ≤ u ∧ u ≤ hi) (h : ∀ v, (El.ints n lo hi).ok v → K (a.put o.dst v) w) : o.wp Tryd.prog a w K Q := by
  obtain ⟨d, hd, hs⟩ := aggT_ok (t := t) (by rw [ht]; exact hn)
  obtain ⟨cs, e1, e2, _, e4⟩ := run_cells (w := w) (b := b) (k := k) (E := fun v => ∃ u : Int, v = .int .i64 u ∧ lo ≤ u ∧ u ≤ hi) n 0 #[] (fun j hj => by
    obtain ⟨u, hu, hb⟩ := hc j hj
    exact ⟨_, by rw [Nat.zero_add]; exact hu, u, rfl, hb⟩)
  obtain ⟨i, hi1, hi2⟩ : ∃ i, Tryd.prog.info? t = some i ∧ i.size = n := by
    cases hh : Tryd.prog.info? t with
    | none => rw [hh] at hs; cases hs
    | some i => rw [hh, ht] at hs; exact ⟨i, rfl, by simpa using hs⟩
  have hv : (Instr.loadAt t (.pointer (some ⟨b, k, none⟩))).run Tryd.prog w = .ok (.agg cs) w := by
    simp [Instr.loadAt, Instr.sureAddr, loadVar, isAgg, run_underlying hd, loadCells, sizeOf, typeInfo, hi1, hi2, e1]
  unfold Oper.wp execOp; rw [ho]; simp only [hx]
  rw [Sem.run_bind, hv]
  refine h _ ⟨cs, rfl, by simpa using e2, fun j hj => ?_⟩
  obtain ⟨u, hu, x, rfl, hb⟩ := e4 j hj
  exact ⟨x, by simpa using hu, hb⟩
theorem run_storeCells {B : Nat} {t : TypeId} : ∀ (vs : List Value) (i : Nat) (w : World) (cs : Array Value), Blk w B t cs → i + vs.length = cs.size → (∀ v ∈ vs, v.oneCell' = true) →
    ∃ w', (storeCells ⟨B, 0, none⟩ vs i).run Tryd.prog w = .ok () w' ∧ (∃ cs', Blk w' B t cs' ∧ cs'.size = cs.size ∧ (∀ j, j < i → cs'[j]? = cs[j]?) ∧ ∀ j, j < vs.length → cs'[i + j]? = vs[j]?) ∧
      w'.os = w.os ∧ w'.tape = w.tape ∧ w'.output = w.output ∧ w'.heap.size = w.heap.size ∧ ∀ k, k ≠ B → w'.heap[k]? = w.heap[k]?
  | [], i, w, cs, hb, _, _ => ⟨w, rfl, ⟨cs, hb, rfl, fun _ _ => rfl, fun j hj => by simp at hj⟩, rfl, rfl, rfl, rfl, fun _ _ => rfl⟩
  | v :: r, i, w, cs, hb, hs, hv => by
    have hs' : i < cs.size := by simp at hs; omega
    obtain ⟨w', h1, ⟨cs', h2, h3, h4, h5⟩, h6, h7, h8, h9, h10⟩ := run_storeCells r (i + 1) (w.setCell ⟨B, i, none⟩ v) (cs.setIfInBounds i v) (hb.set i v) (by simp at hs ⊢; omega) (fun v hv' => hv v (List.mem_cons_of_mem _ hv'))
    have e : (store (Addr.add ⟨B, 0, none⟩ i) v).run Tryd.prog w = .ok () (w.setCell ⟨B, i, none⟩ v) := by
      rw [Addr.add_lit, Nat.zero_add, run_store _ _ _ _ _ (hv v List.mem_cons_self), hb.cell, hb.frozen]
      simp [hs']
    refine ⟨w', ?_, ⟨cs', h2, by simpa using h3, fun j hj => ?_, fun j hj => ?_⟩, h6, h7, h8, by rw [h9]; simp [World.setCell], fun k hk => (h10 k hk).trans (Below.heap_setCell w _ _ k hk)⟩
    · unfold storeCells
      rw [Sem.run_bind, e]
      exact h1
    · rw [h4 j (by omega)]; simp [show i ≠ j by omega]
    · cases j with
      | zero => rw [Nat.add_zero, h4 i (by omega)]; simp [hs']
      | succ j => rw [show i + (j + 1) = i + 1 + j by omega, h5 j (by simpa using hj)]; simp
theorem o_storeAgg {x y : Operand} {t t' : TypeId} {B n : Nat} {lo hi : Int} {cs : Array Value} (ho : o.op = .store t x y) (ht : aggT t = n) (hn : n ≠ 0) (hx : a.eval x = .pointer (some ⟨B, 0, none⟩)) (hB : Blk w B t' cs) (hcs : cs.size = n)
    (hy : (El.ints n lo hi).ok (a.eval y))
    (h : ∀ (w' : World) (cs' : Array Value), Blk w' B t' cs' → cs'.size = n → (∀ k, k < n → ∃ z : Int, cs'[k]? = some (.int .i64 z) ∧ lo ≤ z ∧ z ≤ hi) → w'.os = w.os → w'.tape = w.tape → w'.output = w.output → w'.heap.size = w.heap.size →
      (∀ k, k ≠ B → w'.heap[k]? = w.heap[k]?) → K (a.put o.dst undef) w') : o.wp Tryd.prog a w K Q := by
  obtain ⟨d, hd, hs⟩ := aggT_ok (t := t) (by rw [ht]; exact hn)
  obtain ⟨vs, ev, hvs, hok⟩ := hy
  have hone : ∀ v ∈ vs.toList, v.oneCell' = true := by
    intro v hv
    obtain ⟨k, hk, rfl⟩ := List.getElem_of_mem hv
    have hk' : k < vs.size := by simpa using hk
    obtain ⟨z, hz, _⟩ := hok k (by omega)
    have : vs[k] = .int .i64 z := by simpa [hk'] using hz
    simp [this]
    rfl
  obtain ⟨w', h1, ⟨cs', h2, h3, _, h5⟩, h6, h7, h8, h9, h10⟩ := run_storeCells (t := t') vs.toList 0 w cs hB (by simp; omega) hone
  obtain ⟨i, hi1, hi2⟩ : ∃ i, Tryd.prog.info? t = some i ∧ i.size = n := by
    cases hh : Tryd.prog.info? t with
    | none => rw [hh] at hs; cases hs
    | some i => rw [hh, ht] at hs; exact ⟨i, rfl, by simpa using hs⟩
  have hv : (Instr.storeAt t (.pointer (some ⟨B, 0, none⟩)) (.agg vs)).run Tryd.prog w = .ok () w' := by
    simp [Instr.storeAt, Instr.sureAddr, storeVar, sizeOf, typeInfo, hi1, hi2, Value.cells, hvs, h1]
  unfold Oper.wp execOp; rw [ho]; simp only [hx, ev]
  rw [Sem.run_bind, hv]
  refine h w' cs' h2 (by omega) (fun k hk => ?_) h6 h7 h8 h9 h10
  obtain ⟨z, hz, hb⟩ := hok k hk
  refine ⟨z, ?_, hb⟩
  have := h5 k (by simp; omega)
  rw [Nat.zero_add] at this
  rw [this]
  simpa using hz
theorem o_index {x y : Operand} {b n : Nat} {u : Int} (ho : o.op = .indexAddr 72 x y) (hx : a.eval x = .slice (some ⟨b, 0, none⟩) n n) (hy : a.eval y = .int .i64 u)
    (h0 : 0 ≤ u) (h1 : u < (n : Int)) (h : K (a.put o.dst (.pointer (some ⟨b, u.toNat, none⟩))) w) : o.wp Tryd.prog a w K Q := by
  unfold Oper.wp execOp; rw [ho]
  simp only [hx, hy]
  simp only [go_sem] at h
  go_simp
  exact h
theorem o_max {x y : Operand} {u v : Int} {ts : Array TypeId} {c : Call} (ho : o.op = .call c) (hc : c = ⟨.builtin .max, #[x, y], ts⟩) (hx : a.eval x = .int .i64 u) (hy : a.eval y = .int .i64 v)
    (h : K (a.put o.dst (.int .i64 (max u v))) w) : o.wp Tryd.prog a w K Q := by
  subst hc
  have e : (if v > u then v else u) = max u v := by omega
  have hm : (#[x, y] : Array Operand).map a.eval = #[.int .i64 u, .int .i64 v] := by simp [hx, hy]
  unfold Oper.wp execOp; rw [ho]
  simp only [resolve, hm]
  simpa [go_sem, e] using h
theorem o_call {f : FuncId} {args : Array Operand} {ts : Array TypeId} {c : Call} {R : Value → World → Prop} (ho : o.op = .call c) (hc : c = ⟨.value (.func f), args, ts⟩)
    (hf : (callFunc f (args.map a.eval)).run Tryd.prog w = .ok (.enter f (args.map a.eval)) w)
    (h : Calls Tryd.prog f (args.map a.eval) w (fun e w' => ∃ v, e = .returned v ∧ R v w')) (hK : ∀ v w', R v w' → K (a.put o.dst v) w') : o.wp Tryd.prog a w K Q := by
  subst hc
  unfold Oper.wp execOp; rw [ho]
  simp [go_sem]
  rw [hf]
  refine h.mono ?_
  rintro e w' ⟨v, rfl, hR⟩
  exact hK _ _ hR
/-- The cells of a written-out list of one-cell values. -/
theorem fill_ok {E : Value → Prop} (hE : ∀ v, E v → v.cells = #[v]) {n : Nat} : ∀ (ps : List (Nat × Value)) (cs : Array Value), (∀ p ∈ ps, p.1 < n ∧ E p.2) → cs.size = n → (∀ k, k < n → ∃ u, cs[k]? = some u ∧ E u) →
    ∃ cs', Instr.fill (fun i => some (i * 1, 1)) cs ps = some cs' ∧ cs'.size = n ∧ ∀ k, k < n → ∃ u, cs'[k]? = some u ∧ E u
  | [], cs, _, h1, h2 => ⟨cs, rfl, h1, h2⟩
  | (i, v) :: r, cs, h0, h1, h2 => by
    obtain ⟨hi, hv⟩ := h0 (i, v) List.mem_cons_self
    have hc := hE v hv
    have hlt : ¬ (i * 1 + 1 > cs.size) := by simp at hi; omega
    obtain ⟨cs', e, s, q⟩ := fill_ok hE r (cs.setIfInBounds i v) (fun p hp => h0 p (List.mem_cons_of_mem _ hp)) (by simpa using h1) (fun k hk => by
      by_cases hik : i = k
      · subst hik; exact ⟨v, by simp [h1, hk], hv⟩
      · obtain ⟨u, hu, hE'⟩ := h2 k hk
        exact ⟨u, by rw [Array.getElem?_setIfInBounds_ne hik]; exact hu, hE'⟩)
    refine ⟨cs', ?_, s, q⟩
    have hlt' : i + 1 ≤ cs.size := by simp at hi; omega
    rw [← e]
    simp [Instr.fill, hc, Nat.not_lt.2 hlt', Array.zipIdx]
theorem o_list {n : Nat} {ps : Array (Nat × Operand)} {lo hi : Int} (ho : o.op = .buildSlice 72 n ps) (hn0 : 1 ≤ n) (hn : n ≤ 1000) (h0 : lo ≤ 0) (h1 : 0 ≤ hi)
    (hps : ∀ p ∈ ps.toList, p.1 < n ∧ ∃ x : Int, a.eval p.2 = .int .i64 x ∧ lo ≤ x ∧ x ≤ hi)
    (h : ∀ cs : Array Value, cs.size = n → (∀ k, k < n → ∃ u, cs[k]? = some u ∧ (El.int lo hi).ok u) → K (a.put o.dst (.slice (some ⟨w.heap.size, 0, none⟩) n n)) (w.alloc (.cells cs 3))) : o.wp Tryd.prog a w K Q := by
  obtain ⟨cs, e, hs, hq⟩ := fill_ok (E := (El.int lo hi).ok) (n := n) (by rintro v ⟨x, rfl, _, _⟩; rfl) (ps.map fun (i, x) => (i, a.eval x)).toList (Array.replicate n (.int .i64 0))
    (by
      intro p hp
      simp only [Array.toList_map, List.mem_map] at hp
      obtain ⟨q, hq, rfl⟩ := hp
      exact hps q hq) (by simp) (fun k hk => ⟨.int .i64 0, by simp [hk], 0, rfl, h0, h1⟩)
  have hz : (Array.range (n * 1)).map (fun k => (#[Value.int .i64 0] : Array Value)[k % (#[Value.int .i64 0] : Array Value).size]!) = Array.replicate n (.int .i64 0) := by
    apply Array.ext
    · simp
    · intro i hi1 hi2; simp [Nat.mod_one]
  have hrun : (Instr.buildSlice 72 n (ps.map fun (i, x) => (i, a.eval x))).run Tryd.prog w = .ok (.slice (some ⟨w.heap.size, 0, none⟩) n n) (w.alloc (.cells cs 3)) := by
    have hn2 : ¬ (n * 1 > 2 ^ 24) := by omega
    have hn3 : ¬ (n * 1 = 0) := by omega
    obtain ⟨i, hi, hi1, hi2⟩ : ∃ i, Tryd.prog.info? 3 = some i ∧ i.size = 1 ∧ i.zero = some (.int .i64 0) := by
      have h1 : (Tryd.prog.info? 3).map (·.size) = some 1 := by kernel_rfl
      have h2 : (Tryd.prog.info? 3).bind (·.zero) = some (.int .i64 0) := by kernel_rfl
      cases hh : Tryd.prog.info? 3 with
      | none => rw [hh] at h1; cases h1
      | some i => rw [hh] at h1 h2; exact ⟨i, rfl, by simpa using h1, by simpa using h2⟩
    have e0 := run_underlying (show Tryd.prog.underlying 72 = some (.slice 3) by kernel_rfl) w
    have e1 : (sizeOf 3).run Tryd.prog w = .ok 1 w := by simp [sizeOf, typeInfo, hi, hi1]
    have e2 : (zeroValue 3).run Tryd.prog w = .ok (.int .i64 0) w := by simp [zeroValue, typeInfo, hi, hi2]
    have e4 : ∀ c, (newRow 3 c).run Tryd.prog w = .ok ⟨w.heap.size, 0, none⟩ (w.alloc (.cells c 3)) := fun c => by simp [newRow]
    have e5 : Instr.fill (fun i => some (i * 1, 1)) ((Array.range (n * 1)).map fun k => (#[Value.int .i64 0] : Array Value)[k % (#[Value.int .i64 0] : Array Value).size]!) (ps.map fun (i, x) => (i, a.eval x)).toList = some cs := by rw [hz]; exact e
    unfold Instr.buildSlice
    rw [Sem.run_bind, e0, Result.andThen_ok]
    show Sem.run Tryd.prog (sizeOf 3 >>= _) w = _
    rw [Sem.run_bind, e1, Result.andThen_ok]
    rw [if_neg hn2]
    show Sem.run Tryd.prog (if n * 1 = 0 then _ else _) w = _
    rw [if_neg hn3]
    show Sem.run Tryd.prog (zeroValue 3 >>= _) w = _
    rw [Sem.run_bind, e2, Result.andThen_ok]
    show Sem.run Tryd.prog (match Instr.fill (fun i => some (i * 1, 1)) ((Array.range (n * 1)).map fun k => (#[Value.int .i64 0] : Array Value)[k % (#[Value.int .i64 0] : Array Value).size]!) (ps.map fun (i, x) => (i, a.eval x)).toList with | some cells => _ | _ => _) w = _
    rw [e5]
    show Sem.run Tryd.prog (newRow 3 cs >>= _) w = _
    rw [Sem.run_bind, e4]
    rfl
  unfold Oper.wp execOp; rw [ho]
  dsimp only
  rw [Sem.run_bind, hrun]
  exact h cs hs hq
end
end Go.Proofs.YtidnnnjjpjadlaaDoor
