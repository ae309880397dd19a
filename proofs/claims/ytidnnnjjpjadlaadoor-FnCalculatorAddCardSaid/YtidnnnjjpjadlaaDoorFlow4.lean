/- A region of a drawing function by a look at its text alone. No condition: laws on walks alone. -/
import Derived.Test.YtidnnnjjpjadlaaDoorFlow3
namespace Go.Proofs.YtidnnnjjpjadlaaDoor
open Go.ChangeShapes Go.WideShapes Go.ChangeAt Go.RowKit

/-- What is known of the functions that such a region calls. -/
def SOk (S : FuncId → List Ty → Option (Ty × Nat)) (w0 : World) (C : Cx) (cap : Nat) : Prop :=
  ∀ f tys T c, S f tys = some (T, c) → ∀ (vs : Array Value) (w : World) (M : Nat), vs.size = tys.length → (∀ k (T' : Ty), tys[k]? = some T' → T'.has C (vs.getD k undef) w) → M + c ≤ cap → Rds w0 w C.g M →
    (callFunc f vs).run Tryd.prog w = .ok (.enter f vs) w ∧ Calls Tryd.prog f vs w (fun e w' => ∃ v, e = .returned v ∧ T.has C v w' ∧ Rds w0 w' C.g (M + c) ∧ w.grownBy w' (some C.g))

theorem grown_refl (w : World) (r : Option Nat) : w.grownBy w r := ⟨rfl, rfl, rfl, Nat.le_refl _, fun _ _ _ => rfl⟩

theorem see_sound {ops : Array Oper} {a0 a : Act} {base : Nat → Ty} {C : Cx} {w : World} {o : Oper} {tys t0 t1 : List Ty} (hp : tys = t0 ++ t1)
    (hs : Sees ops a0 (fun j v w => (tys.getD j .any).has C v w) o .any a w) (hb : ∀ t, (base t).has C (a0.tmps.getD t undef) w) (x : Operand) : (see ops base t0 o x).has C (a.eval x) w := by
  unfold see
  split
  · rename_i t
    split
    · rename_i j hj
      have hj2 := List.find?_some hj
      split
      · rename_i hany
        have hd : (t0.getD j .any) = .any ∨ t0.getD j .any = tys.getD j .any := by
          rcases Nat.lt_or_ge j t0.length with h | h
          · right; rw [hp]; simp [List.getD_eq_getElem?_getD, List.getElem?_append_left h]
          · left; simp [List.getD_eq_getElem?_getD, List.getElem?_eq_none h]
        rcases hd with h | h
        · rw [h]; trivial
        · rw [h]
          cases ho : ops[j]? with
          | none => rw [ho] at hj2; simp at hj2
          | some x =>
            rw [ho] at hj2
            exact hs.new j t x ho (by simpa using hj2) hany
      · trivial
    · rename_i hn
      have hall : (ops.all fun x => x.dst != some t) = true := by
        rw [Array.all_eq_true]
        intro i hi
        have := List.find?_eq_none.1 hn i (List.mem_range.2 hi)
        simpa [hi] using this
      rw [hs.old t hall]
      exact hb t
  · rename_i x
    exact ⟨x, rfl, Int.le_refl _, Int.le_refl _⟩
  · rfl
  · trivial

theorem rngFit_spec {lo hi : Int} {T : Ty} {c : Nat} (h : rngFit lo hi = some (T, c)) : -9223372036854775808 ≤ lo ∧ hi ≤ 9223372036854775807 ∧ T = .val (.int lo hi) ∧ c = 0 := by
  unfold rngFit at h
  split at h
  · rename_i hh
    simp only [Option.some.injEq, Prod.mk.injEq] at h
    exact ⟨hh.1, hh.2, h.1.symm, h.2.symm⟩
  · cases h

theorem hull_spec : ∀ {l : List Ty} {a b : Int}, hull l = some (a, b) → a ≤ 0 ∧ 0 ≤ b ∧ ∀ T ∈ l, ∃ c d, T = .val (.int c d) ∧ a ≤ c ∧ d ≤ b
  | [], a, b, h => by simp only [hull, Option.some.injEq, Prod.mk.injEq] at h; obtain ⟨rfl, rfl⟩ := h; simp
  | T :: r, a, b, h => by
    unfold hull at h
    split at h
    · cases ‹_ :: _ = []›
    · rename_i c d r' heq
      injection heq with h1 h2
      subst h1; subst h2
      split at h
      · rename_i e f he
        simp only [Option.some.injEq, Prod.mk.injEq] at h
        obtain ⟨rfl, rfl⟩ := h
        obtain ⟨h1, h2, h3⟩ := hull_spec he
        refine ⟨by omega, by omega, ?_⟩
        intro T hT
        rcases List.mem_cons.1 hT with rfl | hT
        · exact ⟨c, d, rfl, by omega, by omega⟩
        · obtain ⟨c', d', e1, e2, e3⟩ := h3 T hT
          exact ⟨c', d', e1, by omega, by omega⟩
      · cases h
    · cases h

theorem mag_spec {a b x : Int} (h0 : a ≤ x) (h1 : x ≤ b) : -(mag a b) ≤ x ∧ x ≤ mag a b ∧ 0 ≤ mag a b := by unfold mag; omega
theorem mul_mag {x y m n : Int} (hx0 : -m ≤ x) (hx1 : x ≤ m) (hy0 : -n ≤ y) (hy1 : y ≤ n) : -(m * n) ≤ x * y ∧ x * y ≤ m * n := by
  have h : (x * y).natAbs ≤ (m * n).natAbs := by
    rw [Int.natAbs_mul, Int.natAbs_mul]
    exact Nat.mul_le_mul (by omega) (by omega)
  have hmn : 0 ≤ m * n := Int.mul_nonneg (by omega) (by omega)
  omega

def Cx.wf (C : Cx) (w0 : World) : Prop := (∀ o ∈ C.outs, o.B ≠ C.g ∧ w0.heap.size ≤ o.B) ∧ ∀ o ∈ C.outs, ∀ o' ∈ C.outs, o.B = o'.B → o = o'
/-- What stays true in the midst of a region. -/
structure Keeps (C : Cx) (w0 w1 : World) (M : Nat) (w : World) : Prop where
  rd : Rds w0 w C.g M
  chg : Chg C w1 w
  outs : ∀ o ∈ C.outs, o.ok w
theorem Out.ok_grown {C : Cx} {w0 w w' : World} {o : Out} (hw : C.wf w0) (ho : o ∈ C.outs) (h : o.ok w) (hg : w.grownBy w' (some C.g)) : o.ok w' := by
  obtain ⟨cs, h1, h2, h3⟩ := h
  exact ⟨cs, h1.grown hg (by intro e; injection e with e; exact (hw.1 o ho).1 e), h2, h3⟩
theorem Keeps.grown {C : Cx} {w0 w1 w w' : World} {M M' : Nat} (hw : C.wf w0) (h : Keeps C w0 w1 M w) (hg : w.grownBy w' (some C.g)) (hR : Rds w0 w' C.g M') : Keeps C w0 w1 M' w' :=
  ⟨hR, h.chg.trans (Chg.grown hg), fun o ho => Out.ok_grown hw ho (h.outs o ho) hg⟩
theorem Rds.far {w0 w w' : World} {g N B : Nat} (h : Rds w0 w g N) (h1 : w'.os = w.os) (h2 : w'.tape = w.tape) (h3 : w'.output = w.output) (h4 : w'.heap.size = w.heap.size) (h5 : ∀ k, k ≠ B → w'.heap[k]? = w.heap[k]?) (hB : w0.heap.size ≤ B) (hg : B ≠ g) : Rds w0 w' g N := by
  obtain ⟨r1, r2, a, len, cap, p, r3, r4, r5, r6, r7, r8⟩ := h
  exact ⟨r1, ⟨h1.trans r2.os, h2.trans r2.tape, h3.trans r2.output, by rw [h4]; exact r2.size, fun k hk => (h5 k (by omega)).trans (r2.block k hk)⟩, a, len, cap, p, r3, r4, r5, r6, r7, (h5 g (Ne.symm hg)).trans r8⟩

section
variable {S : FuncId → List Ty → Option (Ty × Nat)} {w0 w1 : World} {C : Cx} {cap : Nat}

theorem tr_sound (hS : SOk S w0 C cap) (hw : C.wf w0) {o : Oper} {ρ : Operand → Ty} {a : Act} {w : World} {M c : Nat} {T : Ty} {Q : Exit → Act → World → Prop} (hρ : ∀ x, (ρ x).has C (a.eval x) w)
    (h : tr S o.op ρ = some (T, c)) (hM : M + c ≤ cap) (hK : Keeps C w0 w1 M w) :
    o.wp Tryd.prog a w (fun a' w' => ∃ v, a' = a.put o.dst v ∧ T.has C v w' ∧ Keeps C w0 w1 (M + c) w' ∧ Chg C w w') Q := by
  have hR := hK.rd
  have hst : ∀ (v : Value), T.has C v w → c = 0 → ∃ u, a.put o.dst v = a.put o.dst u ∧ T.has C u w ∧ Keeps C w0 w1 (M + c) w ∧ Chg C w w := fun v hv hc => ⟨v, rfl, hv, hc ▸ hK, Chg.refl _ _⟩
  cases ho : o.op with
  | move x =>
    rw [ho] at h; simp only [tr, Option.some.injEq, Prod.mk.injEq] at h
    exact o_move ho (hst _ (h.1 ▸ hρ x) h.2.symm)
  | assign x =>
    rw [ho] at h; simp only [tr, Option.some.injEq, Prod.mk.injEq] at h
    exact o_assign ho (hst _ (h.1 ▸ hρ x) h.2.symm)
  | binOp op t x y t' =>
    rw [ho] at h; unfold tr at h; dsimp only at h
    have hx := hρ x; have hy := hρ y
    split at h
    · rename_i e1 e2
      rw [e1] at hx; rw [e2] at hy
      obtain ⟨u, eu, u0, u1⟩ := hx; obtain ⟨v, ev, v0, v1⟩ := hy
      obtain ⟨f0, f1, rfl, rfl⟩ := rngFit_spec h
      exact o_add ho eu ev (by omega) (by omega) (hst _ ⟨_, rfl, by omega, by omega⟩ rfl)
    · rename_i e1 e2
      rw [e1] at hx; rw [e2] at hy
      obtain ⟨u, eu, u0, u1⟩ := hx; obtain ⟨v, ev, v0, v1⟩ := hy
      obtain ⟨f0, f1, rfl, rfl⟩ := rngFit_spec h
      exact o_sub ho eu ev (by omega) (by omega) (hst _ ⟨_, rfl, by omega, by omega⟩ rfl)
    · rename_i e1 e2
      rw [e1] at hx; rw [e2] at hy
      obtain ⟨u, eu, u0, u1⟩ := hx; obtain ⟨v, ev, v0, v1⟩ := hy
      split at h
      · rename_i hnn
        obtain ⟨f0, f1, rfl, rfl⟩ := rngFit_spec h
        have q0 : 0 ≤ u * v := Int.mul_nonneg (by omega) (by omega)
        have q1 := Int.mul_le_mul u1 v1 (by omega) (by omega)
        exact o_mul ho eu ev (Int.le_trans f0 q0) (Int.le_trans q1 f1) (hst _ ⟨_, rfl, q0, q1⟩ rfl)
      · obtain ⟨f0, f1, rfl, rfl⟩ := rngFit_spec h
        obtain ⟨m0, m1, m2⟩ := mag_spec u0 u1
        obtain ⟨n0, n1, n2⟩ := mag_spec v0 v1
        obtain ⟨q0, q1⟩ := mul_mag m0 m1 n0 n1
        exact o_mul ho eu ev (Int.le_trans f0 q0) (Int.le_trans q1 f1) (hst _ ⟨_, rfl, q0, q1⟩ rfl)
    · rename_i e1 e2
      rw [e1] at hx; rw [e2] at hy
      obtain ⟨u, eu, u0, u1⟩ := hx; obtain ⟨v, ev, v0, v1⟩ := hy
      split at h
      · rename_i dd hcd
        have hp : (2 : Int) ^ v.toNat ≤ 2 ^ dd.toNat := by
          have : (2 : Nat) ^ v.toNat ≤ 2 ^ dd.toNat := Nat.pow_le_pow_right (by decide) (by omega)
          exact_mod_cast this
        have hp0 : (0 : Int) < 2 ^ v.toNat := Int.pow_pos (by decide)
        split at h
        · obtain ⟨f0, f1, rfl, rfl⟩ := rngFit_spec h
          have q0 : 0 ≤ u * 2 ^ v.toNat := Int.mul_nonneg (by omega) (by omega)
          have q1 := Int.mul_le_mul u1 hp (by omega) (by omega)
          exact o_shl ho eu ev (by omega) (by omega) (Int.le_trans f0 q0) (Int.le_trans q1 f1) (hst _ ⟨_, rfl, q0, q1⟩ rfl)
        · obtain ⟨f0, f1, rfl, rfl⟩ := rngFit_spec h
          obtain ⟨m0, m1, m2⟩ := mag_spec u0 u1
          obtain ⟨q0, q1⟩ := mul_mag (n := 2 ^ dd.toNat) m0 m1 (y := 2 ^ v.toNat) (by omega) hp
          exact o_shl ho eu ev (by omega) (by omega) (Int.le_trans f0 q0) (Int.le_trans q1 f1) (hst _ ⟨_, rfl, q0, q1⟩ rfl)
      · cases h
    · rename_i e1 e2
      rw [e1] at hx; rw [e2] at hy
      obtain ⟨u, eu, u0, u1⟩ := hx
      split at h
      · rename_i vv hcd
        have hp0 : (0 : Int) < 2 ^ vv.toNat := Int.pow_pos (by decide)
        split at h
        · obtain ⟨f0, f1, rfl, rfl⟩ := rngFit_spec h
          have q0 : 0 ≤ u * 2 ^ vv.toNat := Int.mul_nonneg (by omega) (by omega)
          have q1 := Int.mul_le_mul_of_nonneg_right u1 (Int.le_of_lt hp0)
          exact o_shl ho eu hy (by omega) (by omega) (Int.le_trans f0 q0) (Int.le_trans q1 f1) (hst _ ⟨_, rfl, q0, q1⟩ rfl)
        · obtain ⟨f0, f1, rfl, rfl⟩ := rngFit_spec h
          obtain ⟨m0, m1, m2⟩ := mag_spec u0 u1
          obtain ⟨q0, q1⟩ := mul_mag (n := 2 ^ vv.toNat) m0 m1 (y := 2 ^ vv.toNat) (by omega) (Int.le_refl _)
          exact o_shl ho eu hy (by omega) (by omega) (Int.le_trans f0 q0) (Int.le_trans q1 f1) (hst _ ⟨_, rfl, q0, q1⟩ rfl)
      · cases h
    · rename_i e1 e2
      rw [e1] at hx; rw [e2] at hy
      obtain ⟨u, eu, u0, u1⟩ := hx; obtain ⟨v, ev, v0, v1⟩ := hy
      split at h
      · rename_i hc
        obtain ⟨f0, f1, rfl, rfl⟩ := rngFit_spec h
        have q0 : 0 ≤ u % v := Int.emod_nonneg _ (by omega)
        have q1 : u % v < v := Int.emod_lt_of_pos _ (by omega)
        exact o_rem ho eu ev (by omega) (by omega) (by omega) (hst _ ⟨_, rfl, q0, by omega⟩ rfl)
      · cases h
    · rename_i e1 e2
      rw [e1] at hx; rw [e2] at hy
      obtain ⟨u, eu, u0, u1⟩ := hx; obtain ⟨v, ev, v0, v1⟩ := hy
      split at h
      · rename_i hc
        obtain ⟨c0, c2, c1, rfl⟩ := hc
        obtain ⟨f0, f1, rfl, rfl⟩ := rngFit_spec h
        have hv := Int.le_antisymm v1 v0
        subst hv
        have hq := Int.ediv_le_ediv (show (0 : Int) < v by omega) u1
        have hq0 : 0 ≤ u / v := Int.ediv_nonneg (by omega) (by omega)
        exact o_quo ho eu ev (by omega) (by omega) c1 (hst _ ⟨_, rfl, hq0, hq⟩ rfl)
      · cases h
    · cases h
  | unOp op t x =>
    rw [ho] at h; unfold tr at h
    cases op with
    | neg =>
      dsimp only at h
      have hx := hρ x
      split at h
      · rename_i e1
        rw [e1] at hx
        obtain ⟨u, eu, u0, u1⟩ := hx
        obtain ⟨f0, f1, rfl, rfl⟩ := rngFit_spec h
        exact o_neg ho eu (by omega) (by omega) (hst _ ⟨_, rfl, by omega, by omega⟩ rfl)
      · cases h
    | _ => cases h
  | buildSlice t n ps =>
    rw [ho] at h; unfold tr at h; dsimp only at h
    split at h
    · rename_i hc
      obtain ⟨rfl, h0, hn, hall⟩ := hc
      split at h
      · rename_i lo hi hh
        simp only [Option.some.injEq, Prod.mk.injEq] at h
        obtain ⟨rfl, rfl⟩ := h
        obtain ⟨l0, l1, l2⟩ := hull_spec hh
        refine o_list ho h0 hn l0 l1 (fun p hp => ?_) (fun cs hs hcs => ⟨_, rfl, ⟨w.heap.size, rfl, ⟨?_, ?_⟩, fun k hk => ?_⟩, hK.grown hw (World.grownBy_alloc _ _ _) (hR.alloc _), Chg.grown (World.grownBy_alloc _ _ _)⟩)
        · refine ⟨by have := List.all_eq_true.1 hall p hp; simpa using this, ?_⟩
          obtain ⟨c, d, e1, e2, e3⟩ := l2 (ρ p.2) (List.mem_map.2 ⟨p, hp, rfl⟩)
          have hx := hρ p.2
          rw [e1] at hx
          obtain ⟨u, eu, u0, u1⟩ := hx
          exact ⟨u, eu, by omega, by omega⟩
        · have := hR.lt; omega
        · intro o' ho'
          obtain ⟨cs', hb, _⟩ := hK.outs o' ho'
          have := hb.lt; omega
        · obtain ⟨u, hu, hok⟩ := hcs k hk
          exact ⟨u, ((Blk.new w 3 cs).cell k).trans hu, hok⟩
      · cases h
    · cases h
  | indexAddr t x i =>
    rw [ho] at h; unfold tr at h; dsimp only at h
    split at h
    · rename_i ht
      subst ht
      have hx := hρ x; have hy := hρ i
      split at h
      · rename_i e1 e2
        rw [e1] at hx; rw [e2] at hy
        obtain ⟨b, eb, hbg, hcell⟩ := hx; obtain ⟨v, ev, v0, v1⟩ := hy
        split at h
        · rename_i hc
          simp only [Option.some.injEq, Prod.mk.injEq] at h
          obtain ⟨rfl, rfl⟩ := h
          obtain ⟨u, hu, hok⟩ := hcell v.toNat (by omega)
          exact o_index ho eb ev (by omega) (by omega) (hst _ ⟨b, v.toNat, u, rfl, hbg, hu, hok⟩ rfl)
        · cases h
      · cases h
    · cases h
  | build t ps =>
    rw [ho] at h; unfold tr at h; dsimp only at h
    split at h
    · rename_i ht
      split at h
      · rename_i x y hps
        have hp : ps = #[(0, x), (1, y)] := by rw [← Array.toArray_toList (xs := ps), hps]
        subst hp
        have hx := hρ x; have hy := hρ y
        split at h
        · rename_i e1 e2
          rw [e1] at hx; rw [e2] at hy
          obtain ⟨u, eu, u0, u1⟩ := hx; obtain ⟨v, ev, v0, v1⟩ := hy
          simp only [Option.some.injEq, Prod.mk.injEq] at h
          obtain ⟨rfl, rfl⟩ := h
          refine o_build2 ho ht eu ev (hst _ ⟨_, rfl, rfl, fun k hk => ?_⟩ rfl)
          rcases (by omega : k = 0 ∨ k = 1) with rfl | rfl
          · exact ⟨u, rfl, by omega, by omega⟩
          · exact ⟨v, rfl, by omega, by omega⟩
        · cases h
      · cases h
    · cases h
  | fieldAddr t x i =>
    rw [ho] at h; unfold tr at h; dsimp only at h
    have hx := hρ x
    split at h
    · rename_i e1
      rw [e1] at hx
      obtain ⟨b, k, eb, hbg, hc⟩ := hx
      split at h
      · rename_i hn
        obtain ⟨n1, n2⟩ := hn
        simp only [Option.some.injEq, Prod.mk.injEq] at h
        obtain ⟨rfl, rfl⟩ := h
        obtain ⟨z, hz, z0, z1⟩ := hc i n2
        exact o_field ho (by omega) (by omega) eb (hst _ ⟨b, k + i, _, rfl, hbg, hz, z, rfl, z0, z1⟩ rfl)
      · cases h
    · cases h
  | load t x =>
    rw [ho] at h; unfold tr at h; dsimp only at h
    split at h
    · rename_i ht
      subst ht
      have hx := hρ x
      split at h
      · rename_i e1
        rw [e1] at hx
        obtain ⟨b, k, u, eb, hbg, hu, hok⟩ := hx
        simp only [Option.some.injEq, Prod.mk.injEq] at h
        obtain ⟨rfl, rfl⟩ := h
        exact o_load ho eb hu (hst _ hok rfl)
      · cases h
    · have hx := hρ x
      split at h
      · rename_i e1
        rw [e1] at hx
        obtain ⟨b, k, eb, hbg, hc⟩ := hx
        split at h
        · rename_i hn
          simp only [Option.some.injEq, Prod.mk.injEq] at h
          obtain ⟨rfl, rfl⟩ := h
          exact o_loadAgg ho hn.1 hn.2 eb hc (fun v hv => hst _ hv rfl)
        · cases h
      · cases h
  | store t x y =>
    rw [ho] at h; unfold tr at h; dsimp only at h
    have hx := hρ x; have hy := hρ y
    split at h
    · rename_i e1 e2
      rw [e1] at hx; rw [e2] at hy
      split at h
      · rename_i hc
        obtain ⟨c1, rfl, c2, c3, c4⟩ := hc
        simp only [Option.some.injEq, Prod.mk.injEq] at h
        obtain ⟨rfl, rfl⟩ := h
        obtain ⟨q, hq, q1, q2, q3, eq⟩ := hx
        obtain ⟨cs, hb, hcs, _⟩ := hK.outs q hq
        obtain ⟨w1', w2'⟩ := hw.1 q hq
        refine o_storeAgg ho c1 c2 eq hb (by omega) hy (fun w' cs' k1 k2 k3 k4 k5 k6 k7 k8 => ?_)
        have hchg : Chg C w w' := ⟨k4, k5, k6, by omega, fun k _ hf => k8 k (hf.2 q hq)⟩
        refine ⟨undef, rfl, trivial, ⟨hR.far k4 k5 k6 k7 k8 w2' w1', hK.chg.trans hchg, fun q' hq' => ?_⟩, hchg⟩
        by_cases hqq : q'.B = q.B
        · have := hw.2 q' hq' q hq hqq
          subst this
          exact ⟨cs', k1, by omega, fun k hk => let ⟨z, hz, z0, z1⟩ := k3 k (by omega); ⟨z, hz, by omega, by omega⟩⟩
        · obtain ⟨cs2, b2, b3, b4⟩ := hK.outs q' hq'
          exact ⟨cs2, (k8 q'.B hqq).trans b2, b3, b4⟩
      · cases h
    · cases h
  | call k =>
    rw [ho] at h; unfold tr at h; dsimp only at h
    obtain ⟨callee, args, ts⟩ := k
    dsimp only at h
    split at h
    · rename_i f
      obtain ⟨h1, h2⟩ := hS f _ T c h (args.map a.eval) w M (by simp) (fun k T' hk => by
        simp only [List.getElem?_map, Option.map_eq_some_iff] at hk
        obtain ⟨x, hx, rfl⟩ := hk
        have hx' : args[k]? = some x := by simpa using hx
        have := hρ x
        simpa [Array.getD_eq_getD_getElem?, hx'] using this) hM hR
      exact o_call ho rfl h1 h2 (fun v w' hv => ⟨v, rfl, hv.1, hK.grown hw hv.2.2 hv.2.1, Chg.grown hv.2.2⟩)
    · split at h
      · rename_i lo hi lo' hi' hm
        simp only [Option.some.injEq, Prod.mk.injEq] at h
        obtain ⟨rfl, rfl⟩ := h
        obtain ⟨x, y, e0, e1, e2⟩ : ∃ x y, args.toList = [x, y] ∧ ρ x = .val (.int lo hi) ∧ ρ y = .val (.int lo' hi') := by
          cases hl : args.toList with
          | nil => rw [hl] at hm; simp at hm
          | cons x r =>
            cases r with
            | nil => rw [hl] at hm; simp at hm
            | cons y r =>
              cases r with
              | nil => rw [hl] at hm; simp at hm; exact ⟨x, y, rfl, hm.1, hm.2⟩
              | cons z r => rw [hl] at hm; simp at hm
        have hx := hρ x; have hy := hρ y
        rw [e1] at hx; rw [e2] at hy
        obtain ⟨u, eu, u0, u1⟩ := hx; obtain ⟨v, ev, v0, v1⟩ := hy
        have ha : args = #[x, y] := by rw [← Array.toArray_toList (xs := args), e0]
        exact o_min ho (by rw [ha]) eu ev (hst _ ⟨_, rfl, by omega, by omega⟩ rfl)
      · cases h
    · split at h
      · rename_i lo hi lo' hi' hm
        simp only [Option.some.injEq, Prod.mk.injEq] at h
        obtain ⟨rfl, rfl⟩ := h
        obtain ⟨x, y, e0, e1, e2⟩ : ∃ x y, args.toList = [x, y] ∧ ρ x = .val (.int lo hi) ∧ ρ y = .val (.int lo' hi') := by
          cases hl : args.toList with
          | nil => rw [hl] at hm; simp at hm
          | cons x r =>
            cases r with
            | nil => rw [hl] at hm; simp at hm
            | cons y r =>
              cases r with
              | nil => rw [hl] at hm; simp at hm; exact ⟨x, y, rfl, hm.1, hm.2⟩
              | cons z r => rw [hl] at hm; simp at hm
        have hx := hρ x; have hy := hρ y
        rw [e1] at hx; rw [e2] at hy
        obtain ⟨u, eu, u0, u1⟩ := hx; obtain ⟨v, ev, v0, v1⟩ := hy
        have ha : args = #[x, y] := by rw [← Array.toArray_toList (xs := args), e0]
        exact o_max ho (by rw [ha]) eu ev (hst _ ⟨_, rfl, by omega, by omega⟩ rfl)
      · cases h
    · cases h
  | _ => rw [ho] at h; cases h

end

/-- The frame behind a region: each operation's value put where it belongs. -/
def putAll (vs : Nat → Value) : List Oper → Nat → Act → Act
  | [], _, a => a
  | o :: r, k, a => putAll vs r (k + 1) (a.put o.dst (vs k))

def Ty.sub : Ty → Ty → Bool
  | .val (.int a b), .val (.int c d) => decide (c ≤ a) && decide (b ≤ d)
  | T, U => decide (T = U)
theorem Ty.sub_has {T U : Ty} (h : T.sub U = true) {C : Cx} {v : Value} {w : World} (hv : T.has C v w) : U.has C v w := by
  unfold Ty.sub at h
  split at h
  · obtain ⟨x, e, h0, h1⟩ := hv
    simp only [Bool.and_eq_true, decide_eq_true_eq] at h
    exact ⟨x, e, by omega, by omega⟩
  · have : T = U := by simpa using h
    exact this ▸ hv

/-- The whole check of a region. -/
def lookB (S : FuncId → List Ty → Option (Ty × Nat)) (l : List Oper) (base : Nat → Ty) (m c : Nat) (want : List (Nat × Ty)) : Bool :=
  tidy .any l.toArray m && match looks S l.toArray base l [] [] with
    | some (tys, cs) => decide (tot (fun i b => if b then cs.getD i 0 else 0) #[] l.length ≤ c) && want.all fun p => (match l[p.1]? with | some o => o.dst.isSome | none => false) && (tys.getD p.1 .any).sub p.2
    | none => false

theorem act_ext {a b : Act} (h1 : a.tmps.size = b.tmps.size) (h2 : ∀ t, a.tmps.getD t undef = b.tmps.getD t undef) (h3 : a.defers = b.defers) : a = b := by
  obtain ⟨t1, d1⟩ := a; obtain ⟨t2, d2⟩ := b
  simp only at h1 h2 h3
  subst h3
  have : t1 = t2 := by
    apply Array.ext h1
    intro i hi hi'
    have := h2 i
    simpa [Array.getD_eq_getD_getElem?, hi, hi'] using this
  rw [this]

theorem putAll_size (vs : Nat → Value) : ∀ (l : List Oper) (k : Nat) (a : Act), (putAll vs l k a).tmps.size = a.tmps.size ∧ (putAll vs l k a).defers = a.defers
  | [], _, _ => ⟨rfl, rfl⟩
  | o :: r, k, a => by
    obtain ⟨h1, h2⟩ := putAll_size vs r (k + 1) (a.put o.dst (vs k))
    rw [putAll, h1, h2]
    unfold Act.put
    cases o.dst <;> simp

theorem putAll_get (vs : Nat → Value) (t : Nat) (x : Value) : ∀ (l : List Oper) (k : Nat) (a : Act), t < a.tmps.size → (a.tmps.getD t undef = x ∨ ∃ (j : Nat) (o : Oper), l[j]? = some o ∧ o.dst = some t) →
    (∀ (j : Nat) (o : Oper), l[j]? = some o → o.dst = some t → vs (k + j) = x) → (putAll vs l k a).tmps.getD t undef = x
  | [], _, a, _, h, _ => by
    rcases h with h | ⟨j, o, h, _⟩
    · exact h
    · simp at h
  | o :: r, k, a, ht, h, hv => by
    rw [putAll]
    refine putAll_get vs t x r (k + 1) _ (by unfold Act.put; cases o.dst <;> simpa using ht) ?_ (fun j o' hj hd => by have := hv (j + 1) o' (by simpa using hj) hd; rw [← this]; congr 1; omega)
    by_cases hd : o.dst = some t
    · left
      have := hv 0 o (by simp) hd
      unfold Act.put
      rw [hd]
      simp only [Nat.add_zero] at this
      simp [Array.getD_eq_getD_getElem?, ht, this]
    · have e1 : (a.put o.dst (vs k)).tmps.getD t undef = a.tmps.getD t undef := by
        unfold Act.put
        cases hd' : o.dst with
        | none => rfl
        | some d => simp [Array.getD_eq_getD_getElem?, show d ≠ t from fun e => hd (by rw [hd', e])]
      rw [e1]
      rcases h with h | ⟨j, o', hj, hd'⟩
      · exact .inl h
      · cases j with
        | zero => simp at hj; subst hj; exact absurd hd' hd
        | succ j => exact .inr ⟨j, o', by simpa using hj, hd'⟩

theorem wp_region_lookC {S : FuncId → List Ty → Option (Ty × Nat)} {w0 w : World} {C : Cx} {M cap c : Nat} {l : List Oper} {a0 : Act} {id : Nat} {Q : Exit → Act → World → Prop}
    (base : Nat → Ty) (want : List (Nat × Ty)) (hS : SOk S w0 C cap) (hw : C.wf w0) (hR : Rds w0 w C.g M) (ho : ∀ o ∈ C.outs, o.ok w) (hc : M + c ≤ cap) (hB : lookB S l base a0.tmps.size c want = true)
    (hbase : ∀ t, (base t).has C (a0.tmps.getD t undef) w)
    (hend : ∀ (vs : Nat → Value) (w' : World), (∀ p ∈ want, p.2.has C (vs p.1) w') → Keeps C w0 w (M + c) w' → Q .normal (putAll vs l 0 a0) w') :
    (Code.region id l.toArray true).wp Tryd.prog Q a0 w := by
  unfold lookB at hB
  simp only [Bool.and_eq_true] at hB
  obtain ⟨htidy, hB⟩ := hB
  cases hlk : looks S l.toArray base l [] [] with
  | none => rw [hlk] at hB; cases hB
  | some tc =>
    obtain ⟨tys, cs⟩ := tc
    rw [hlk] at hB
    simp only [Bool.and_eq_true, decide_eq_true_eq] at hB
    obtain ⟨htot, hwant⟩ := hB
    obtain ⟨_, hsp⟩ := looks_spec _ _ _ _ _ hlk rfl
    simp only [List.length_nil, Nat.zero_add] at hsp
    refine wp_region_mid (fun j v w => (tys.getD j .any).has C v w) (fun n w' => Keeps C w0 w (M + n) w') (fun i => cs.getD i 0) c (by kernel_rfl) htidy ⟨hR.drew, Chg.drew _ _, fun o h => ho o h⟩ (by simpa using htot)
      (fun n m w h hnm => ⟨h.1.mono (by omega), h.2, h.3⟩) ?_ ?_
    · intro i o hi a w1 n hn hI hs
      have hi' : l[i]? = some o := by simpa using hi
      obtain ⟨t0, h1, ⟨t1, h2⟩, _⟩ := hsp i o hi'
      have h3 := tr_sound hS hw (M := M + n) (Q := Q) (fun x => see_sound h2 hs (fun t => Ty.has_chg hI.chg (hbase t)) x) h1 (by omega) hI
      refine Oper.wp_mono ?_ h3
      rintro a' w2 ⟨v, rfl, hv, hR', hG'⟩
      exact ⟨v, rfl, hv, fun j u hu => Ty.has_chg hG' hu, by show Keeps C w0 w (M + (n + cs.getD i 0)) w2; rw [← Nat.add_assoc]; exact hR'⟩
    · intro a w1 hd hsz hold hnew hI
      have hkey : a = putAll (fun j => match l[j]? with | some o => (match o.dst with | some t => a.tmps.getD t undef | none => undef) | none => undef) l 0 a0 := by
        refine act_ext ?_ ?_ ?_
        · rw [(putAll_size _ _ _ _).1, hsz]
        · intro t
          rcases Nat.lt_or_ge t a0.tmps.size with ht | ht
          · refine (putAll_get _ t _ l 0 a0 ht ?_ ?_).symm
            · by_cases hex : ∃ (j : Nat) (o : Oper), l[j]? = some o ∧ o.dst = some t
              · exact .inr hex
              · left
                refine (hold t ?_).symm
                rw [Array.all_eq_true]
                intro i hi
                have hi2 : i < l.length := by simpa using hi
                have : ¬ (l[i]).dst = some t := fun h => hex ⟨i, l[i], by simp [hi2], h⟩
                simpa using this
            · intro j o hj hdst
              simp [hj, hdst]
          · have h1 := (putAll_size (fun j => match l[j]? with | some o => (match o.dst with | some t => a.tmps.getD t undef | none => undef) | none => undef) l 0 a0).1
            rw [Array.getD_eq_getD_getElem?, Array.getD_eq_getD_getElem?, Array.getElem?_eq_none (by omega), Array.getElem?_eq_none (by rw [h1]; exact ht)]
        · rw [(putAll_size _ _ _ _).2, hd]
      rw [hkey]
      refine hend _ _ (fun p hp => ?_) hI
      have := List.all_eq_true.1 hwant p hp
      simp only [Bool.and_eq_true] at this
      obtain ⟨h1, h2⟩ := this
      cases hl : l[p.1]? with
      | none => rw [hl] at h1; cases h1
      | some o =>
        rw [hl] at h1
        cases hdst : o.dst with
        | none => simp [hdst] at h1
        | some t =>
          simp only [hdst]
          exact Ty.sub_has h2 (hnew p.1 o t (by simpa using hl) hdst)

theorem wf_nil (g : Nat) (w0 : World) : Cx.wf ⟨g, []⟩ w0 := ⟨by simp, by simp⟩
theorem wp_region_look {S : FuncId → List Ty → Option (Ty × Nat)} {w0 w : World} {g M cap c : Nat} {l : List Oper} {a0 : Act} {id : Nat} {Q : Exit → Act → World → Prop}
    (base : Nat → Ty) (want : List (Nat × Ty)) (hS : SOk S w0 ⟨g, []⟩ cap) (hR : Rds w0 w g M) (hc : M + c ≤ cap) (hB : lookB S l base a0.tmps.size c want = true)
    (hbase : ∀ t, (base t).has ⟨g, []⟩ (a0.tmps.getD t undef) w)
    (hend : ∀ (vs : Nat → Value) (w' : World), (∀ p ∈ want, p.2.has ⟨g, []⟩ (vs p.1) w') → Rds w0 w' g (M + c) → w.grownBy w' (some g) → Q .normal (putAll vs l 0 a0) w') :
    (Code.region id l.toArray true).wp Tryd.prog Q a0 w :=
  wp_region_lookC base want hS (wf_nil g w0) hR (by simp) hc hB hbase (fun vs w' h1 h2 => hend vs w' h1 h2.rd h2.chg.toGrown)

end Go.Proofs.YtidnnnjjpjadlaaDoor
