/- The functions that the drawing regions call, and what two and three drawn numbers leave. No condition: contracts for the walks of the laws. -/
import Derived.Test.YtidnnnjjpjadlaaDoorFlow4
namespace Go.Proofs.YtidnnnjjpjadlaaDoor
open Go.ChangeShapes Go.WideShapes Go.ChangeAt Go.RowKit

def TwoPost (l1 h1 l2 h2 : Int) (w : World) (e : Ending) (w' : World) : Prop := ∃ x y : Int, l1 ≤ x ∧ x ≤ h1 ∧ l2 ≤ y ∧ y ≤ h2 ∧ e = .returned (.tuple #[.int .i64 x, .int .i64 y]) ∧ Below w.heap.size w w'
def ThreePost (l1 h1 l2 h2 l3 h3 : Int) (w : World) (e : Ending) (w' : World) : Prop := ∃ x y z : Int, l1 ≤ x ∧ x ≤ h1 ∧ l2 ≤ y ∧ y ≤ h2 ∧ l3 ≤ z ∧ z ≤ h3 ∧ e = .returned (.tuple #[.int .i64 x, .int .i64 y, .int .i64 z]) ∧ Below w.heap.size w w'

theorem arr1 {vs : Array Value} (h : vs.size = 1) : vs = #[vs.getD 0 undef] := by
  apply Array.ext
  · simpa using h
  · intro i h1 h2
    have : i = 0 := by simp at h2; omega
    subst this; simp [Array.getD_eq_getD_getElem?, h1]
theorem arr2 {vs : Array Value} (h : vs.size = 2) : vs = #[vs.getD 0 undef, vs.getD 1 undef] := by
  apply Array.ext
  · simpa using h
  · intro i h1 h2
    have : i = 0 ∨ i = 1 := by simp at h2; omega
    rcases this with rfl | rfl <;> simp [Array.getD_eq_getD_getElem?, h1]

/-- A function of the reader alone that draws a number between lo and hi. -/
def sumInt (lo hi : Int) (c : Nat) (tys : List Ty) : Option (Ty × Nat) := match tys with | [.rd] => some (.val (.int lo hi), c) | _ => none
def sumPick (tys : List Ty) : Option (Ty × Nat) := match tys with | [.rd, .val (.int a b)] => if 1 ≤ a ∧ b ≤ 4611686018427387904 then some (.val (.int 0 (b - 1)), 1) else none | _ => none

def OneOk (F : List Ty → Option (Ty × Nat)) (f : FuncId) (w0 : World) (C : Cx) (cap : Nat) : Prop :=
  ∀ tys T c, F tys = some (T, c) → ∀ (vs : Array Value) (w : World) (M : Nat), vs.size = tys.length → (∀ k (T' : Ty), tys[k]? = some T' → T'.has C (vs.getD k undef) w) → M + c ≤ cap → Rds w0 w C.g M →
    (callFunc f vs).run Tryd.prog w = .ok (.enter f vs) w ∧ Calls Tryd.prog f vs w (fun e w' => ∃ v, e = .returned v ∧ T.has C v w' ∧ Rds w0 w' C.g (M + c) ∧ w.grownBy w' (some C.g))

theorem sok_cons {F : List Ty → Option (Ty × Nat)} {S : FuncId → List Ty → Option (Ty × Nat)} {f : FuncId} {w0 : World} {C : Cx} {cap : Nat} (h : OneOk F f w0 C cap) (hS : SOk S w0 C cap) :
    SOk (fun k tys => if k = f then F tys else S k tys) w0 C cap := by
  intro k tys T c hk
  dsimp only at hk
  split at hk
  · rename_i e; subst e; exact h tys T c hk
  · exact hS k tys T c hk
theorem sok_nil (w0 : World) (C : Cx) (cap : Nat) : SOk (fun _ _ => none) w0 C cap := by
  intro k tys T c hk; cases hk

theorem one_pick (w0 : World) (C : Cx) : OneOk sumPick 42 w0 C 999000 := by
  intro tys T c h vs w M hs hv hM hR
  unfold sumPick at h
  split at h
  · rename_i a b
    split at h
    · rename_i hab
      simp only [Option.some.injEq, Prod.mk.injEq] at h
      obtain ⟨rfl, rfl⟩ := h
      have h0 := hv 0 _ rfl
      obtain ⟨x, h1, h2, h3⟩ := hv 1 _ rfl
      have e := arr2 (by simpa using hs)
      rw [h1, show vs.getD 0 undef = _ from h0] at e
      subst e
      refine ⟨by go_simp, (pick_any hR (by omega) (by omega) (by omega)).mono ?_⟩
      rintro e w' ⟨y, y0, y1, rfl, R', G'⟩
      exact ⟨_, rfl, ⟨y, rfl, y0, by omega⟩, R', G'⟩
    · cases h
  · cases h

theorem one_int {f : FuncId} {lo hi : Int} {c0 : Nat} {w0 : World} {C : Cx} (hf : ∀ (v : Value) (w : World), (callFunc f #[v]).run Tryd.prog w = .ok (.enter f #[v]) w)
    (hc : ∀ (w : World) (N : Nat), N + c0 ≤ 999000 → Rds w0 w C.g N → Calls Tryd.prog f #[.pointer (some ⟨C.g, 0, none⟩)] w (IntPost w0 w C.g (N + c0) lo hi)) : OneOk (sumInt lo hi c0) f w0 C 999000 := by
  intro tys T c h vs w M hs hv hM hR
  unfold sumInt at h
  split at h
  · simp only [Option.some.injEq, Prod.mk.injEq] at h
    obtain ⟨rfl, rfl⟩ := h
    have h0 := hv 0 _ rfl
    have e := arr1 (by simpa using hs)
    rw [show vs.getD 0 undef = _ from h0] at e
    subst e
    refine ⟨hf _ _, (hc _ _ hM hR).mono ?_⟩
    rintro e w' ⟨y, y0, y1, rfl, R', G'⟩
    exact ⟨_, rfl, ⟨y, rfl, y0, y1⟩, R', G'⟩
  · cases h

end Go.Proofs.YtidnnnjjpjadlaaDoor
