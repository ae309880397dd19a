/- Rows of numbers: compared, marked, held. No condition: contracts for the walks of the laws. -/
import Derived.Test.YtdpekaejklmomaaChainP
namespace Go.Proofs.Ytdpekaejklmomaa
open Go.ChangeShapes Go.WideShapes Go.ChangeAt Go.RowKit


theorem Row.open_ {w : World} {base : Nat} {v : Value} {xs : List Int} (h : Row w base v xs) : ∃ ao cap, v = .slice ao xs.length cap ∧ cap ≤ maxLen ∧ xs.length ≤ cap ∧
    (0 < xs.length → ∃ g, ao = some ⟨g, 0, none⟩ ∧ (∀ j, j < xs.length → w.cell? ⟨g, j, none⟩ = some (.int .i64 (xs.getD j 0))) ∧ (∀ j, w.frozen? ⟨g, j, none⟩ = false)) := by
  rcases h.2 with ⟨rfl, h0⟩ | ⟨g, cap, cur, rfl, hb, hg, hnc, hcm, hcs, htake⟩
  · exact ⟨none, 0, by rw [h0], Nat.zero_le _, by omega, fun h => by omega⟩
  · refine ⟨some ⟨g, 0, none⟩, cap, rfl, hcm, hnc, fun _ => ⟨g, rfl, fun j hj => ?_, fun j => ?_⟩⟩
    · rw [World.ownsRow.cellAt h j (by omega)]
      simp [hj]
    · exact World.ownsRow.frozenAt h j
theorem Row.put {w : World} {base g n cap : Nat} {xs : List Int} (h : Row w base (.slice (some ⟨g, 0, none⟩) n cap) xs) (hn : n = xs.length) (j : Nat) (u : Int) : Row (w.setCell ⟨g, j, none⟩ (.int .i64 u)) base (.slice (some ⟨g, 0, none⟩) n cap) (xs.set j u) ∧ w.grownBy (w.setCell ⟨g, j, none⟩ (.int .i64 u)) (some g) := by
  subst hn
  have h' := World.ownsRow.stored h j (.int .i64 u)
  refine ⟨?_, h'.2⟩
  unfold Row
  rw [List.length_set, List.map_set]
  exact h'.1
def setMarks (xs : List Int) (m : Int) : Nat → List Int
  | 0 => xs
  | k + 1 => (setMarks xs m k).set k (m + k)
theorem setMarks_len (xs : List Int) (m : Int) : ∀ k, (setMarks xs m k).length = xs.length
  | 0 => rfl
  | k + 1 => by rw [setMarks, List.length_set]; exact setMarks_len xs m k
def marks (m : Int) (n : Nat) : List Int := (List.range n).map fun (i : Nat) => m + (i : Int)
theorem marks_len (m : Int) (n : Nat) : (marks m n).length = n := by simp [marks]
theorem marks_get {m : Int} {n k : Nat} (h : k < n) : (marks m n).getD k 0 = m + k := by simp [marks, h]
theorem setMarks_get (xs : List Int) (m : Int) : ∀ k j, j < k → j < xs.length → (setMarks xs m k).getD j 0 = m + j
  | 0, j, h, _ => by omega
  | k + 1, j, h, hj => by
    rw [setMarks]
    by_cases e : j = k
    · subst e
      simp [setMarks_len, hj]
    · have := setMarks_get xs m k j (by omega) hj
      simp [List.getD_eq_getElem?_getD, Ne.symm e] at this ⊢
      exact this
theorem setMarks_all (xs : List Int) (m : Int) : setMarks xs m xs.length = marks m xs.length := by
  refine List.ext_getElem (by rw [setMarks_len, marks_len]) fun j h1 h2 => ?_
  rw [setMarks_len] at h1
  have e1 := setMarks_get xs m xs.length j h1 h1
  have e2 := marks_get (m := m) h1
  rw [List.getD_eq_getElem?_getD, List.getElem?_eq_getElem (by rw [setMarks_len]; exact h1), Option.getD_some] at e1
  rw [List.getD_eq_getElem?_getD, List.getElem?_eq_getElem (by rw [marks_len]; exact h1), Option.getD_some] at e2
  rw [e1, e2]
theorem grown_self {w w1 w2 : World} {r : Option Nat} (h : w.grownBy w1 r) (h' : w1.grownBy w2 r) : w.grownBy w2 r :=
  ⟨h'.os.trans h.os, h'.tape.trans h.tape, h'.output.trans h.output, Nat.le_trans h.size h'.size, fun i hi hne => (h'.block i (Nat.lt_of_lt_of_le hi h.size) hne).trans (h.block i hi hne)⟩

set_option maxHeartbeats 1000000 in
theorem eqints_any {w : World} {b1 b2 : Nat} {v u : Value} {xs : List Int} (h1 : Row w b1 v xs) (h2 : Row w b2 u xs) : Calls Try.prog 29 #[v, u] w fun e w' => e = .returned (.bool true) ∧ ∃ q, w' = w.drewN q := by
  obtain ⟨ao, cap, rfl, hc, hlc, hA⟩ := h1.open_
  obtain ⟨bo, cap2, rfl, hc2, hlc2, hB⟩ := h2.open_
  have hm : (xs.length : Int) ≤ 9223372036854775807 := by unfold maxLen at hc; omega
  clear h1 h2
  generalize hn : xs.length = n at *
  go_enter Try.func29, Try.ntmps29
  go_wp2
  go_loopw [5] (fun i wr => ∃ k q : Nat, i = .int .i64 k ∧ k ≤ n ∧ wr = w.drewN q) (fun i _ => n - (RowKit.intOf i).toNat)
  case atStart => exact ⟨0, 0, rfl, Nat.zero_le _, rfl⟩
  case round =>
    obtain ⟨k, q, rfl, hk, rfl⟩ := hrel
    rcases Nat.lt_or_ge k n with hlt | hge
    · obtain ⟨g, rfl, cA, -⟩ := hA (by omega)
      obtain ⟨g2, rfl, cB, -⟩ := hB (by omega)
      have ca := cA k hlt
      have cb := cB k hlt
      have hki : (k : Int) < (n : Int) := by omega
      clear hA hB cA cB
      go_wp2_with fail
      go_quiet (fail)
      go_wp2
      go_roundw
      case rel => exact ⟨k + 1, q + nq, by go_num, by omega, by first | rfl | exact World.drewN_drewN ..⟩
      case measure => simp [RowKit.intOf]; omega
    · have e : k = n := by omega
      subst e
      clear hA hB
      go_wp2
      go_ret
      exact ⟨rfl, q, rfl⟩


set_option maxHeartbeats 1000000 in
theorem same_any {w : World} {b1 b2 : Nat} {v u : Value} {xs : List Int} (h1 : Row w b1 v xs) (h2 : Row w b2 u xs) : Calls Try.prog 33 #[v, u] w fun e w' => e = .returned (.bool true) ∧ ∃ q, w' = w.drewN q := by
  obtain ⟨ao, cap, rfl, hc, hlc, hA⟩ := h1.open_
  obtain ⟨bo, cap2, rfl, hc2, hlc2, hB⟩ := h2.open_
  have hm : (xs.length : Int) ≤ 9223372036854775807 := by unfold maxLen at hc; omega
  clear h1 h2
  generalize hn : xs.length = n at *
  go_enter Try.func33, Try.ntmps33
  go_wp2
  go_loopw [5] (fun i wr => ∃ k q : Nat, i = .int .i64 k ∧ k ≤ n ∧ wr = w.drewN q) (fun i _ => n - (RowKit.intOf i).toNat)
  case atStart => exact ⟨0, 0, rfl, Nat.zero_le _, rfl⟩
  case round =>
    obtain ⟨k, q, rfl, hk, rfl⟩ := hrel
    rcases Nat.lt_or_ge k n with hlt | hge
    · obtain ⟨g, rfl, cA, -⟩ := hA (by omega)
      obtain ⟨g2, rfl, cB, -⟩ := hB (by omega)
      have ca := cA k hlt
      have cb := cB k hlt
      have hki : (k : Int) < (n : Int) := by omega
      clear hA hB cA cB
      go_wp2_with fail
      go_quiet (fail)
      go_wp2
      go_roundw
      case rel => exact ⟨k + 1, q + nq, by go_num, by omega, by first | rfl | exact World.drewN_drewN ..⟩
      case measure => simp [RowKit.intOf]; omega
    · have e : k = n := by omega
      subst e
      clear hA hB
      go_wp2
      go_ret
      exact ⟨rfl, q, rfl⟩

set_option maxHeartbeats 1000000 in
theorem mark_any {w : World} {base : Nat} {v : Value} {xs : List Int} (h : Row w base v xs) (m : Int) (hm0 : -1000000000 ≤ m) (hm1 : m ≤ 1000000000) (hl : xs.length ≤ 10000000) : Calls Try.prog 30 #[v, .int .i64 m] w fun e w' => e = .returned (.int .i64 (m + xs.length)) ∧ Row w' base v (marks m xs.length) ∧ w.grownBy w' v.ownBlock := by
  obtain ⟨ao, cap, rfl, hc, hlc, -⟩ := h.open_
  have HR := Lib.hid h
  have hm : (xs.length : Int) ≤ 10000000 := by omega
  have HE := Lib.hid (setMarks_all xs m)
  generalize hn : xs.length = n at *
  go_enter Try.func30, Try.ntmps30
  go_wp2
  go_loopw [5, 1] (fun i j wr => ∃ k : Nat, i = .int .i64 k ∧ j = .int .i64 (m + k) ∧ k ≤ n ∧ Row wr base (.slice ao n cap) (setMarks xs m k) ∧ w.grownBy wr (Value.slice ao n cap).ownBlock) (fun i _ _ => n - (RowKit.intOf i).toNat)
  case atStart => exact ⟨0, rfl, by simp, Nat.zero_le _, HR.out, World.grownBy.refl _ _⟩
  case round =>
    obtain ⟨k, rfl, rfl, hk, hr, hg⟩ := hrel
    rcases Nat.lt_or_ge k n with hlt | hge
    · obtain ⟨ao', cap', e, -, -, ho⟩ := hr.open_
      rw [setMarks_len, hn] at ho e
      simp only [Value.slice.injEq, true_and] at e
      obtain ⟨rfl, rfl⟩ := e
      obtain ⟨g, rfl, cA, fA⟩ := ho (by omega)
      have ca := cA k hlt
      have fa := fA k
      have hput := hr.put (by rw [setMarks_len, hn]) k (m + k)
      have R1 := Lib.hid hput.1
      have G1 := Lib.hid (grown_self hg hput.2)
      have hki : (k : Int) < (n : Int) := by omega
      clear cA fA ho hput hr hg
      go_wp2
      go_roundw
      case rel => exact ⟨k + 1, by go_num, by (simp only [Int.natCast_add]; first | rfl | (congr 1; omega)), by omega, R1.out, G1.out⟩
      case measure => simp [RowKit.intOf]; omega
    · have e : k = n := by omega
      subst e
      have R1 := Lib.hid (HE.out ▸ hr)
      clear hr
      go_wp2
      go_ret
      exact ⟨rfl, R1.out, hg⟩
set_option maxHeartbeats 1000000 in
theorem held_any {w : World} {base : Nat} {v : Value} {n : Nat} {m : Int} (h : Row w base v (marks m n)) (hm0 : -1000000000 ≤ m) (hm1 : m ≤ 1000000000) (hl : n ≤ 10000000) : Calls Try.prog 31 #[v, .int .i64 m] w fun e w' => e = .returned (.int .i64 (m + n)) ∧ w = w' := by
  obtain ⟨ao, cap, rfl, hc, hlc, ho⟩ := h.open_
  rw [marks_len] at *
  have hm : (n : Int) ≤ 10000000 := by omega
  clear h
  go_enter Try.func31, Try.ntmps31
  go_wp2
  go_loop [5, 1] (fun i j => ∃ k : Nat, i = .int .i64 k ∧ j = .int .i64 (m + k) ∧ k ≤ n) (fun i _ => n - (RowKit.intOf i).toNat)
  case atStart => exact ⟨0, rfl, by simp, Nat.zero_le _⟩
  case round =>
    obtain ⟨k, rfl, rfl, hk⟩ := hrel
    rcases Nat.lt_or_ge k n with hlt | hge
    · obtain ⟨g, rfl, cA, fA⟩ := ho (by omega)
      have ca := cA k hlt
      rw [marks_get hlt] at ca
      have hki : (k : Int) < (n : Int) := by omega
      clear cA fA ho
      go_wp2
      go_round
      case rel => exact ⟨k + 1, by go_num, by (simp only [Int.natCast_add]; first | rfl | (congr 1; omega)), by omega⟩
      case measure => simp [RowKit.intOf]; omega
    · have e : k = n := by omega
      subst e
      clear ho
      go_wp2
      go_ret
      exact ⟨rfl, rfl⟩

end Go.Proofs.Ytdpekaejklmomaa
