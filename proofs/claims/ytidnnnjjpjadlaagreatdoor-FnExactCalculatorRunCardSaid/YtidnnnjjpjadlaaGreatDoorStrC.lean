/- Rows of texts marked and held. No condition: contracts for the walks of the laws. -/
import Derived.Test.YtidnnnjjpjadlaaGreatDoorStrB
import Derived.Test.YtidnnnjjpjadlaaGreatDoorFmt
import Derived.Test.YtidnnnjjpjadlaaGreatDoorPick
namespace Go.Proofs.YtidnnnjjpjadlaaGreatDoor
open Go.ChangeShapes Go.WideShapes Go.ChangeAt Go.RowKit

def setMarksS (xs : List ByteArray) (m : Int) : Nat → List ByteArray
  | 0 => xs
  | k + 1 => (setMarksS xs m k).set k (mkT (m + k))
theorem setMarksS_len (xs : List ByteArray) (m : Int) : ∀ k, (setMarksS xs m k).length = xs.length
  | 0 => rfl
  | k + 1 => by rw [setMarksS, List.length_set]; exact setMarksS_len xs m k
def marksS (m : Int) (n : Nat) : List ByteArray := (List.range n).map fun (i : Nat) => mkT (m + (i : Int))
theorem marksS_len (m : Int) (n : Nat) : (marksS m n).length = n := by simp [marksS]
theorem marksS_get {m : Int} {n k : Nat} (h : k < n) : (marksS m n).getD k ByteArray.empty = mkT (m + k) := by simp [marksS, h]
theorem setMarksS_get (xs : List ByteArray) (m : Int) : ∀ k j, j < k → j < xs.length → (setMarksS xs m k).getD j ByteArray.empty = mkT (m + j)
  | 0, j, h, _ => by omega
  | k + 1, j, h, hj => by
    rw [setMarksS]
    by_cases e : j = k
    · subst e
      simp [setMarksS_len, hj]
    · have := setMarksS_get xs m k j (by omega) hj
      simp [List.getD_eq_getElem?_getD, Ne.symm e] at this ⊢
      exact this
theorem setMarksS_all (xs : List ByteArray) (m : Int) : setMarksS xs m xs.length = marksS m xs.length := by
  refine List.ext_getElem (by rw [setMarksS_len, marksS_len]) fun j h1 h2 => ?_
  rw [setMarksS_len] at h1
  have e1 := setMarksS_get xs m xs.length j h1 h1
  have e2 := marksS_get (m := m) h1
  rw [List.getD_eq_getElem?_getD, List.getElem?_eq_getElem (by rw [setMarksS_len]; exact h1), Option.getD_some] at e1
  rw [List.getD_eq_getElem?_getD, List.getElem?_eq_getElem (by rw [marksS_len]; exact h1), Option.getD_some] at e2
  rw [e1, e2]
set_option maxHeartbeats 1000000 in
theorem marks_any {w : World} {base : Nat} {v : Value} {xs : List ByteArray} (h : RowS w base v xs) (m : Int) (hm0 : 1 ≤ m) (hm1 : m ≤ 1000000) (hl : xs.length ≤ 10000000) : Calls Tryz.prog 22 #[v, .int .i64 m] w fun e w' => e = .returned (.int .i64 (m + xs.length)) ∧ RowS w' base v (marksS m xs.length) ∧ w.grownBy w' v.ownBlock := by
  obtain ⟨ao, cap, rfl, hc, hlc, -⟩ := h.open_
  have HR := Lib.hid h
  have hm : (xs.length : Int) ≤ 10000000 := by omega
  have HE := Lib.hid (setMarksS_all xs m)
  generalize hn : xs.length = n at *
  go_enter Tryz.func22, Tryz.ntmps22
  go_wp2
  go_loopw [5, 1] (fun i j wr => ∃ k : Nat, i = .int .i64 k ∧ j = .int .i64 (m + k) ∧ k ≤ n ∧ RowS wr base (.slice ao n cap) (setMarksS xs m k) ∧ w.grownBy wr (Value.slice ao n cap).ownBlock) (fun i _ _ => n - (RowKit.intOf i).toNat)
  case atStart => exact ⟨0, rfl, by simp, Nat.zero_le _, HR.out, World.grownBy.refl _ _⟩
  case round =>
    obtain ⟨k, rfl, rfl, hk, hr0, hg0⟩ := hrel
    rcases Nat.lt_or_ge k n with hlt | hge
    · have hki : (k : Int) < (n : Int) := by omega
      have HR0 := Lib.hid hr0
      have HG0 := Lib.hid hg0
      clear hr0 hg0
      go_wp2_with fail
      refine (mt_any (m + k) _ (by omega) (by omega)).mono ?_
      rintro e w2 ⟨rfl, hb⟩
      have hr := HR0.out.below hb
      have hg := grownBy_below HG0.out hb
      obtain ⟨ao', cap', e, -, -, ho⟩ := hr.open_
      rw [setMarksS_len, hn] at ho e
      simp only [Value.slice.injEq, true_and] at e
      obtain ⟨rfl, rfl⟩ := e
      obtain ⟨g, rfl, cA, fA⟩ := ho (by omega)
      have ca := cA k hlt
      have fa := fA k
      have hput := hr.put (by rw [setMarksS_len, hn]) k (mkT (m + k))
      have R1 := Lib.hid hput.1
      have G1 := Lib.hid (grown_selfS hg hput.2)
      clear cA fA ho hput hr hg hb
      go_wp2_with fail
      go_roundw
      case rel => exact ⟨k + 1, by go_num, by (simp only [Int.natCast_add]; first | rfl | (congr 1; omega)), by omega, R1.out, G1.out⟩
      case measure => simp [RowKit.intOf]; omega
    · have e : k = n := by omega
      subst e
      have R1 := Lib.hid (HE.out ▸ hr0)
      clear hr0
      go_wp2
      go_ret
      exact ⟨rfl, R1.out, hg0⟩
structure InH (w : World) (g k : Nat) (s : ByteArray) (w' : World) : Prop where
  bel : Below w.heap.size w w'
  c : w'.cell? ⟨g, k, none⟩ = some (.string s)
theorem InH.below {w w1 w2 : World} {g k : Nat} {s : ByteArray} (h : InH w g k s w1) (hb : Below w1.heap.size w1 w2) : InH w g k s w2 := ⟨bl_behind hb h.bel, by rw [hb.cell (p := ⟨g, k, none⟩) (iszS h.c)]; exact h.c⟩
theorem InH.drew {w w1 : World} {g k : Nat} {s : ByteArray} (h : InH w g k s w1) : InH w g k s { w1 with drawn := w1.drawn + 1 } := ⟨h.bel.drew, h.c⟩
set_option maxHeartbeats 1000000 in
theorem helds_any {w : World} {base : Nat} {v : Value} {n : Nat} {m : Int} (h : RowS w base v (marksS m n)) (hm0 : 1 ≤ m) (hm1 : m ≤ 1000000) (hl : n ≤ 10000000) : Calls Tryz.prog 23 #[v, .int .i64 m] w fun e w' => e = .returned (.int .i64 (m + n)) ∧ Below w.heap.size w w' := by
  have HR := Lib.hid h
  obtain ⟨ao, cap, rfl, hc, hlc, -⟩ := h.open_
  rw [marksS_len] at *
  have hm : (n : Int) ≤ 10000000 := by omega
  clear h
  go_enter Tryz.func23, Tryz.ntmps23
  go_wp2
  go_loopw [5, 1] (fun i j wr => ∃ k : Nat, i = .int .i64 k ∧ j = .int .i64 (m + k) ∧ k ≤ n ∧ Below w.heap.size w wr) (fun i _ _ => n - (RowKit.intOf i).toNat)
  case atStart => exact ⟨0, rfl, by simp, Nat.zero_le _, (by repeat' (first | (with_reducible exact Below.refl _ _) | (with_reducible assumption) | (with_reducible refine below_drewN ?_ _) | (with_reducible refine Below.drew ?_) | (with_reducible refine bl_alloc ?_ _) | (with_reducible refine bl_set ?_ ?_ _) | go_size | omega))⟩
  case round =>
    obtain ⟨k, rfl, rfl, hk, hbl⟩ := hrel
    have HBL := Lib.hid hbl
    rcases Nat.lt_or_ge k n with hlt | hge
    · have hr := HR.out.below hbl
      obtain ⟨ao', cap', e, -, -, ho⟩ := hr.open_
      rw [marksS_len] at ho e
      simp only [Value.slice.injEq, true_and] at e
      obtain ⟨rfl, rfl⟩ := e
      obtain ⟨g, rfl, cA, fA⟩ := ho (by omega)
      have ca := cA k hlt
      rw [marksS_get hlt] at ca
      have hki : (k : Int) < (n : Int) := by omega
      have HI : Hid (InH w g k (mkT (m + k)) wr) := Lib.hid ⟨hbl, ca⟩
      clear cA fA ho hr hbl ca
      go_wp2_with fail
      refine wp_region_quietC (C := InH w g k (mkT (m + k))) (by kernel_rfl) (by kernel_rfl) HI.out.drew ?_
      repeat
        (refine wpQuiet_step (fun K hK => ?_)
         go_simp
         first
           | (refine hK _ ?_; clear hK K)
           | (apply Exists.intro
              refine ⟨fun w' hw' => ?_, hK _ ?_⟩
              first
                | (go_at_call 49; with_reducible refine Calls.mono (mt_any (m + k) _ (by omega) (by omega)) ?_; rintro e w2 ⟨rfl, hb2⟩; exact ⟨rfl, hw'.below hb2⟩)
                | (have c0 := hw'.c; go_simp; first | exact ⟨rfl, hw'⟩ | exact ⟨hw', rfl⟩ | rfl)
              clear hK K))
      refine wpQuiet_nil ?_
      intro w2 hw2
      have HB2 := Lib.hid hw2.bel
      clear hw2
      go_wp2_with fail
      go_roundw
      case rel => exact ⟨k + 1, by go_num, by (simp only [Int.natCast_add]; first | rfl | (congr 1; omega)), by omega, HB2.out⟩
      case measure => simp [RowKit.intOf]; omega
    · have e : k = n := by omega
      subst e
      clear hbl
      go_wp2
      go_ret
      exact ⟨rfl, HBL.out⟩
end Go.Proofs.YtidnnnjjpjadlaaGreatDoor
