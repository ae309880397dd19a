/- The table of powers of ten reads as listed, and strconv.Itoa over it. No condition: contracts for the walks of the laws. -/
import Derived.Test.YtidnnnjjpjadlaaGreatDoorMsp
import Derived.Test.YtidnnnjjpjadlaaGreatDoorMcd
import Derived.Lib.LaidTab
import Derived.Lib.AppendIntMem
namespace Go.Proofs.YtidnnnjjpjadlaaGreatDoor
open Go.ChangeShapes Go.WideShapes Go.ChangeAt Go.RowKit

/-- The table that Itoa reads. -/
def HT (w : World) : Prop := Lib.TabIs Tryz.prog w "internal/strconv.uint64pow10" .u64 Lib.pow10Tab
theorem laidMet_tail {P : Program} {x : String × DataW Unit} {r : List (String × DataW Unit)} {w : World} (h : laidMet P (x :: r) w) : laidMet P r w := by
  obtain ⟨ps, hv, hn, hc⟩ := h
  obtain ⟨n, d⟩ := x
  obtain ⟨g, t, cs, fuel, p, q, -, -, -, -, hr, rfl⟩ := hv
  rw [List.nodup_append] at hn
  exact ⟨q, hr, hn.2.1, fun b off hm => hc b off (List.mem_append_right _ hm)⟩
theorem ht_of_laid {w : World} (h : laidMetH Tryz.prog laidL w) : HT w := by
  have h1 : laidMet Tryz.prog laidL w := h
  have h2 : laidMet Tryz.prog [("internal/strconv.uint64pow10", Lib.tabData .u64 Lib.pow10Tab)] w := by
    have e : (Rows.laid_internal_strconv_uint64pow10 : DataW Unit) = Lib.tabData .u64 Lib.pow10Tab := by rfl
    have h3 := laidMet_tail (laidMet_tail h1)
    rw [← e]
    exact h3
  exact Lib.tabIs_of_head (g := 1) (t := 114) (e := 90) (n := 20) (by kernel_rfl) (by kernel_rfl) (by kernel_rfl) (by kernel_rfl) (by kernel_rfl) (by kernel_rfl) h2
theorem HT.below {w w' : World} (h : HT w) (hb : Below w.heap.size w w') : HT w' := by
  have hg : Tryz.prog.globalNamed "internal/strconv.uint64pow10" = some 1 := by kernel_rfl
  unfold HT Lib.TabIs World.var? at h ⊢
  rw [hg] at h ⊢
  simp only [Option.bind_some] at h ⊢
  have hlt : 1 < w.heap.size := by
    rcases Nat.lt_or_ge 1 w.heap.size with h' | h'
    · exact h'
    · rw [Array.getElem?_eq_none h'] at h; cases h
  rw [hb.block 1 hlt]
  exact h
theorem itoa_big (n : Int) (w : World) (hT : HT w) (h0 : 0 ≤ n) (h1 : n ≤ 9999) : Calls Tryz.prog 44 #[.int .i64 n] w fun e w' => e = .returned (.string (sOf (dec n))) ∧ Below w.heap.size w w' := by
  refine (Tryz.strconv_Itoa n (by omega) (by omega) w hT).mono ?_
  rintro e w' ⟨rfl, k, os, rfl⟩
  refine ⟨?_, Lib.below_grow _ _ (Nat.le_refl _) _ _⟩
  have e1 : Lib.itoa n = dec n := by unfold Lib.itoa dec; rw [if_neg (by omega)]
  rw [e1]
  rfl
end Go.Proofs.YtidnnnjjpjadlaaGreatDoor
