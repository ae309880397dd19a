/- The drawing functions of chains. No condition: contracts for the walks of the laws. -/
import Derived.Test.YtdpekaejklmomaaDrawF
import Derived.Test.YtdpekaejklmomaaChain
import Derived.Test.YtdpekaejklmomaaFcP
namespace Go.Proofs.Ytdpekaejklmomaa
open Go.ChangeShapes Go.WideShapes Go.ChangeAt Go.RowKit

def FrOnePost (w : World) (e : Ending) (w' : World) : Prop := ∃ a b : Int, (-1000001 ≤ a ∧ a ≤ 1000001 ∧ -1000001 ≤ b ∧ b ≤ 1000001) ∧ e = .returned (.agg #[.int .i64 a, .int .i64 b]) ∧ Below w.heap.size w w'
set_option maxHeartbeats 1000000 in
theorem drawchainof_any {w : World} {a : Option Addr} {len cap : Nat} {zs : List Int} (hrow : IsRow .u8 w a len cap zs) :
    Calls Try.prog 32 #[.slice a len cap] w (FrOnePost w) := by
  have hZ := isRow_alloc hrow (.cells #[.int .i64 0, .int .i64 0] 41)
  clear hrow
  go_enter Try.func32, Try.ntmps32
  go_wp2_with fail
  refine (open_any hZ).mono ?_
  rintro e w1 ⟨g, rfl, R0⟩
  go_wp2_with fail
  refine (l20fraction_any R0 (by omega) (by omega) (by omega)).mono ?_
  rintro e w2 ⟨a, b, hA, rfl, R1, G1⟩
  have hbl := R1.below
  obtain ⟨d0, d1, e0, e1, lz⟩ := blk2 ((Blk.new w 41 #[.int .i64 0, .int .i64 0]).below hbl (by simp))
  have HB := Lib.hid (Below.trans ((Below.refl _ w).alloc (Nat.le_refl _) _) (hbl.mono (by simp)))
  have HA := Lib.hid hA
  clear hbl R0 R1 G1 hZ hA
  go_wp2_with fail
  refine bodyPost_ret (v := .agg #[.int .i64 a, .int .i64 b]) (by simp [results, Try.results32, go_sem, d0, d1]) rfl ?_
  have hb := HB.out
  exact ⟨a, b, HA.out, rfl, by go_grown⟩
set_option maxHeartbeats 1000000 in
theorem drawnearfractions_any {w : World} {a : Option Addr} {len cap : Nat} {zs : List Int} (hrow : IsRow .u8 w a len cap zs) :
    Calls Try.prog 41 #[.slice a len cap] w (FrOnePost w) := by
  have hZ := isRow_alloc hrow (.cells #[.int .i64 0, .int .i64 0] 41)
  clear hrow
  go_enter Try.func41, Try.ntmps41
  go_wp2_with fail
  refine (open_any hZ).mono ?_
  rintro e w1 ⟨g, rfl, R0⟩
  go_wp2_with fail
  refine (l20fraction_any R0 (by omega) (by omega) (by omega)).mono ?_
  rintro e w2 ⟨a, b, hA, rfl, R1, G1⟩
  have hbl := R1.below
  obtain ⟨d0, d1, e0, e1, lz⟩ := blk2 ((Blk.new w 41 #[.int .i64 0, .int .i64 0]).below hbl (by simp))
  have HB := Lib.hid (Below.trans ((Below.refl _ w).alloc (Nat.le_refl _) _) (hbl.mono (by simp)))
  have HA := Lib.hid hA
  clear hbl R0 R1 G1 hZ hA
  go_wp2_with fail
  refine bodyPost_ret (v := .agg #[.int .i64 a, .int .i64 b]) (by simp [results, Try.results41, go_sem, d0, d1]) rfl ?_
  have hb := HB.out
  exact ⟨a, b, HA.out, rfl, by go_grown⟩

theorem frChain_len40 (a b : Int) : (frChain a b).length ≤ 40 := by
  unfold frChain
  split
  · rename_i h
    have := frOk_mk h
    exact chain_len40 (by omega) (by omega)
  · simp
/-- A drawn list. -/
def LsPost (w : World) (e : Ending) (w' : World) : Prop := ∃ v xs, e = .returned v ∧ Row w' w.heap.size v xs ∧ xs.length ≤ 41 ∧ Below w.heap.size w w'
set_option maxHeartbeats 4000000 in
theorem drawfromchain_any {w : World} {a : Option Addr} {len cap : Nat} {zs : List Int} (hrow : IsRow .u8 w a len cap zs) :
    Calls Try.prog 45 #[.slice a len cap] w (LsPost w) := by
  obtain ⟨i0, hi, hz0, hz1, hz2⟩ := (info_parts (P := Try.prog) (e := 3) (z := .int .i64 0) (size := 1) (bytes := 8) (by kernel_rfl) : ∃ i, Try.prog.info? 3 = some i ∧ i.zero = some (.int .i64 0) ∧ i.size = 1 ∧ i.bytes = 8)
  go_enter Try.func45, Try.ntmps45
  go_wp2_with fail
  refine (open_any hrow).mono ?_
  rintro e w0 ⟨g, rfl, R0⟩
  go_wp2_with fail
  refine (l20fraction_any R0 (by omega) (by omega) (by omega)).mono ?_
  rintro e w1 ⟨p, q, hA, rfl, R1, G1⟩
  have hys := frChain_len40 p q
  have CS := Lib.hid (fun w' => chain_spec p q w')
  generalize frChain p q = ys at *
  go_wp2_with fail
  refine (CS.out _).mono ?_
  rintro e w2 ⟨v, rfl, rv, hb⟩
  have R2 := R1.behind hb
  have rv2 := rv.lower (b := w.heap.size) (by have := R1.below.size; omega)
  have hgv : v.ownBlock = none ∨ v.ownBlock ≠ some g := by
    cases ho : v.ownBlock with
    | none => exact .inl rfl
    | some k =>
      right
      have := (World.ownsRow.lt rv k ho).1
      have := R1.lt
      intro e
      injection e with e
      omega
  clear hb rv
  go_wp2_with fail
  refine (odd_any R2 (by omega) (by omega) (by omega)).mono ?_
  rintro e w3 ⟨bo, rfl, R3, G3⟩
  have rv3 := rv2.kept G3 hgv
  cases bo
  · have HR := Lib.hid R3
    have RV := Lib.hid rv3
    clear R0 R1 R2 R3 G1 G3 hrow rv2 rv3
    go_wp2_with fail
    go_ret
    exact ⟨v, ys, rfl, RV.out, by omega, HR.out.below⟩
  · go_wp2_with fail
    refine (pick_any R3 (by omega) (by omega) (by omega)).mono ?_
    rintro e w4 ⟨x, hx0, hx1, rfl, R4, G4⟩
    have rv4 := rv3.kept G4 hgv
    have HR := Lib.hid R4
    have RV := Lib.hid rv4
    have hrb := rv4
    rcases (by omega : x = 0 ∨ x = 1 ∨ x = 2 ∨ x = 3) with rfl | rfl | rfl | rfl
    · clear R0 R1 R2 R3 R4 G1 G3 G4 hrow rv2 rv3 rv4
      go_wp2_with ((at_builtin; refine wpList_append_own _ rfl _ _ 39 rfl w.heap.size 3 i0 (.int .i64 0) 1 8 Try.underlying39 hi hz0 hz1 hz2 rfl (by decide) _ _ _ rfl (RV.out.alloc _) ⟨w4.heap.size, 0, none⟩ 1 1 [.int .i64 1] rfl rfl ?c1 ?c2 ?c3 ?c4 ?c5 ?_))
      case c1 =>
        intro j u hj
        match j, hj with
        | 0, hj => simp at hj; subst hj; simp [Addr.add]
      case c2 => intro u hu; simp at hu; subst hu; rfl
      case c3 => unfold maxLen; omega
      case c4 => omega
      case c5 => have := HR.out.below.size; simp; omega
      intro v' w1' hown' hgrow _
      obtain ⟨r1, b1, hk⟩ := Row.more RV.out hown' hgrow HR.out.below (Nat.le_refl _) (Nat.le_refl _)
      have RN := Lib.hid r1
      have BN := Lib.hid b1
      clear hown' hgrow r1 b1 hk hrb
      go_wp2_with fail
      go_ret
      exact ⟨v', ys ++ [1], rfl, RN.out, by simp; omega, BN.out⟩
    · go_wp2_with fail
      refine (pick_any (R4.alloc _) (by omega) (by omega) (by omega)).mono ?_
      rintro e w5 ⟨x, hx0, hx1, rfl, R5, G5⟩
      have hl := R4.lt
      have bA := (Blk.new w4 _ _).grown G5 (by intro e; injection e with e; omega)
      obtain ⟨t, ct⟩ : ∃ t : Int, w5.cell? ⟨w4.heap.size, x.toNat, none⟩ = some (.int .i64 t) := by
        rcases (by omega : x = 0 ∨ x = 1 ∨ x = 2) with rfl | rfl | rfl
        all_goals exact ⟨_, bA.cell _⟩
      have RV5 := Lib.hid ((rv4.alloc _).kept G5 hgv)
      have HR5 := Lib.hid R5
      clear R0 R1 R2 R3 R4 R5 G1 G3 G4 G5 hrow rv2 rv3 rv4 bA hrb
      go_wp2_with ((at_builtin; refine wpList_append_own _ rfl _ _ 39 rfl w.heap.size 3 i0 (.int .i64 0) 1 8 Try.underlying39 hi hz0 hz1 hz2 rfl (by decide) _ _ _ rfl (RV5.out.alloc _) ⟨w5.heap.size, 0, none⟩ 1 1 [.int .i64 t] rfl rfl ?c1 ?c2 ?c3 ?c4 ?c5 ?_))
      case c1 =>
        intro j u hj
        match j, hj with
        | 0, hj => simp at hj; subst hj; simp [Addr.add]
      case c2 => intro u hu; simp at hu; subst hu; rfl
      case c3 => unfold maxLen; omega
      case c4 => omega
      case c5 => have := HR5.out.below.size; simp; omega
      intro v' w1' hown' hgrow _
      obtain ⟨r1, b1, hk⟩ := Row.more RV5.out hown' hgrow HR5.out.below (Nat.le_refl _) (Nat.le_refl _)
      have RN := Lib.hid r1
      have BN := Lib.hid b1
      clear hown' hgrow r1 b1 hk
      go_wp2_with fail
      go_ret
      exact ⟨v', ys ++ [t], rfl, RN.out, by simp; omega, BN.out⟩
    · clear R0 R1 R2 R3 R4 G1 G3 G4 hrow rv2 rv3 rv4
      go_wp2_with ((at_builtin; refine wpList_append_own _ rfl _ _ 39 rfl w.heap.size 3 i0 (.int .i64 0) 1 8 Try.underlying39 hi hz0 hz1 hz2 rfl (by decide) _ _ _ rfl (RV.out.alloc _) ⟨w4.heap.size, 0, none⟩ 1 1 [.int .i64 3] rfl rfl ?c1 ?c2 ?c3 ?c4 ?c5 ?_))
      case c1 =>
        intro j u hj
        match j, hj with
        | 0, hj => simp at hj; subst hj; simp [Addr.add]
      case c2 => intro u hu; simp at hu; subst hu; rfl
      case c3 => unfold maxLen; omega
      case c4 => omega
      case c5 => have := HR.out.below.size; simp; omega
      intro v' w1' hown' hgrow _
      obtain ⟨r1, b1, hk⟩ := Row.more RV.out hown' hgrow HR.out.below (Nat.le_refl _) (Nat.le_refl _)
      have RN := Lib.hid r1
      have BN := Lib.hid b1
      clear hown' hgrow r1 b1 hk hrb
      go_wp2_with fail
      go_ret
      exact ⟨v', ys ++ [3], rfl, RN.out, by simp; omega, BN.out⟩
    · have BR := Lib.hid R4.below
      clear R0 R1 R2 R3 R4 G1 G3 G4 hrow rv2 rv3 rv4 hrb
      go_wp2_with fail
      go_ret
      exact ⟨_, [], rfl, Row.empty w4 w.heap.size BR.out.size, by simp, bl_alloc BR.out _⟩
end Go.Proofs.Ytdpekaejklmomaa
