/- ReadStored of the reference. No condition: contracts for the walks of the laws. -/
import Derived.Test.YtcgbbbcanmkcbaaDoorRs
import Derived.Deep.CutBlock
namespace Go.Proofs.YtcgbbbcanmkcbaaDoor
open Go.ChangeShapes Go.WideShapes Go.ChangeAt Go.RowKit

/-- What the rounds of l24Scale hold. -/
theorem sc_step {p c o a : Int} {j : Nat} (h : p * 2 ^ j = o * c + a) : (c ≤ 2 * a → p * 2 ^ (j + 1) = (2 * o + 1) * c + (2 * a - c)) ∧ p * 2 ^ (j + 1) = (2 * o) * c + 2 * a := by
  have e : p * 2 ^ (j + 1) = 2 * (p * 2 ^ j) := by rw [Int.pow_succ, ← Int.mul_assoc, Int.mul_comm]
  rw [e, h, Int.add_mul, Int.mul_assoc]
  omega
theorem sc_end {p c o a : Int} {k : Nat} (h : p * 2 ^ k = o * c + a) (h1 : 0 ≤ a) (h2 : a < c) : o = p * 2 ^ k / c := by
  rw [h, Int.add_comm, Int.add_mul_ediv_right _ _ (by omega), Int.ediv_eq_zero_of_lt h1 h2]
  omega
set_option maxHeartbeats 2000000 in
theorem scale_any (p c k : Int) (w : World) (hp : 0 ≤ p) (hpc : p < c) (hc : c ≤ 10000000000000000) (hk : 0 ≤ k) (hk2 : k ≤ 16) : Calls Tryd.prog 47 #[.int .i64 p, .int .i64 c, .int .i64 k] w fun e w' => e = .returned (.int .i64 (p * 2 ^ k.toNat / c)) ∧ w = w' := by
  go_enter Tryd.func47, Tryd.ntmps47
  go_wp2_with fail
  go_loop [0, 7, 8] (fun a o j => ∃ (x y : Int) (n : Nat), a = .int .i64 x ∧ o = .int .i64 y ∧ j = .int .i64 (n : Int) ∧ (n : Int) ≤ k ∧ 0 ≤ x ∧ x < c ∧ 0 ≤ y ∧ y + 1 ≤ 2 ^ n ∧ Hid (p * 2 ^ n = y * c + x)) (fun _ _ j => (k - RowKit.intOf j).toNat)
  case atStart => exact ⟨p, 0, 0, rfl, rfl, rfl, by omega, hp, hpc, by omega, by simp, Lib.hid (by simp)⟩
  case round =>
    obtain ⟨x, y, n, rfl, rfl, rfl, hn, x0, x1, y0, y1, HX⟩ := hrel
    rcases (by omega : (n : Int) = k ∨ (n : Int) < k) with he | hlt
    · have HE := Lib.hid (show y = p * 2 ^ k.toNat / c by
        have := sc_end HX.out x0 x1
        rw [this, show k.toNat = n by omega])
      have hge : k ≤ (n : Int) := by omega
      clear he y1
      go_wp2_with fail
      go_ret
      exact ⟨ret_int HE.out, rfl⟩
    · have hs := sc_step HX.out
      have S1 := Lib.hid hs.1
      have S2 := Lib.hid hs.2
      have hy := two_le (show n ≤ 16 by omega)
      have e2 : (2 : Int) ^ (n + 1) = 2 * 2 ^ n := by rw [Int.pow_succ, Int.mul_comm]
      have hy2 : y ≤ 65536 := by omega
      have E2 := Lib.hid e2
      have Y1 := Lib.hid y1
      clear hs e2 hy y1
      rcases (by omega : c ≤ 2 * x ∨ 2 * x < c) with h | h
      · go_wp2_with fail
        go_round
        case rel => exact ⟨2 * x - c, 2 * y + 1, n + 1, rfl, rfl, by go_num, by omega, by omega, by omega, by omega, by rw [E2.out]; have := Y1.out; omega, Lib.hid (S1.out h)⟩
        case measure => simp [RowKit.intOf]; omega
      · go_wp2_with fail
        go_round
        case rel => exact ⟨2 * x, 2 * y, n + 1, rfl, rfl, by go_num, by omega, by omega, by omega, by omega, by rw [E2.out]; have := Y1.out; omega, Lib.hid S2.out⟩
        case measure => simp [RowKit.intOf]; omega

theorem drop_get {s : ByteArray} {a : Nat} (h : a < s.size) : s.data.toList.drop a = s[a] :: s.data.toList.drop (a + 1) := by
  rw [List.drop_eq_getElem_cons (by simpa using h)]; rfl
/-- The rounds over the whole part. -/
def WRel (l : List UInt8) (a : Nat) (x : Int) : Prop := tkW (l.drop a) x = psW l
theorem w_more {s : ByteArray} {a : Nat} {x : Int} (h : WRel s.data.toList a x) (ha : a < s.size) (h1 : 48 ≤ s[a].toNat) (h2 : s[a].toNat ≤ 57) (h3 : x < 100000) : WRel s.data.toList (a + 1) (10 * x + (s[a].toNat - 48)) := by
  unfold WRel at *
  rw [drop_get ha, tkW, if_pos ⟨h1, h2, h3⟩] at h
  exact h
theorem w_stop {s : ByteArray} {a : Nat} {x : Int} (h : WRel s.data.toList a x) (ha : a < s.size) (h1 : s[a].toNat < 48 ∨ 57 < s[a].toNat ∨ 100000 ≤ x) : psW s.data.toList = (x, s.data.toList.drop a) := by
  unfold WRel at h
  rw [← h, drop_get ha, tkW, if_neg (by omega)]
theorem w_end {s : ByteArray} {a : Nat} {x : Int} (h : WRel s.data.toList a x) (ha : s.size ≤ a) : psW s.data.toList = (x, s.data.toList.drop a) := by
  unfold WRel at h
  rw [← h, List.drop_eq_nil_of_le (by simpa using ha), tkW]
/-- The rounds over the digits behind the point. -/
def PRel (l : List UInt8) (a : Nat) (x c : Int) : Prop := tkP (l.drop a) x c = psR l
theorem p_more {s : ByteArray} {a : Nat} {x c : Int} (h : PRel s.data.toList a x c) (ha : a < s.size) (h1 : 48 ≤ s[a].toNat) (h2 : s[a].toNat ≤ 57) (h3 : c < 10000000000000000) : PRel s.data.toList (a + 1) (10 * x + (s[a].toNat - 48)) (10 * c) := by
  unfold PRel at *
  rw [drop_get ha, tkP, if_pos ⟨h1, h2, h3⟩] at h
  exact h
theorem p_stop {s : ByteArray} {a : Nat} {x c : Int} (h : PRel s.data.toList a x c) (ha : a < s.size) (h1 : s[a].toNat < 48 ∨ 57 < s[a].toNat ∨ 10000000000000000 ≤ c) : psR s.data.toList = (x, c, s.data.toList.drop a) := by
  unfold PRel at h
  rw [← h, drop_get ha, tkP, if_neg (by omega)]
theorem p_end {s : ByteArray} {a : Nat} {x c : Int} (h : PRel s.data.toList a x c) (ha : s.size ≤ a) : psR s.data.toList = (x, c, s.data.toList.drop a) := by
  unfold PRel at h
  rw [← h, List.drop_eq_nil_of_le (by simpa using ha), tkP]
theorem p_start {s : ByteArray} {a : Nat} {x : Int} (h : psW s.data.toList = (x, s.data.toList.drop a)) (ha : a < s.size) (hb : s[a] = 46) : PRel s.data.toList (a + 1) 0 1 := by
  unfold PRel psR
  rw [h, drop_get ha]
  unfold psPart
  simp [hb]
theorem p_none {s : ByteArray} {a : Nat} {x : Int} (h : psW s.data.toList = (x, s.data.toList.drop a)) (hb : ∀ ha : a < s.size, s[a] ≠ 46) : psR s.data.toList = (0, 1, s.data.toList.drop a) := by
  unfold psR
  rw [h]
  dsimp only
  by_cases ha : a < s.size
  · rw [drop_get ha]
    unfold psPart
    simp [hb ha]
  · rw [List.drop_eq_nil_of_le (by simp; omega)]
    rfl
def InQ (w : World) (p q : Int) (wx : World) : Prop := Blk wx w.heap.size 25 #[.int .i64 p, .int .i64 q] ∧ Below w.heap.size w wx
def WCut (s : ByteArray) (w : World) (p q : Int) (t v : Value) (wx : World) : Prop := ∃ (a : Nat) (x : Int), t = .int .i64 (a : Int) ∧ v = .int .i64 x ∧ a ≤ s.size ∧ (0 ≤ x ∧ x ≤ 999999) ∧ psW s.data.toList = (x, s.data.toList.drop a) ∧ InQ w p q wx
def PCut (s : ByteArray) (w : World) (p q : Int) (t v u : Value) (wx : World) : Prop := ∃ (a : Nat) (x c : Int), t = .int .i64 (a : Int) ∧ v = .int .i64 x ∧ u = .int .i64 c ∧ a ≤ s.size ∧ (0 ≤ x ∧ x < c ∧ c ≤ 10000000000000000) ∧ psR s.data.toList = (x, c, s.data.toList.drop a) ∧ InQ w p q wx
theorem w_start {s : ByteArray} {a : Nat} {g : Int} (h : psSign s.data.toList = (g, s.data.toList.drop a)) : WRel s.data.toList a 0 := by
  unfold WRel psW
  rw [h]
theorem ret_rs {p q n : Int} {s : ByteArray} {o : Bool} (h : rsN p q s = n ∧ rsOk p q s = o) : Ending.returned (.tuple #[.int .i64 n, .bool o]) = Ending.returned (.tuple #[.int .i64 (rsN p q s), .bool (rsOk p q s)]) := by rw [h.1, h.2]
theorem ten_more {c : Int} (h : ∃ j : Nat, j ≤ 16 ∧ c = 10 ^ j) (hc : c < 10000000000000000) : ∃ j : Nat, j ≤ 16 ∧ 10 * c = 10 ^ j := by
  obtain ⟨j, hj, rfl⟩ := h
  refine ⟨j + 1, ?_, by rw [Int.pow_succ, Int.mul_comm]⟩
  rcases (by omega : j = 16 ∨ j < 16) with rfl | h
  · exact absurd hc (by decide)
  · omega
theorem byte_yes {b c : UInt8} (h : b = c) {n : Int} (hn : (c.toNat : Int) = n) : ((b.toNat : Int) == n) = true := by rw [h, hn]; simp
theorem byte_no {b c : UInt8} (h : ¬ b = c) {n : Int} (hn : (c.toNat : Int) = n) : ((b.toNat : Int) == n) = false := by
  subst hn
  simp only [beq_eq_false_iff_ne, ne_eq]
  exact fun e => h (UInt8.toNat_inj.1 (by omega))
end Go.Proofs.YtcgbbbcanmkcbaaDoor
