/- ReadStored of the reference. No condition: contracts for the walks of the laws. -/
import Derived.Test.YtidnnnjjpjadlaaGreatDoorRs
import Derived.Deep.CutBlock
namespace Go.Proofs.YtidnnnjjpjadlaaGreatDoor
open Go.ChangeShapes Go.WideShapes Go.ChangeAt Go.RowKit

/-- What the rounds of l24Scale hold. -/
theorem sc_step {p c o a : Int} {j : Nat} (h : p * 2 ^ j = o * c + a) : (c ≤ 2 * a → p * 2 ^ (j + 1) = (2 * o + 1) * c + (2 * a - c)) ∧ p * 2 ^ (j + 1) = (2 * o) * c + 2 * a := by
  have e : p * 2 ^ (j + 1) = 2 * (p * 2 ^ j) := by rw [Int.pow_succ, ← Int.mul_assoc, Int.mul_comm]
  rw [e, h, Int.add_mul, Int.mul_assoc]
  omega
theorem sc_end {p c o a : Int} {k : Nat} (h : p * 2 ^ k = o * c + a) (h1 : 0 ≤ a) (h2 : a < c) : o = p * 2 ^ k / c := by
  rw [h, Int.add_comm, Int.add_mul_ediv_right _ _ (by omega), Int.ediv_eq_zero_of_lt h1 h2]
  omega
set_option maxHeartbeats 2000000 in
theorem scale_any (p c k : Int) (w : World) (hp : 0 ≤ p) (hpc : p < c) (hc : c ≤ 10000000000000000) (hk : 0 ≤ k) (hk2 : k ≤ 16) : Calls Tryz.prog 65 #[.int .i64 p, .int .i64 c, .int .i64 k] w fun e w' => e = .returned (.int .i64 (p * 2 ^ k.toNat / c)) ∧ w = w' := by
  go_enter Tryz.func65, Tryz.ntmps65
  go_wp2_with fail
  go_loop [0, 7, 8] (fun a o j => ∃ (x y : Int) (n : Nat), a = .int .i64 x ∧ o = .int .i64 y ∧ j = .int .i64 (n : Int) ∧ (n : Int) ≤ k ∧ 0 ≤ x ∧ x < c ∧ 0 ≤ y ∧ y + 1 ≤ 2 ^ n ∧ Hid (p * 2 ^ n = y * c + x)) (fun _ _ j => (k - RowKit.intOf j).toNat)
  case atStart => exact ⟨p, 0, 0, rfl, rfl, rfl, by omega, hp, hpc, by omega, by simp, Lib.hid (by simp)⟩
  case round =>
    obtain ⟨x, y, n, rfl, rfl, rfl, hn, x0, x1, y0, y1, HX⟩ := hrel
    rcases (by omega : (n : Int) = k ∨ (n : Int) < k) with he | hlt
    · have HE := Lib.hid (show y = p * 2 ^ k.toNat / c by
        have := sc_end HX.out x0 x1
        rw [this, show k.toNat = n by omega])
      have hge : k ≤ (n : Int) := by omega
      clear he y1
      go_wp2_with fail
      go_ret
      exact ⟨ret_int HE.out, rfl⟩
    · have hs := sc_step HX.out
      have S1 := Lib.hid hs.1
      have S2 := Lib.hid hs.2
      have hy := two_le (show n ≤ 16 by omega)
      have e2 : (2 : Int) ^ (n + 1) = 2 * 2 ^ n := by rw [Int.pow_succ, Int.mul_comm]
      have hy2 : y ≤ 65536 := by omega
      have E2 := Lib.hid e2
      have Y1 := Lib.hid y1
      clear hs e2 hy y1
      rcases (by omega : c ≤ 2 * x ∨ 2 * x < c) with h | h
      · go_wp2_with fail
        go_round
        case rel => exact ⟨2 * x - c, 2 * y + 1, n + 1, rfl, rfl, by go_num, by omega, by omega, by omega, by omega, by rw [E2.out]; have := Y1.out; omega, Lib.hid (S1.out h)⟩
        case measure => simp [RowKit.intOf]; omega
      · go_wp2_with fail
        go_round
        case rel => exact ⟨2 * x, 2 * y, n + 1, rfl, rfl, by go_num, by omega, by omega, by omega, by omega, by rw [E2.out]; have := Y1.out; omega, Lib.hid S2.out⟩
        case measure => simp [RowKit.intOf]; omega

theorem drop_get {s : ByteArray} {a : Nat} (h : a < s.size) : s.data.toList.drop a = s[a] :: s.data.toList.drop (a + 1) := by
  rw [List.drop_eq_getElem_cons (by simpa using h)]; rfl
/-- The rounds over the whole part. -/
def WRel (l : List UInt8) (a : Nat) (x : Int) : Prop := tkW (l.drop a) x = psW l
theorem w_more {s : ByteArray} {a : Nat} {x : Int} (h : WRel s.data.toList a x) (ha : a < s.size) (h1 : 48 ≤ s[a].toNat) (h2 : s[a].toNat ≤ 57) (h3 : x < 100000) : WRel s.data.toList (a + 1) (10 * x + (s[a].toNat - 48)) := by
  unfold WRel at *
  rw [drop_get ha, tkW, if_pos ⟨h1, h2, h3⟩] at h
  exact h
theorem w_stop {s : ByteArray} {a : Nat} {x : Int} (h : WRel s.data.toList a x) (ha : a < s.size) (h1 : s[a].toNat < 48 ∨ 57 < s[a].toNat ∨ 100000 ≤ x) : psW s.data.toList = (x, s.data.toList.drop a) := by
  unfold WRel at h
  rw [← h, drop_get ha, tkW, if_neg (by omega)]
theorem w_end {s : ByteArray} {a : Nat} {x : Int} (h : WRel s.data.toList a x) (ha : s.size ≤ a) : psW s.data.toList = (x, s.data.toList.drop a) := by
  unfold WRel at h
  rw [← h, List.drop_eq_nil_of_le (by simpa using ha), tkW]
/-- The rounds over the digits behind the point. -/
def PRel (l : List UInt8) (a : Nat) (x c : Int) : Prop := tkP (l.drop a) x c = psR l
theorem p_more {s : ByteArray} {a : Nat} {x c : Int} (h : PRel s.data.toList a x c) (ha : a < s.size) (h1 : 48 ≤ s[a].toNat) (h2 : s[a].toNat ≤ 57) (h3 : c < 10000000000000000) : PRel s.data.toList (a + 1) (10 * x + (s[a].toNat - 48)) (10 * c) := by
  unfold PRel at *
  rw [drop_get ha, tkP, if_pos ⟨h1, h2, h3⟩] at h
  exact h
theorem p_stop {s : ByteArray} {a : Nat} {x c : Int} (h : PRel s.data.toList a x c) (ha : a < s.size) (h1 : s[a].toNat < 48 ∨ 57 < s[a].toNat ∨ 10000000000000000 ≤ c) : psR s.data.toList = (x, c, s.data.toList.drop a) := by
  unfold PRel at h
  rw [← h, drop_get ha, tkP, if_neg (by omega)]
theorem p_end {s : ByteArray} {a : Nat} {x c : Int} (h : PRel s.data.toList a x c) (ha : s.size ≤ a) : psR s.data.toList = (x, c, s.data.toList.drop a) := by
  unfold PRel at h
  rw [← h, List.drop_eq_nil_of_le (by simpa using ha), tkP]
theorem p_start {s : ByteArray} {a : Nat} {x : Int} (h : psW s.data.toList = (x, s.data.toList.drop a)) (ha : a < s.size) (hb : s[a] = 46) : PRel s.data.toList (a + 1) 0 1 := by
  unfold PRel psR
  rw [h, drop_get ha]
  unfold psPart
  simp [hb]
theorem p_none {s : ByteArray} {a : Nat} {x : Int} (h : psW s.data.toList = (x, s.data.toList.drop a)) (hb : ∀ ha : a < s.size, s[a] ≠ 46) : psR s.data.toList = (0, 1, s.data.toList.drop a) := by
  unfold psR
  rw [h]
  dsimp only
  by_cases ha : a < s.size
  · rw [drop_get ha]
    unfold psPart
    simp [hb ha]
  · rw [List.drop_eq_nil_of_le (by simp; omega)]
    rfl
def InQ (w : World) (p q : Int) (wx : World) : Prop := Blk wx w.heap.size 24 #[.int .i64 p, .int .i64 q] ∧ Below w.heap.size w wx
def WCut (s : ByteArray) (w : World) (p q : Int) (t v : Value) (wx : World) : Prop := ∃ (a : Nat) (x : Int), t = .int .i64 (a : Int) ∧ v = .int .i64 x ∧ a ≤ s.size ∧ (0 ≤ x ∧ x ≤ 999999) ∧ psW s.data.toList = (x, s.data.toList.drop a) ∧ InQ w p q wx
def PCut (s : ByteArray) (w : World) (p q : Int) (t v u : Value) (wx : World) : Prop := ∃ (a : Nat) (x c : Int), t = .int .i64 (a : Int) ∧ v = .int .i64 x ∧ u = .int .i64 c ∧ a ≤ s.size ∧ (0 ≤ x ∧ x < c ∧ c ≤ 10000000000000000) ∧ psR s.data.toList = (x, c, s.data.toList.drop a) ∧ InQ w p q wx
theorem w_start {s : ByteArray} {a : Nat} {g : Int} (h : psSign s.data.toList = (g, s.data.toList.drop a)) : WRel s.data.toList a 0 := by
  unfold WRel psW
  rw [h]
theorem ret_rs {p q n : Int} {s : ByteArray} {o : Bool} (h : rsN p q s = n ∧ rsOk p q s = o) : Ending.returned (.tuple #[.int .i64 n, .bool o]) = Ending.returned (.tuple #[.int .i64 (rsN p q s), .bool (rsOk p q s)]) := by rw [h.1, h.2]
theorem ten_more {c : Int} (h : ∃ j : Nat, j ≤ 16 ∧ c = 10 ^ j) (hc : c < 10000000000000000) : ∃ j : Nat, j ≤ 16 ∧ 10 * c = 10 ^ j := by
  obtain ⟨j, hj, rfl⟩ := h
  refine ⟨j + 1, ?_, by rw [Int.pow_succ, Int.mul_comm]⟩
  rcases (by omega : j = 16 ∨ j < 16) with rfl | h
  · exact absurd hc (by decide)
  · omega
theorem byte_yes {b c : UInt8} (h : b = c) {n : Int} (hn : (c.toNat : Int) = n) : ((b.toNat : Int) == n) = true := by rw [h, hn]; simp
theorem byte_no {b c : UInt8} (h : ¬ b = c) {n : Int} (hn : (c.toNat : Int) = n) : ((b.toNat : Int) == n) = false := by
  subst hn
  simp only [beq_eq_false_iff_ne, ne_eq]
  exact fun e => h (UInt8.toNat_inj.1 (by omega))
end Go.Proofs.YtidnnnjjpjadlaaGreatDoor

/- ReadStored of the reference, no text. No condition: contracts for the walks of the laws. -/
namespace Go.Proofs.YtidnnnjjpjadlaaGreatDoor
open Go.ChangeShapes Go.WideShapes Go.ChangeAt Go.RowKit

set_option maxRecDepth 100000 in
set_option maxHeartbeats 32000000 in
theorem rds_bad (p q : Int) (s : ByteArray) (w : World) (hv0 : fmtB p q = false) : Calls Tryz.prog 29 #[.agg #[.int .i64 p, .int .i64 q], .string s] w fun e w' => e = .returned (.tuple #[.int .i64 (rsN p q s), .bool (rsOk p q s)]) ∧ Below w.heap.size w w' := by
  have HB := Lib.hid (Below.refl w.heap.size w)
  have Bx := Lib.hid (Blk.new w 24 #[.int .i64 p, .int .i64 q])
  obtain ⟨e1, e2⟩ := rs_no (p := p) (q := q) (s := s) (fun ⟨n, h, _⟩ => by
    obtain ⟨⟨a1, a2, a3, a4⟩, -, -⟩ := fitB_mk h
    have := fmtB_in a1 a2 a3 a4
    rw [hv0] at this; exact absurd this (by decide))
  rw [e1, e2]
  have hv := Lib.hid hv0
  clear hv0 e1 e2
  go_enter Tryz.func29, Tryz.ntmps29
  go_wp2_with (first | (go_at_call 64; refine (fmvb_spec hv.out _).mono ?_; rintro e w' ⟨rfl, mm, rfl⟩))
  go_ret2
  have hb := HB.out
  exact ⟨rfl, (by repeat' (first | (with_reducible exact Below.refl _ _) | (with_reducible assumption) | (with_reducible refine below_drewN ?_ _) | (with_reducible refine Below.drew ?_) | (with_reducible refine bl_alloc ?_ _) | (with_reducible refine bl_set ?_ ?_ _) | go_size | omega))⟩
set_option maxRecDepth 100000 in
set_option maxHeartbeats 32000000 in
theorem rds_nil (p q : Int) (s : ByteArray) (w : World) (hv0 : fmtB p q = true) (hz : s.size = 0) : Calls Tryz.prog 29 #[.agg #[.int .i64 p, .int .i64 q], .string s] w fun e w' => e = .returned (.tuple #[.int .i64 (rsN p q s), .bool (rsOk p q s)]) ∧ Below w.heap.size w w' := by
  have HB := Lib.hid (Below.refl w.heap.size w)
  have Bx := Lib.hid (Blk.new w 24 #[.int .i64 p, .int .i64 q])
  obtain ⟨h1, h2, h3, h4⟩ := fmtB_mk hv0
  have hv := Lib.hid hv0
  clear hv0
  obtain ⟨b1, b2⟩ := q16_bd h3 h4
  have hnil : s.data.toList = [] := List.eq_nil_of_length_eq_zero (by simpa using hz)
  have hs0 := (Lib.bytes_beq_iff s ⟨#[]⟩).2 (by rw [← sOf_list s, hnil]; rfl)
  have hs1 : s.toList.isEmpty = true := by rw [ByteArray.toList_eq, hnil]; rfl
  have HSG : Hid (psSign s.data.toList = (1, s.data.toList.drop 0)) := Lib.hid (by rw [hnil]; rfl)
  have HNIL := Lib.hid hnil
  have HWS := Lib.hid (w_start HSG.out)
  clear hnil
  go_enter Tryz.func29, Tryz.ntmps29
  go_upto_block 0 with (first | (go_at_call 64; refine (fmvb_spec hv.out _).mono ?_; rintro e w' ⟨rfl, mm, rfl⟩))
  go_cut [6, 8] (fun t v wx => WCut s w p q t v wx)
  case first =>
    go_wp2_with fail
    go_loop [6, 8] (fun t v => ∃ (a : Nat) (x : Int), t = .int .i64 (a : Int) ∧ v = .int .i64 x ∧ a ≤ s.size ∧ 0 ≤ x ∧ x ≤ 999999 ∧ Hid (WRel s.data.toList a x)) (fun t _ => (s.size - RowKit.intOf t).toNat)
    case atStart => exact ⟨0, 0, rfl, rfl, by omega, by omega, by omega, HWS⟩
    case round =>
      obtain ⟨a, x, rfl, rfl, ha, x0, x1, HW⟩ := hrel
      have HQ : ∀ (a : Nat) (x : Int), a ≤ s.size → 0 ≤ x → x ≤ 999999 → psW s.data.toList = (x, s.data.toList.drop a) → WCut s w p q (.int .i64 ((a : Nat) : Int)) (.int .i64 x) (((w.alloc (.cells #[.int .i64 p, .int .i64 q] 24)).alloc (.cells #[.int .i64 p, .int .i64 q] 24)).drewN mm) := fun _ _ h1 h2 h3 h4 => ⟨_, _, rfl, rfl, h1, ⟨h2, h3⟩, h4, ((Blk.new _ _ _).alloc _).drewN _, (by repeat' (first | (with_reducible exact Below.refl _ _) | (with_reducible assumption) | (with_reducible refine below_drewN ?_ _) | (with_reducible refine Below.drew ?_) | (with_reducible refine bl_alloc ?_ _) | (with_reducible refine bl_set ?_ ?_ _) | go_size | omega))⟩
      have HQ := Lib.hid HQ
      by_cases hlt : a < s.size
      · omega
      · have HE := Lib.hid (w_end HW.out (by omega))
        go_wp2_with fail
        go_meet
        exact HQ.out _ _ ha x0 x1 HE.out
  case rest =>
    obtain ⟨a, y, rfl, rfl, ha, ⟨y0, y1⟩, hW, hin⟩ := hcut
    have HW := Lib.hid hW
    obtain ⟨hin1, hin2⟩ := hin
    obtain ⟨kx0, kx1, -, -, lx⟩ := blk2 hin1
    have Bx := Lib.hid hin1
    have HB := Lib.hid hin2
    clear hW hin1 hin2
    have HR := Lib.hid (p_none HW.out (fun h => by omega))
    obtain rfl : a = s.size := by omega
    obtain ⟨V, hV⟩ : ∃ V : Int, (0 : Int) * 2 ^ q.toNat / (1 : Int) = V := ⟨_, rfl⟩
    have hV0 : 0 ≤ V := by rw [← hV]; exact Int.ediv_nonneg (Int.mul_nonneg (by omega) (by omega)) (by omega)
    have hV1 : V ≤ 65536 := by
      rw [← hV]
      have : (0 : Int) * 2 ^ q.toNat / (1 : Int) < 2 ^ q.toNat + 1 := by
        rw [Int.ediv_lt_iff_lt_mul (by omega)]
        have := Int.mul_le_mul_of_nonneg_right (show (0 : Int) ≤ 1 by omega) (show 0 ≤ (2 : Int) ^ q.toNat by omega)
        rw [Int.add_mul, Int.mul_comm (2 ^ q.toNat) (1 : Int)]
        omega
      omega
    obtain ⟨N, hNN⟩ : ∃ N, 1 * (y * 2 ^ q.toNat + V) = N := ⟨_, rfl⟩
    have HPN := Lib.hid (show psN q s.data.toList = N by unfold psN; rw [HSG.out, HW.out, HR.out]; dsimp only; rw [hV, hNN])
    have hy2 := Int.mul_le_mul_of_nonneg_left b2 y0
    have hy3 := Int.mul_nonneg y0 (show 0 ≤ (2 : Int) ^ q.toNat by omega)
    have e1 : wrap64 (y * 2 ^ q.toNat) = y * 2 ^ q.toNat := wr64 (by omega) (by omega)
    have e1' : IntKind.i64.wrap (y * 2 ^ q.toNat) = y * 2 ^ q.toNat := IntWalk.i64_in _ (by omega)
    have e2 : IntKind.i64.wrap (y * 2 ^ q.toNat + V) = y * 2 ^ q.toNat + V := IntWalk.i64_in _ (by omega)
    have e3 : IntKind.i64.wrap (1 * (y * 2 ^ q.toNat + V)) = N := by rw [hNN]; exact IntWalk.i64_in _ (by omega)
    have SV := Lib.hid (show ∀ w', Calls Tryz.prog 65 #[.int .i64 0, .int .i64 1, .int .i64 q] w' fun e w'' => e = .returned (.int .i64 ((0 : Int) * 2 ^ q.toNat / (1 : Int))) ∧ w'' = w' from fun w' => (scale_any 0 1 q w' (by omega) (by omega) (by omega) h3 h4).mono fun _ _ hh => ⟨hh.1, hh.2.symm⟩)
    rw [hV] at SV
    have EN : Hid (wrap64 (y * 2 ^ q.toNat + V) = N) := Lib.hid ((wr64 (by omega) (by omega)).trans (by rw [← hNN]; omega))
    have EM : Hid (y * 2 ^ q.toNat + V = N) := Lib.hid (by rw [← hNN]; omega)
    clear hV hNN hy2 hy3 hV0 hV1
    go_wp2_with fail
    go_quiet ((go_at_call 65; exact Calls.quiet_of_same (SV.out _)))
    clear e1 e1' e2 e3
    have hpn := psBad_rs (p := p) (q := q) (s := s) (fun h => h.2.1 HNIL.out)
    have HPNN := Lib.hid hpn
    clear hpn
    go_wp2_with fail
    go_ret2
    exact ⟨ret_rs HPNN.out, (by have hb := HB.out; exact (by repeat' (first | (with_reducible exact Below.refl _ _) | (with_reducible assumption) | (with_reducible refine below_drewN ?_ _) | (with_reducible refine Below.drew ?_) | (with_reducible refine bl_alloc ?_ _) | (with_reducible refine bl_set ?_ ?_ _) | go_size | omega)))⟩
end Go.Proofs.YtidnnnjjpjadlaaGreatDoor
