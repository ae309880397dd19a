/- Texts of small numbers and of formats. No condition: contracts for the walks of the laws. -/
import Derived.Test.YtidnnnjjpjadlaaGreatDoorFmt
import Derived.Test.YtidnnnjjpjadlaaGreatDoorShelf
import Derived.LoopN
import Derived.Laws.BytesArg
import Derived.Lib.ItoaNum
namespace Go.Proofs.YtidnnnjjpjadlaaGreatDoor
open Go.ChangeShapes Go.WideShapes Go.ChangeAt Go.RowKit

/-- The decimal digits of n. -/
def dec (n : Int) : List UInt8 := Lib.decDigits n.toNat
/-- A string of these bytes. -/
def sOf (l : List UInt8) : ByteArray := ⟨l.toArray⟩
theorem sOf_app (a b : List UInt8) : sOf a ++ sOf b = sOf (a ++ b) := by
  apply ByteArray.ext
  apply Array.toList_inj.1
  simp [sOf]
theorem sOf_inj {a b : List UInt8} (h : sOf a = sOf b) : a = b := by
  have := congrArg (fun x : ByteArray => x.data.toList) h
  simpa [sOf] using this
theorem dec_one {n : Int} (h1 : 0 ≤ n) (h2 : n ≤ 9) : dec n = [UInt8.ofNat (48 + n % 10).toNat] := by
  unfold dec
  rw [Lib.decDigits_one (by omega)]
  congr 2
  omega
theorem dec_more {n : Int} (h : 9 < n) : dec n = dec (n / 10) ++ [UInt8.ofNat (48 + n % 10).toNat] := by
  unfold dec
  rw [Lib.decDigits, dif_neg (by omega)]
  have e : (n / 10).toNat = n.toNat / 10 := by omega
  rw [e]
  congr 3
  omega
theorem ret_str {a b : ByteArray} (h : a = b) : Ending.returned (.string a) = Ending.returned (.string b) := h ▸ rfl
theorem snum (v : Int) : strOfNums [v] = sOf [UInt8.ofNat v.toNat] := rfl
theorem one_byte (w : World) (v : Int) (g : Nat) (hg : g = w.heap.size) : (convert 22 9 (.slice (some ⟨g, 0, none⟩) 1 1)).run Tryz.prog (w.alloc (.cells #[.int .u8 v] 5)) = .ok (.string (strOfNums [v])) (w.alloc (.cells #[.int .u8 v] 5)) := by
  subst hg
  exact run_convert_bytes_arg _ 22 5 Tryz.underlying22 Tryz.underlying5 w.heap.size 0 1 1 [v] rfl (fun i hi => by
    obtain rfl : i = 0 := by omega
    rw [World.cell?_alloc_mark]; rfl) 9 Tryz.underlying9
set_option maxRecDepth 100000 in
set_option maxHeartbeats 1000000 in
theorem num1_spec (n : Int) (w : World) (h1 : 0 ≤ n) (h2 : n ≤ 9) : Calls Tryz.prog 72 #[.int .i64 n] w fun e w' => e = .returned (.string (sOf (dec n))) ∧ Below w.heap.size w w' := by
  have kc0 := one_byte w (48 + n % 10) (w.heap.size) (by rfl)
  have HE0 := Lib.hid (dec_one (n := n) (by omega) (by omega))
  go_enter Tryz.func72, Tryz.ntmps72
  go_wp2
  refine wp_loop_rounds 1 ?_
  rw [rounds_succ]
  go_wp2
  go_ret
  exact ⟨ret_str (by rw [HE0.out]; first | rfl | (simp only [snum, sOf_app]; rfl)), (by repeat (first | (with_reducible exact Below.refl _ _) | (with_reducible refine bl_alloc ?_ _)))⟩
set_option maxRecDepth 100000 in
set_option maxHeartbeats 1000000 in
theorem num2_spec (n : Int) (w : World) (h1 : 10 ≤ n) (h2 : n ≤ 99) : Calls Tryz.prog 72 #[.int .i64 n] w fun e w' => e = .returned (.string (sOf (dec n))) ∧ Below w.heap.size w w' := by
  have kc0 := one_byte w (48 + n % 10) (w.heap.size) (by rfl)
  have HE0 := Lib.hid (dec_more (n := n) (by omega))
  have kc1 := one_byte (w.alloc (.cells #[.int .u8 (48 + n % 10)] 5)) (48 + n / 10 % 10) (w.heap.size + 1) (by simp only [World.size_alloc])
  have HE1 := Lib.hid (dec_one (n := n / 10) (by omega) (by omega))
  go_enter Tryz.func72, Tryz.ntmps72
  go_wp2
  refine wp_loop_rounds 2 ?_
  rw [rounds_succ]
  go_wp2
  rw [rounds_succ]
  go_wp2
  go_ret
  exact ⟨ret_str (by rw [HE0.out, HE1.out]; first | rfl | (simp only [snum, sOf_app]; rfl)), (by repeat (first | (with_reducible exact Below.refl _ _) | (with_reducible refine bl_alloc ?_ _)))⟩
set_option maxRecDepth 100000 in
set_option maxHeartbeats 1000000 in
theorem num3_spec (n : Int) (w : World) (h1 : 100 ≤ n) (h2 : n ≤ 999) : Calls Tryz.prog 72 #[.int .i64 n] w fun e w' => e = .returned (.string (sOf (dec n))) ∧ Below w.heap.size w w' := by
  have kc0 := one_byte w (48 + n % 10) (w.heap.size) (by rfl)
  have HE0 := Lib.hid (dec_more (n := n) (by omega))
  have kc1 := one_byte (w.alloc (.cells #[.int .u8 (48 + n % 10)] 5)) (48 + n / 10 % 10) (w.heap.size + 1) (by simp only [World.size_alloc])
  have HE1 := Lib.hid (dec_more (n := n / 10) (by omega))
  have kc2 := one_byte ((w.alloc (.cells #[.int .u8 (48 + n % 10)] 5)).alloc (.cells #[.int .u8 (48 + n / 10 % 10)] 5)) (48 + n / 10 / 10 % 10) (w.heap.size + 2) (by simp only [World.size_alloc])
  have HE2 := Lib.hid (dec_one (n := n / 10 / 10) (by omega) (by omega))
  go_enter Tryz.func72, Tryz.ntmps72
  go_wp2
  refine wp_loop_rounds 3 ?_
  rw [rounds_succ]
  go_wp2
  rw [rounds_succ]
  go_wp2
  rw [rounds_succ]
  go_wp2
  go_ret
  exact ⟨ret_str (by rw [HE0.out, HE1.out, HE2.out]; first | rfl | (simp only [snum, sOf_app]; rfl)), (by repeat (first | (with_reducible exact Below.refl _ _) | (with_reducible refine bl_alloc ?_ _)))⟩
set_option maxRecDepth 100000 in
set_option maxHeartbeats 1000000 in
theorem num4_spec (n : Int) (w : World) (h1 : 1000 ≤ n) (h2 : n ≤ 9999) : Calls Tryz.prog 72 #[.int .i64 n] w fun e w' => e = .returned (.string (sOf (dec n))) ∧ Below w.heap.size w w' := by
  have kc0 := one_byte w (48 + n % 10) (w.heap.size) (by rfl)
  have HE0 := Lib.hid (dec_more (n := n) (by omega))
  have kc1 := one_byte (w.alloc (.cells #[.int .u8 (48 + n % 10)] 5)) (48 + n / 10 % 10) (w.heap.size + 1) (by simp only [World.size_alloc])
  have HE1 := Lib.hid (dec_more (n := n / 10) (by omega))
  have kc2 := one_byte ((w.alloc (.cells #[.int .u8 (48 + n % 10)] 5)).alloc (.cells #[.int .u8 (48 + n / 10 % 10)] 5)) (48 + n / 10 / 10 % 10) (w.heap.size + 2) (by simp only [World.size_alloc])
  have HE2 := Lib.hid (dec_more (n := n / 10 / 10) (by omega))
  have kc3 := one_byte (((w.alloc (.cells #[.int .u8 (48 + n % 10)] 5)).alloc (.cells #[.int .u8 (48 + n / 10 % 10)] 5)).alloc (.cells #[.int .u8 (48 + n / 10 / 10 % 10)] 5)) (48 + n / 10 / 10 / 10 % 10) (w.heap.size + 3) (by simp only [World.size_alloc])
  have HE3 := Lib.hid (dec_one (n := n / 10 / 10 / 10) (by omega) (by omega))
  go_enter Tryz.func72, Tryz.ntmps72
  go_wp2
  refine wp_loop_rounds 4 ?_
  rw [rounds_succ]
  go_wp2
  rw [rounds_succ]
  go_wp2
  rw [rounds_succ]
  go_wp2
  rw [rounds_succ]
  go_wp2
  go_ret
  exact ⟨ret_str (by rw [HE0.out, HE1.out, HE2.out, HE3.out]; first | rfl | (simp only [snum, sOf_app]; rfl)), (by repeat (first | (with_reducible exact Below.refl _ _) | (with_reducible refine bl_alloc ?_ _)))⟩
theorem num_spec (n : Int) (w : World) (h1 : 0 ≤ n) (h2 : n ≤ 9999) : Calls Tryz.prog 72 #[.int .i64 n] w fun e w' => e = .returned (.string (sOf (dec n))) ∧ Below w.heap.size w w' := by
  rcases (by omega : n ≤ 9 ∨ (10 ≤ n ∧ n ≤ 99) ∨ (100 ≤ n ∧ n ≤ 999) ∨ 1000 ≤ n) with h | ⟨h, h'⟩ | ⟨h, h'⟩ | h
  · exact num1_spec n w h1 h
  · exact num2_spec n w h h'
  · exact num3_spec n w h h'
  · exact num4_spec n w h h2
theorem sOf_size (l : List UInt8) : (sOf l).size = l.length := by simp [sOf, ByteArray.size]
theorem dec_size {n : Int} (h1 : 0 ≤ n) (h2 : n ≤ 9999) : (sOf (dec n)).size ≤ 4 := by
  rw [sOf_size]
  rcases (by omega : n ≤ 9 ∨ (10 ≤ n ∧ n ≤ 99) ∨ (100 ≤ n ∧ n ≤ 999) ∨ 1000 ≤ n) with h | ⟨h, h'⟩ | ⟨h, h'⟩ | h
  · rw [dec_one h1 h]; simp
  · rw [dec_more (by omega), dec_one (by omega) (by omega)]; simp
  · rw [dec_more (by omega), dec_more (by omega), dec_one (by omega) (by omega)]; simp
  · rw [dec_more (by omega), dec_more (by omega), dec_more (by omega), dec_one (by omega) (by omega)]; simp
/-- The text of a format. -/
def fText (p q : Int) : List UInt8 := if fmtB p q = true then dec p ++ [46] ++ dec q else []
theorem fText_in {p q : Int} (h : fmtB p q = true) : sOf (dec p) ++ ⟨#[46]⟩ ++ sOf (dec q) = sOf (fText p q) := by
  unfold fText
  rw [if_pos h, ← sOf_app, ← sOf_app]; rfl
theorem fText_out {p q : Int} (h : fmtB p q = false) : (⟨#[]⟩ : ByteArray) = sOf (fText p q) := by
  unfold fText
  rw [if_neg (by rw [h]; decide)]; rfl
theorem InF.below {w w' w2 : World} {f : Nat} {p q : Int} (h : InF w f p q w') (h2 : Below w'.heap.size w' w2) : InF w f p q w2 := ⟨bl_behind h2 h.1, h.2.below h2 h.2.lt⟩
theorem itoa_dec (n : Int) (w : World) (h1 : 0 ≤ n) (h2 : n ≤ 99) : Calls Tryz.prog 44 #[.int .i64 n] w fun e w' => e = .returned (.string (sOf (dec n))) ∧ w' = w := by
  have h := Tryz.strconv_Itoa_small n.toNat (by omega) w
  rw [show ((n.toNat : Nat) : Int) = n by omega] at h
  exact h
set_option maxRecDepth 100000 in
set_option maxHeartbeats 4000000 in
theorem ft_impl (p q : Int) (w : World) : Calls Tryz.prog 86 #[.agg #[.int .i64 p, .int .i64 q]] w fun e w' => e = .returned (.string (sOf (fText p q))) ∧ Below w.heap.size w w' := by
  rcases hv : fmtB p q
  · have HE := Lib.hid (fText_out hv)
    go_enter Tryz.func86, Tryz.ntmps86
    go_wp2_with (first | (go_at_call 75; refine (fmvb_impl hv _).mono ?_; rintro e w' ⟨rfl, mm, rfl⟩))
    go_ret
    exact ⟨ret_str HE.out, (by repeat (first | (with_reducible exact Below.refl _ _) | (with_reducible refine below_drewN ?_ _) | (with_reducible refine bl_alloc ?_ _)))⟩
  · obtain ⟨h1, h2, h3, h4⟩ := fmtB_mk hv
    have HE := Lib.hid (fText_in hv)
    have z1 := dec_size (n := p) (by omega) (by omega)
    have z2 := dec_size (n := q) (by omega) (by omega)
    go_enter Tryz.func86, Tryz.ntmps86
    go_wp2_with (first | (go_at_call 75; refine (fmvb_impl hv _).mono ?_; rintro e w' ⟨rfl, mm, rfl⟩))
    refine wp_region_quietC (C := InF w w.heap.size p q) (by kernel_rfl) (by kernel_rfl) ?_ ?_
    · exact ⟨Below.drew (by repeat (first | (with_reducible exact Below.refl _ _) | (with_reducible refine below_drewN ?_ _) | (with_reducible refine bl_alloc ?_ _))), Blk.drew (Blk.drewN (Blk.alloc (Blk.new _ _ _) _) _)⟩
    repeat
      (refine wpQuiet_step (fun K hK => ?_)
       go_simp
       first
         | (refine hK _ ?_; clear hK K)
         | (apply Exists.intro
            refine ⟨fun w' hw' => ?_, hK _ ?_⟩
            first
              | (obtain ⟨c0, c1, -, -, lz⟩ := blk2 hw'.2; go_simp; rfl)
              | (first | (go_at_call 44; refine (itoa_dec _ _ (by omega) (by omega)).mono ?_; rintro e w2 ⟨rfl, rfl⟩; exact ⟨rfl, hw'⟩) | (go_simp; rw [if_neg (by first | omega | (simp only [ByteArray.size_append]; go_simp; omega))]; exact ⟨rfl, rfl⟩))
            clear hK K))
    refine wpQuiet_nil ?_
    intro w2 hw2
    go_wp2_with fail
    go_ret
    exact ⟨ret_str HE.out, hw2.1⟩
set_option maxRecDepth 100000 in
set_option maxHeartbeats 4000000 in
theorem ft_spec (p q : Int) (w : World) : Calls Tryz.prog 53 #[.agg #[.int .i64 p, .int .i64 q]] w fun e w' => e = .returned (.string (sOf (fText p q))) ∧ Below w.heap.size w w' := by
  rcases hv : fmtB p q
  · have HE := Lib.hid (fText_out hv)
    go_enter Tryz.func53, Tryz.ntmps53
    go_wp2_with (first | (go_at_call 64; refine (fmvb_spec hv _).mono ?_; rintro e w' ⟨rfl, mm, rfl⟩))
    go_ret
    exact ⟨ret_str HE.out, (by repeat (first | (with_reducible exact Below.refl _ _) | (with_reducible refine below_drewN ?_ _) | (with_reducible refine bl_alloc ?_ _)))⟩
  · obtain ⟨h1, h2, h3, h4⟩ := fmtB_mk hv
    have HE := Lib.hid (fText_in hv)
    have z1 := dec_size (n := p) (by omega) (by omega)
    have z2 := dec_size (n := q) (by omega) (by omega)
    go_enter Tryz.func53, Tryz.ntmps53
    go_wp2_with (first | (go_at_call 64; refine (fmvb_spec hv _).mono ?_; rintro e w' ⟨rfl, mm, rfl⟩))
    refine wp_region_quietC (C := InF w w.heap.size p q) (by kernel_rfl) (by kernel_rfl) ?_ ?_
    · exact ⟨Below.drew (by repeat (first | (with_reducible exact Below.refl _ _) | (with_reducible refine below_drewN ?_ _) | (with_reducible refine bl_alloc ?_ _))), Blk.drew (Blk.drewN (Blk.alloc (Blk.new _ _ _) _) _)⟩
    repeat
      (refine wpQuiet_step (fun K hK => ?_)
       go_simp
       first
         | (refine hK _ ?_; clear hK K)
         | (apply Exists.intro
            refine ⟨fun w' hw' => ?_, hK _ ?_⟩
            first
              | (obtain ⟨c0, c1, -, -, lz⟩ := blk2 hw'.2; go_simp; rfl)
              | (first | (go_at_call 72; refine (num_spec _ _ (by omega) (by omega)).mono ?_; rintro e w2 ⟨rfl, h2⟩; exact ⟨rfl, hw'.below h2⟩) | (go_simp; rw [if_neg (by first | omega | (simp only [ByteArray.size_append]; go_simp; omega))]; exact ⟨rfl, rfl⟩))
            clear hK K))
    refine wpQuiet_nil ?_
    intro w2 hw2
    go_wp2_with fail
    go_ret
    exact ⟨ret_str HE.out, hw2.1⟩
end Go.Proofs.YtidnnnjjpjadlaaGreatDoor
