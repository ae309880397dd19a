/- NearFractions of the program. No condition: contract for the walks of the laws. -/
import Derived.Test.YtdpekaejklmomaaNrS
namespace Go.Proofs.Ytdpekaejklmomaa
open Go.ChangeShapes Go.WideShapes Go.ChangeAt Go.RowKit

attribute [local go_sem] alloc_drewN' setCell_drewN'

theorem made2 {i0 : TypeInfo} (w : World) (len : Nat) (hm : len ≤ 1048576) (hi : Try.prog.info? 41 = some i0) (hz0 : i0.zero = some (.agg #[.int .i64 0, .int .i64 0])) (hz1 : i0.size = 2) (hz2 : i0.bytes = 16) :
    (Instr.makeSlice 50 (.int .i64 (len : Int)) (.int .i64 (len : Int))).run Try.prog w = .ok (.slice (some ⟨w.heap.size, 0, none⟩) len len) (w.alloc (.cells (madeCells #[.int .i64 0, .int .i64 0] (len * 2)) 41)) := by
  have k := run_make (P := Try.prog) w 50 41 i0 (.agg #[.int .i64 0, .int .i64 0]) Try.underlying50 hi hz0 .i64 .i64 (len : Int) (len : Int) (by omega) (Int.le_refl _) (by rw [hz2]; omega) (by omega)
  rw [hz1] at k
  simp only [Int.toNat_natCast] at k
  exact k
theorem made2_list (m : Nat) : (madeCells #[Value.int .i64 0, Value.int .i64 0] m).toList = (List.replicate m (0 : Int)).map (Value.int .i64) := by
  refine List.ext_getElem (by simp [madeCells]) fun j h1 h2 => ?_
  have : j % 2 = 0 ∨ j % 2 = 1 := by omega
  rcases this with h | h <;> simp [madeCells, h]
theorem made2_row (w : World) (len : Nat) (hm : len ≤ 1048576) : Row2 (w.alloc (.cells (madeCells #[.int .i64 0, .int .i64 0] (len * 2)) 41)) w.heap.size (.slice (some ⟨w.heap.size, 0, none⟩) len len) len (List.replicate (len * 2) 0) := by
  have k := World.ownsRow_lit (base := w.heap.size) (e := 41) (size := 2) w (madeCells #[.int .i64 0, .int .i64 0] (len * 2)) len (Nat.le_refl _) (by unfold maxLen; omega) (by rw [size_madeCells])
  unfold Row2
  rw [← made2_list]
  exact k
/-- What the rounds hold. -/
def NiI (w : World) (L : Nat) (xs : List Int) (u : Value) (n : Nat) (zs : List Int) (a b c d : Int) (wr : World) : Prop :=
  Row2 wr w.heap.size (.slice (some ⟨L, 0, none⟩) n n) n zs ∧ Row wr w.heap.size u xs ∧ Blk wr (L + 1) 41 #[.int .i64 a, .int .i64 b] ∧ Blk wr (L + 2) 41 #[.int .i64 c, .int .i64 d] ∧ Below w.heap.size w wr
section
variable {w wr wx : World} {L n : Nat} {xs zs : List Int} {u : Value} {a b c d : Int}
theorem NiI.below (h : NiI w L xs u n zs a b c d wr) (hb : Below wr.heap.size wr wx) : NiI w L xs u n zs a b c d wx := by
  obtain ⟨h1, h2, h3, h4, h5⟩ := h
  exact ⟨h1.below hb, h2.below hb, h3.below hb h3.lt, h4.below hb h4.lt, bl_behind hb h5⟩
theorem NiI.stored (h : NiI w L xs u n zs a b c d wr) (hu : ∀ g, u.ownBlock = some g → g < L) (hL : w.heap.size ≤ L) (t l : Int) : NiI w L xs u n zs c d t l ((((wr.setCell ⟨L + 1, 0, none⟩ (.int .i64 c)).setCell ⟨L + 1, 1, none⟩ (.int .i64 d)).setCell ⟨L + 2, 0, none⟩ (.int .i64 t)).setCell ⟨L + 2, 1, none⟩ (.int .i64 l)) := by
  obtain ⟨h1, h2, h3, h4, h5⟩ := h
  have n1 : (Value.slice (some ⟨L, 0, none⟩) n n).ownBlock ≠ some (L + 1) := fun e => by injection e with e; dsimp only at e; omega
  have n2 : (Value.slice (some ⟨L, 0, none⟩) n n).ownBlock ≠ some (L + 2) := fun e => by injection e with e; dsimp only at e; omega
  have m1 : u.ownBlock ≠ some (L + 1) := fun e => by have := hu _ e; omega
  have m2 : u.ownBlock ≠ some (L + 2) := fun e => by have := hu _ e; omega
  refine ⟨(((h1.not n1 _).not n1 _).not n2 _).not n2 _, (((h2.not m1 _).not m1 _).not m2 _).not m2 _, (((h3.set 0 (.int .i64 c)).set 1 (.int .i64 d)).far ?_ _).far ?_ _, (((h4.far ?_ _).far ?_ _).set 0 (.int .i64 t)).set 1 (.int .i64 l), (((h5.setCell ?_ _).setCell ?_ _).setCell ?_ _).setCell ?_ _⟩
  all_goals (dsimp only; omega)
theorem NiI.put (h : NiI w L xs u n zs a b c d wr) (hu : ∀ g, u.ownBlock = some g → g < L) (hL : w.heap.size ≤ L) (i j : Nat) (t l : Int) : NiI w L xs u n ((zs.set i t).set j l) a b c d ((wr.setCell ⟨L, i, none⟩ (.int .i64 t)).setCell ⟨L, j, none⟩ (.int .i64 l)) := by
  obtain ⟨h1, h2, h3, h4, h5⟩ := h
  have m1 : u.ownBlock ≠ some L := fun e => by have := hu _ e; omega
  refine ⟨((h1.put i t).1.put j l).1, (h2.not m1 _).not m1 _, (h3.far ?_ _).far ?_ _, (h4.far ?_ _).far ?_ _, (h5.setCell ?_ _).setCell ?_ _⟩
  all_goals (dsimp only; omega)
end
set_option maxRecDepth 100000 in
set_option maxHeartbeats 16000000 in
theorem near_impl (a0 b0 : Int) (w : World) : Calls Try.prog 37 #[.agg #[.int .i64 a0, .int .i64 b0]] w (Row2Post w (frChain a0 b0).length (nrL (frChain a0 b0) (frChain a0 b0).length)) := by
  obtain ⟨i0, hi, hz0, hz1, hz2⟩ := (info_parts (P := Try.prog) (e := 41) (z := .agg #[.int .i64 0, .int .i64 0]) (size := 2) (bytes := 16) (by kernel_rfl) : ∃ i, Try.prog.info? 41 = some i ∧ i.zero = some (.agg #[.int .i64 0, .int .i64 0]) ∧ i.size = 2 ∧ i.bytes = 16)
  have HNX := Lib.hid (fun k a b c d h hk => nr_next (a0 := a0) (b0 := b0) (k := k) (a := a) (b := b) (c := c) (d := d) h hk)
  have HS := Lib.hid (cvIs_start (frChain a0 b0))
  have hle := chain_le a0 b0
  go_enter Try.func37, Try.ntmps37
  go_wp2_with fail
  refine (chain_impl _ _ _).mono ?_
  rintro e w1 ⟨u, rfl, ru, hb⟩
  have hL : w.heap.size + 1 ≤ w1.heap.size := by have := hb.size; simp at this; omega
  have hB : Below w.heap.size w w1 := unalloc hb
  have hR : Row w1 w.heap.size u (frChain a0 b0) := ru.lower (by simp)
  have hU : ∀ g, u.ownBlock = some g → g < w1.heap.size := fun g hg => (World.ownsRow.lt hR g hg).2
  generalize frChain a0 b0 = xs at *
  clear ru hb
  obtain ⟨ao, cap, rfl, hc, hlc, -⟩ := hR.open_
  generalize hn : xs.length = n at *
  have HN := Lib.hid hn
  have HR := Lib.hid hR
  have HB := Lib.hid hB
  have HU := Lib.hid hU
  clear hn hR hB hU
  rcases Nat.eq_zero_or_pos n with hn0 | hn0
  · subst hn0
    clear hi hz0 hz1 hz2
    go_wp2_with fail
    go_ret
    exact ⟨_, rfl, Row2.nil _ _, HB.out⟩
  · have hni : (0 : Int) < (n : Int) := by omega
    have hnz : ((n : Int) == 0) = false := by simp; omega
    have kmk := made2 w1 n (by omega) hi hz0 hz1 hz2
    have HZ0 := Lib.hid ((made2_row w1 n (by omega)).lower (by omega : w.heap.size ≤ w1.heap.size))
    rw [← nrZ_zero xs] at HZ0
    clear hi hz0 hz1 hz2
    generalize madeCells #[.int .i64 0, .int .i64 0] (n * 2) = cs at *
    have HI : Hid (NiI w w1.heap.size xs (.slice ao n cap) n (nrZ xs n 0) 0 1 1 0 (((w1.alloc (.cells cs 41)).alloc (.cells #[.int .i64 0, .int .i64 1] 41)).alloc (.cells #[.int .i64 1, .int .i64 0] 41))) := Lib.hid ⟨(HZ0.out.alloc _).alloc _, ((HR.out.alloc _).alloc _).alloc _, Blk.alloc (Blk.newAt (by simp)) _, Blk.newAt (by simp), bl_alloc (bl_alloc (bl_alloc HB.out _) _) _⟩
    go_wp2_with fail
    go_loopw [21] (fun i wr => ∃ (k : Nat) (a b c d : Int), i = .int .i64 (k : Int) ∧ k ≤ n ∧ Hid (NiI w w1.heap.size xs (.slice ao n cap) n (nrZ xs n k) a b c d wr) ∧ Hid (CvIs xs k a b c d)) (fun i _ => n - (RowKit.intOf i).toNat)
    case atStart => exact ⟨0, 0, 1, 1, 0, rfl, by omega, HI, HS⟩
    case round =>
      obtain ⟨k, a, b, c, d, rfl, hk, HNR, HK⟩ := hrel
      have hnr := HNR.out
      obtain ⟨h1, hrow, hb1, hb2, hbl⟩ := hnr
      obtain ⟨ao', cap', e, -, -, ho⟩ := hrow.open_
      rw [HN.out] at ho e
      simp only [Value.slice.injEq, true_and] at e
      obtain ⟨rfl, rfl⟩ := e
      obtain ⟨g, rfl, cA, -⟩ := ho (by omega)
      obtain ⟨q10, q11, f10, f11, l1⟩ := blk2 hb1
      obtain ⟨q20, q21, f20, f21, l2⟩ := blk2 hb2
      rcases Nat.lt_or_ge k n with hlt | hge
      · have ca := cA k hlt
        obtain ⟨-, -, hzb, -⟩ := HNX.out k a b c d HK.out hlt
        obtain ⟨-, hab, hbb, hcb, hdb⟩ := HK.out
        have HK2 := Lib.hid (HNX.out k a b c d HK.out hlt).1
        have HZ := Lib.hid ((HNX.out k a b c d HK.out hlt).2.2.2 n hlt)
        generalize xs.getD k 0 = z at *
        clear ho cA hrow hb1 hb2 hbl h1
        have hki : (k : Int) < (n : Int) := by omega
        go_wp2_with fail
        go_cut [33] (fun s wx => NiI w w1.heap.size xs (.slice (some ⟨g, 0, none⟩) n cap) n (nrZ xs n k) c d (z * c + a) (z * d + b) wx)
        case first =>
          go_region_with
            (first | (go_at_call 59; refine (next_impl _ _ _ _ _ _ (by omega) (by omega) (by omega) (by omega) (by omega)).mono ?_; rintro e w' ⟨rfl, hb⟩; (repeat (replace hb := undrew hb)); (repeat (replace hb := undrewN hb)); have hj := HNR.out.below hb; have HJ := Lib.hid hj; obtain ⟨-, -, b1, b2, -⟩ := hj; obtain ⟨q10, q11, f10, f11, l1⟩ := blk2 b1; obtain ⟨q20, q21, f20, f21, l2⟩ := blk2 b2; clear b1 b2 hb))
          all_goals go_wp2_with fail
          all_goals go_meet
          all_goals exact HJ.out.stored (fun g hg => HU.out g hg) (by omega) _ _
        case rest =>
          have HJ := Lib.hid hcut
          obtain ⟨h1, -, hb1, hb2, -⟩ := hcut
          generalize z * c + a = t at *
          generalize z * d + b = l at *
          clear hab hbb hcb hdb hzb q10 q11 q20 q21 f10 f11 f20 f21 l1 l2 ca
          obtain ⟨q10, q11, f10, f11, l1⟩ := blk2 hb1
          obtain ⟨q20, q21, f20, f21, l2⟩ := blk2 hb2
          obtain ⟨ao', cap', e, -, -, ho⟩ := h1.open_
          simp only [Value.slice.injEq, true_and] at e
          obtain ⟨rfl, rfl⟩ := e
          obtain ⟨g2, e2, cA, fA⟩ := ho hn0
          injection e2 with e2
          injection e2 with e2
          subst e2
          have c0 := cA (k * 2) (by omega)
          have c1 := cA (k * 2 + 1) (by omega)
          have f0 := fA (k * 2)
          have f1 := fA (k * 2 + 1)
          have hm := HJ.out.put (fun g hg => HU.out g hg) (by omega) (k * 2) (k * 2 + 1) t l
          rw [HZ.out] at hm
          have HM := Lib.hid hm
          clear ho cA fA hm h1 hb1 hb2
          go_wp2_with fail
          go_roundw
          case rel => exact ⟨k + 1, c, d, t, l, by go_num, by omega, HM, HK2⟩
          case measure => simp [RowKit.intOf]; omega
      · have e : k = n := by omega
        subst e
        rw [nrZ_end] at h1
        have H1 := Lib.hid h1
        have H5 := Lib.hid hbl
        clear ho cA hrow hb1 hb2 hbl h1
        go_wp2_with fail
        go_ret
        exact ⟨_, rfl, H1.out, H5.out⟩
end Go.Proofs.Ytdpekaejklmomaa
