/- NearFractions of the reference. No condition: contract for the walks of the laws. -/
import Derived.Test.YtdpekaejklmomaaRow2
import Derived.Deep.RegionHeld3
import Derived.Deep.AppendLies
namespace Go.Proofs.Ytdpekaejklmomaa
open Go.ChangeShapes Go.WideShapes Go.ChangeAt Go.RowKit

attribute [local go_sem] alloc_drewN' setCell_drewN'

/-- What the rounds hold: the row so far, the quotients, the two last fractions. -/
def NrI (w : World) (L : Nat) (xs : List Int) (u : Value) (k : Nat) (zs : List Int) (a b c d : Int) (v : Value) (wr : World) : Prop :=
  Row2 wr (w.heap.size + 1) v k zs ∧ (∀ g, v.ownBlock = some g → g = w.heap.size + 1 ∨ L + 1 < g) ∧ Row wr (w.heap.size + 2) u xs ∧ Blk wr L 41 #[.int .i64 c, .int .i64 d] ∧ Blk wr (L + 1) 41 #[.int .i64 a, .int .i64 b] ∧ Below w.heap.size w wr
section
variable {w wr wx : World} {L k : Nat} {xs zs : List Int} {u v : Value} {a b c d : Int}
theorem NrI.below (h : NrI w L xs u k zs a b c d v wr) (hb : Below wr.heap.size wr wx) : NrI w L xs u k zs a b c d v wx := by
  obtain ⟨h1, h2, h3, h4, h5, h6⟩ := h
  exact ⟨h1.below hb, h2, h3.below hb, h4.below hb h4.lt, h5.below hb h5.lt, bl_behind hb h6⟩
theorem NrI.alloc (h : NrI w L xs u k zs a b c d v wr) (o : Obj) : NrI w L xs u k zs a b c d v (wr.alloc o) := by
  obtain ⟨h1, h2, h3, h4, h5, h6⟩ := h
  exact ⟨h1.alloc o, h2, h3.alloc o, h4.alloc o, h5.alloc o, bl_alloc h6 o⟩
theorem NrI.stored (h : NrI w L xs u k zs a b c d v wr) (hu : ∀ g, u.ownBlock = some g → g < L) (hL : w.heap.size + 2 ≤ L) (t l : Int) : NrI w L xs u k zs c d t l v ((((wr.setCell ⟨L + 1, 0, none⟩ (.int .i64 c)).setCell ⟨L + 1, 1, none⟩ (.int .i64 d)).setCell ⟨L, 0, none⟩ (.int .i64 t)).setCell ⟨L, 1, none⟩ (.int .i64 l)) := by
  obtain ⟨h1, h2, h3, h4, h5, h6⟩ := h
  have n1 : v.ownBlock ≠ some L := fun e => by have := h2 _ e; omega
  have n2 : v.ownBlock ≠ some (L + 1) := fun e => by have := h2 _ e; omega
  have m1 : u.ownBlock ≠ some L := fun e => by have := hu _ e; omega
  have m2 : u.ownBlock ≠ some (L + 1) := fun e => by have := hu _ e; omega
  refine ⟨(((h1.not n2 _).not n2 _).not n1 _).not n1 _, h2, (((h3.not m2 _).not m2 _).not m1 _).not m1 _, (((h4.far ?_ _).far ?_ _).set 0 (.int .i64 t)).set 1 (.int .i64 l), (((h5.set 0 (.int .i64 c)).set 1 (.int .i64 d)).far ?_ _).far ?_ _, (((h6.setCell ?_ _).setCell ?_ _).setCell ?_ _).setCell ?_ _⟩
  all_goals (dsimp only; omega)
theorem NrI.more {w2 : World} {g cap : Nat} {t l : Int} (h : NrI w L xs u k zs a b c d v wr) (hu : ∀ g, u.ownBlock = some g → w.heap.size + 2 ≤ g ∧ g < L) (hL : w.heap.size + 2 ≤ L) (hown : w2.ownsRow (w.heap.size + 1) 41 2 (.slice (some ⟨g, 0, none⟩) (k + 1) cap) (k + 1) (zs.map (Value.int .i64) ++ [.int .i64 t, .int .i64 l])) (hg : wr.grownBy w2 v.ownBlock) (ho : v.ownBlock = some g ∨ g = wr.heap.size) : NrI w L xs u (k + 1) (zs ++ [t, l]) a b c d (.slice (some ⟨g, 0, none⟩) (k + 1) cap) w2 := by
  obtain ⟨h1, h2, h3, h4, h5, h6⟩ := h
  have hl := h5.lt
  refine ⟨?_, ?_, ?_, ?_, ?_, ?_⟩
  · unfold Row2
    rw [List.map_append]
    exact hown
  · intro g' e
    injection e with e
    dsimp only at e
    subst e
    rcases ho with ho | ho
    · exact h2 _ ho
    · omega
  · refine h3.kept hg ?_
    cases hv : u.ownBlock with
    | none => exact .inl rfl
    | some x =>
      right
      intro e
      have := hu _ hv
      have := h2 _ e.symm
      omega
  · exact h4.grown hg (fun e => by have := h2 _ e.symm; omega)
  · exact h5.grown hg (fun e => by have := h2 _ e.symm; omega)
  · exact h6.grown hg h6.size (fun x e => by have := h2 _ e; omega)
end
theorem wr64' {x : Int} (h1 : -9223372036854775808 ≤ x) (h2 : x ≤ 9223372036854775807) : wrap64 x = x := by unfold wrap64; omega
def NrCut (wr : World) (t l : Int) (s : Value) (wx : World) : Prop := s = .pointer (some ⟨wr.heap.size, 0, none⟩) ∧ Blk wx wr.heap.size 41 #[.int .i64 t, .int .i64 l] ∧ Below wr.heap.size wr wx
theorem nrCut_mk {wr W : World} {t l : Int} {x z : Value} (bx : Blk W wr.heap.size 41 #[x, z]) (hb : Below wr.heap.size wr W) : NrCut wr t l (.pointer (some ⟨wr.heap.size, 0, none⟩)) ((W.setCell ⟨wr.heap.size, 0, none⟩ (.int .i64 t)).setCell ⟨wr.heap.size, 1, none⟩ (.int .i64 l)) :=
  ⟨rfl, (bx.set 0 _).set 1 _, (hb.setCell (Nat.le_refl _) _).setCell (Nat.le_refl _) _⟩
def Row2Post (w : World) (n : Nat) (zs : List Int) (e : Ending) (w' : World) : Prop := ∃ v, e = .returned v ∧ Row2 w' w.heap.size v n zs ∧ Below w.heap.size w w'
set_option maxRecDepth 100000 in
set_option maxHeartbeats 16000000 in
theorem near_spec (a0 b0 : Int) (w : World) : Calls Try.prog 36 #[.agg #[.int .i64 a0, .int .i64 b0]] w (Row2Post w (frChain a0 b0).length (nrL (frChain a0 b0) (frChain a0 b0).length)) := by
  obtain ⟨i0, hi, hz0, hz1, hz2⟩ := (info_parts (P := Try.prog) (e := 41) (z := .agg #[.int .i64 0, .int .i64 0]) (size := 2) (bytes := 16) (by kernel_rfl) : ∃ i, Try.prog.info? 41 = some i ∧ i.zero = some (.agg #[.int .i64 0, .int .i64 0]) ∧ i.size = 2 ∧ i.bytes = 16)
  have HNX := Lib.hid (fun k a b c d h hk => nr_next (a0 := a0) (b0 := b0) (k := k) (a := a) (b := b) (c := c) (d := d) h hk)
  have HS := Lib.hid (cvIs_start (frChain a0 b0))
  have hle := chain_le a0 b0
  have HI0 : Row2 (((w.alloc (.cells #[.int .i64 a0, .int .i64 b0] 41)).alloc (.cells #[] 41))) (w.heap.size + 1) (.slice (some ⟨w.heap.size + 1, 0, none⟩) 0 0) 0 [] := Row2.emptyAt (by simp) (by simp)
  have HI0 := Lib.hid HI0
  have HBL0 : Below w.heap.size w ((w.alloc (.cells #[.int .i64 a0, .int .i64 b0] 41)).alloc (.cells #[] 41)) := (by repeat' (first | (with_reducible exact Below.refl _ _) | (with_reducible assumption) | (with_reducible refine below_drewN ?_ _) | (with_reducible refine Below.drew ?_) | (with_reducible refine bl_alloc ?_ _) | (with_reducible refine bl_set ?_ ?_ _) | go_size | omega))
  have HBL0 := Lib.hid HBL0
  go_enter Try.func36, Try.ntmps36
  go_wp2_with fail
  refine (chain_spec _ _ _).mono ?_
  rintro e w1 ⟨u, rfl, ru, hb⟩
  have hL : w.heap.size + 2 ≤ w1.heap.size := by have := hb.size; simp at this; omega
  have hI : Row2 w1 (w.heap.size + 1) (.slice (some ⟨w.heap.size + 1, 0, none⟩) 0 0) 0 [] := HI0.out.below hb
  have hB : Below w.heap.size w w1 := bl_behind hb HBL0.out
  have hR : Row w1 (w.heap.size + 2) u (frChain a0 b0) := ru.lower (by simp)
  have hU : ∀ g, u.ownBlock = some g → w.heap.size + 2 ≤ g ∧ g < w1.heap.size := fun g hg => World.ownsRow.lt hR g hg
  generalize frChain a0 b0 = xs at *
  clear HI0 HBL0 ru hb
  obtain ⟨ao, cap, rfl, hc, hlc, -⟩ := hR.open_
  generalize hn : xs.length = n at *
  have HN := Lib.hid hn
  have HR := Lib.hid hR
  have HI := Lib.hid hI
  have HB := Lib.hid hB
  have HU := Lib.hid hU
  clear hn hR hI hB hU
  go_wp2_with fail
  go_loopw [3, 7] (fun v i wr => ∃ (k : Nat) (a b c d : Int), i = .int .i64 (k : Int) ∧ k ≤ n ∧ Hid (NrI w w1.heap.size xs (.slice ao n cap) k (nrL xs k) a b c d v wr) ∧ Hid (CvIs xs k a b c d)) (fun _ i _ => n - (RowKit.intOf i).toNat)
  case atStart => exact ⟨0, 0, 1, 1, 0, rfl, by omega, Lib.hid ⟨(HI.out.alloc _).alloc _, fun g e => by injection e with e; left; exact e.symm, (HR.out.alloc _).alloc _, (Blk.new _ _ _).alloc _, Blk.newAt (by simp), bl_alloc (bl_alloc HB.out _) _⟩, HS⟩
  case round =>
    obtain ⟨k, a, b, c, d, rfl, hk, HNR, HK⟩ := hrel
    obtain ⟨-, -, hrow, hb1, hb2, hbl⟩ := HNR.out
    obtain ⟨ao', cap', e, -, -, ho⟩ := hrow.open_
    rw [HN.out] at ho e
    simp only [Value.slice.injEq, true_and] at e
    obtain ⟨rfl, rfl⟩ := e
    obtain ⟨q10, q11, f10, f11, l1⟩ := blk2 hb1
    obtain ⟨q20, q21, f20, f21, l2⟩ := blk2 hb2
    rcases Nat.lt_or_ge k n with hlt | hge
    · obtain ⟨g, rfl, cA, -⟩ := ho (by omega)
      have ca := cA k hlt
      obtain ⟨HK2, hz2', hzb, -⟩ := HNX.out k a b c d HK.out hlt
      obtain ⟨-, hab, hbb, hcb, hdb⟩ := HK.out
      obtain ⟨-, -, -, htb, hlb⟩ := HK2
      have HK2 := Lib.hid (HNX.out k a b c d HK.out hlt).1
      have HZ := Lib.hid hz2'
      generalize xs.getD k 0 = z at *
      clear ho cA hz2' hrow hb1 hb2 hbl
      have hki : (k : Int) < (n : Int) := by omega
      have p1 := mul_abs hzb.1 hzb.2 hcb.1 hcb.2 (by omega) (by omega)
      have p2 := mul_abs (M := 1000000) hzb.1 hzb.2 (by omega : -1000000 ≤ d) hdb.2 (by omega) (by omega)
      have e1 : wrap64 (z * c) = z * c := wr64' (by omega) (by omega)
      have e2 : wrap64 (z * d) = z * d := wr64' (by omega) (by omega)
      have e3 : wrap64 (z * c + a) = z * c + a := wr64' (by omega) (by omega)
      have e4 : wrap64 (z * d + b) = z * d + b := wr64' (by omega) (by omega)
      have e5 : IntKind.i64.wrap (z * c) = z * c := IntWalk.i64_in _ (by omega)
      have e6 : IntKind.i64.wrap (z * d) = z * d := IntWalk.i64_in _ (by omega)
      have e7 : IntKind.i64.wrap (z * c + a) = z * c + a := IntWalk.i64_in _ (by omega)
      have e8 : IntKind.i64.wrap (z * d + b) = z * d + b := IntWalk.i64_in _ (by omega)
      go_wp2_with fail
      go_cut [8] (fun s wx => NrCut wr (z * c + a) (z * d + b) s wx)
      case first =>
        go_region_held3 (fun W' => W'.cell? ⟨g, k, none⟩ = some (.int .i64 z) ∧ W'.cell? ⟨w1.heap.size, 0, none⟩ = some (.int .i64 c) ∧ W'.cell? ⟨w1.heap.size, 1, none⟩ = some (.int .i64 d) ∧ W'.cell? ⟨w1.heap.size + 1, 0, none⟩ = some (.int .i64 a) ∧ W'.cell? ⟨w1.heap.size + 1, 1, none⟩ = some (.int .i64 b)) (first | exact ⟨ca, q10, q11, q20, q21⟩ | go_keep) (fail)
        all_goals go_wp2_with fail
        all_goals go_meet
        all_goals exact ⟨rfl, (by repeat (first | (with_reducible exact Blk.new _ _ _) | (with_reducible refine Blk.drewN ?_ _) | (with_reducible refine Blk.drew ?_) | ((with_reducible refine Blk.newAt ?_) <;> first | rfl | (simp; done)))), (by repeat' (first | (with_reducible exact Below.refl _ _) | (with_reducible assumption) | (with_reducible refine below_drewN ?_ _) | (with_reducible refine Below.drew ?_) | (with_reducible refine bl_alloc ?_ _) | (with_reducible refine bl_set ?_ ?_ _) | go_size | omega))⟩
      case rest =>
        obtain ⟨rfl, bx, hb⟩ := hcut
        have hj := HNR.out.below hb
        have ne1 : wr.heap.size ≠ w1.heap.size + 1 := by omega
        have ne2 : wr.heap.size ≠ w1.heap.size := by omega
        have ne3 : w1.heap.size + 1 ≠ wr.heap.size := by omega
        have ne4 : w1.heap.size ≠ wr.heap.size := by omega
        generalize z * c + a = t at *
        generalize z * d + b = l at *
        clear p1 p2 e1 e2 e3 e4 e5 e6 e7 e8 hab hbb hcb hdb htb hlb hzb q10 q11 q20 q21 f10 f11 f20 f21 l1 l2
        have hj2 := hj
        obtain ⟨-, -, -, hb1, hb2, -⟩ := hj2
        obtain ⟨q10, q11, f10, f11, l1⟩ := blk2 hb1
        obtain ⟨q20, q21, f20, f21, l2⟩ := blk2 hb2
        obtain ⟨k0, k1, f0, f1, l0⟩ := blk2 bx
        have HJ := Lib.hid (hj.stored (fun g hg => (HU.out g hg).2) hL t l)
        have HBX := Lib.hid bx
        have hsz := hb.size
        clear hb bx hb1 hb2 hj
        go_wp2_with (at_builtin; refine wpList_append_lies _ rfl _ _ 50 rfl (w.heap.size + 1) 41 i0 (.agg #[.int .i64 0, .int .i64 0]) 2 16 Try.underlying50 hi hz0 hz1 hz2 rfl (by decide) _ _ _ (by rfl) ((HJ.out.alloc _).1) ⟨wc.heap.size, 0, none⟩ 1 1 [.int .i64 t, .int .i64 l] (by rfl) ?c0 ?c1 ?c2 ?c6 ?c3 ?c4 ?c5 _ rfl ?_)
        case c0 => rfl
        case c1 =>
          intro j x hj
          match j, hj with
          | 0, hj => simp at hj; subst hj; exact (Blk.newAt (t := 41) (cs := #[.int .i64 t, .int .i64 l]) (by simp)).cell 0
          | 1, hj => simp at hj; subst hj; exact (Blk.newAt (t := 41) (cs := #[.int .i64 t, .int .i64 l]) (by simp)).cell 1
        case c2 => intro x hx; simp at hx; rcases hx with rfl | rfl <;> rfl
        case c6 => decide
        case c3 => unfold maxLen; omega
        case c4 => omega
        case c5 => simp; omega
        intro g' cap' w2 hown' hgrow hor hlt'
        have hm := (HJ.out.alloc _).more (fun g hg => HU.out g hg) hL hown' hgrow (hor.imp id (fun e => by rw [e]; simp))
        rw [← HZ.out] at hm
        have HM := Lib.hid hm
        clear hm hown' hgrow hor hlt' k0 k1 f0 f1 l0 q10 q11 f10 f11 q20 q21 f20 f21 l1 l2
        go_wp2_with fail
        go_roundw
        case rel => exact ⟨k + 1, c, d, t, l, by go_num, by omega, HM, HK2⟩
        case measure => simp [RowKit.intOf]; omega
    · have e : k = n := by omega
      subst e
      obtain ⟨h1, -, -, -, -, h6⟩ := HNR.out
      have H1 := Lib.hid (h1.lower (Nat.le_succ _))
      have H6 := Lib.hid h6
      clear ho hrow hb1 hb2 hbl h1 h6
      go_wp2_with fail
      go_ret
      exact ⟨_, rfl, H1.out, H6.out⟩
end Go.Proofs.Ytdpekaejklmomaa
