/- Lines to a calculator, one behind the other. No condition: contracts for the walks of the laws. -/
import Derived.Test.YtidnnnjjpjadlaaGreatDoorStrB
import Derived.Test.YtidnnnjjpjadlaaGreatDoorMli
namespace Go.Proofs.YtidnnnjjpjadlaaGreatDoor
open Go.ChangeShapes Go.WideShapes Go.ChangeAt Go.RowKit

noncomputable def runL (c : CV) : List ByteArray → CV × List ByteArray
  | [] => (c, [])
  | s :: r => ((runL (lnO c.p c.q c.n c.x s).1 r).1, (lnO c.p c.q c.n c.x s).2 :: (runL (lnO c.p c.q c.n c.x s).1 r).2)
theorem runL_snoc (s : ByteArray) : ∀ (l : List ByteArray) (c : CV), runL c (l ++ [s]) = ((lnO (runL c l).1.p (runL c l).1.q (runL c l).1.n (runL c l).1.x s).1, (runL c l).2 ++ [(lnO (runL c l).1.p (runL c l).1.q (runL c l).1.n (runL c l).1.x s).2])
  | [], c => by simp [runL]
  | t :: l, c => by
    have ih := runL_snoc s l (lnO c.p c.q c.n c.x t).1
    simp only [List.cons_append, runL, ih]
theorem runL_len : ∀ (l : List ByteArray) (c : CV), (runL c l).2.length = l.length
  | [], c => rfl
  | s :: l, c => by simp only [runL, List.length_cons, runL_len l]
/-- The calculator behind the lines, and the answers. -/
noncomputable def runO (p q n : Int) (x : Bool) (xs : List ByteArray) : CV × List ByteArray := if fitB p q n = false ∨ 40 < xs.length then (⟨0, 0, 0, false⟩, []) else runL ⟨p, q, n, x⟩ xs
def RunPost (w : World) (r : CV × List ByteArray) (e : Ending) (w' : World) : Prop := ∃ v, e = .returned (.tuple #[.agg #[.int .i64 r.1.p, .int .i64 r.1.q, .int .i64 r.1.n, .bool r.1.x], v]) ∧ RowS w' w.heap.size v r.2 ∧ Below w.heap.size w w'
/-- The answers of the first k lines; behind them, none as yet. -/
noncomputable def anS (c : CV) (xs : List ByteArray) (k : Nat) : List ByteArray := (runL c (xs.take k)).2 ++ List.replicate (xs.length - k) ⟨#[]⟩
theorem anS_zero (c : CV) (xs : List ByteArray) : anS c xs 0 = List.replicate xs.length ⟨#[]⟩ := by simp [anS, runL]
theorem anS_end (c : CV) (xs : List ByteArray) : anS c xs xs.length = (runL c xs).2 := by simp [anS]
theorem anS_len {c : CV} {xs : List ByteArray} {k : Nat} (h : k ≤ xs.length) : (anS c xs k).length = xs.length := by simp [anS, runL_len]; omega
theorem take_snoc {xs : List ByteArray} {k : Nat} (h : k < xs.length) : xs.take (k + 1) = xs.take k ++ [xs.getD k ByteArray.empty] := by
  rw [List.take_succ_eq_append_getElem h]
  simp [List.getD_eq_getElem?_getD, h]
theorem run_step {c : CV} {xs : List ByteArray} {k : Nat} {P Q M P2 Q2 M2 : Int} {X X2 : Bool} {t : ByteArray} (h : k < xs.length) (h1 : (runL c (xs.take k)).1 = ⟨P, Q, M, X⟩) (h2 : lnO P Q M X (xs.getD k ByteArray.empty) = (⟨P2, Q2, M2, X2⟩, t)) :
    (runL c (xs.take (k + 1))).1 = ⟨P2, Q2, M2, X2⟩ ∧ (anS c xs k).set k t = anS c xs (k + 1) := by
  have e := runL_snoc (xs.getD k ByteArray.empty) (xs.take k) c
  rw [← take_snoc h] at e
  simp only [h1, h2] at e
  refine ⟨by rw [e], ?_⟩
  unfold anS
  rw [e]
  have e2 : xs.length - k = (xs.length - (k + 1)) + 1 := by omega
  have el : (runL c (xs.take k)).2.length = k := by rw [runL_len]; simp; omega
  rw [e2, List.replicate_succ, List.set_append_right _ _ (by omega), el, Nat.sub_self, List.set_cons_zero]
  simp only [List.append_assoc, List.singleton_append]
set_option maxRecDepth 100000 in
set_option maxHeartbeats 4000000 in
theorem run_impl (p q n : Int) (x : Bool) {w : World} {a : Option Addr} {cap : Nat} {xs : List ByteArray} (h : RdT w a xs) (hl : xs.length ≤ 1048576) (hs : ∀ j, j < xs.length → (xs.getD j ByteArray.empty).size ≤ 1048576) (hT : HT w) (m : Int) (hm : w.cell? ⟨0, 0, none⟩ = some (.int .i64 m)) : Calls Tryz.prog 15 #[.agg #[.int .i64 p, .int .i64 q, .int .i64 n, .bool x], .slice a xs.length cap] w (RunPost w (runO p q n x xs)) := by
  have hmm : (xs.length : Int) ≤ 1048576 := by omega
  have HB := Lib.hid (Below.refl w.heap.size w)
  by_cases hbad : fitB p q n = false ∨ 40 < xs.length
  · have hO : runO p q n x xs = (⟨0, 0, 0, false⟩, []) := by unfold runO; rw [if_pos hbad]
    rw [hO]
    clear hO h hs
    generalize xs.length = N at *
    obtain ⟨o, ho⟩ : ∃ o, fitB p q n = o := ⟨_, rfl⟩
    rw [ho] at hbad
    have HF := Lib.hid (fun (w' : World) (hb : Below w.heap.size w w') => show RunPost w (⟨0, 0, 0, false⟩, []) (.returned (.tuple #[.agg #[.int .i64 0, .int .i64 0, .int .i64 0, .bool false], .slice none 0 0])) w' from ⟨_, rfl, RowS.nil _ _, hb⟩)
    rcases (by cases o <;> simp_all : o = false ∨ (o = true ∧ 40 < N)) with rfl | ⟨rfl, h40⟩
    all_goals
      have h40' : True := trivial
      try have h40i : (40 : Int) < (N : Int) := by omega
      go_enter Tryz.func15, Tryz.ntmps15
      go_wp2_with fail
      refine (calv_impl p q n x _ ho).mono ?_
      rintro e w1 ⟨rfl, hb⟩
      have hw := bl_behind (w := w) hb (by have hb0 := HB.out; repeat (first | (with_reducible exact hb0) | (with_reducible refine below_drewN ?_ _) | (with_reducible refine Below.drew ?_) | (with_reducible refine bl_alloc ?_ _) | (with_reducible refine bl_set ?_ (by first | (simp; omega) | (have := hb0.size; simp; omega)) _))); have bc := Blk.below (g := w.heap.size) (t := 26) (cs := #[.int .i64 p, .int .i64 q, .int .i64 n, .bool x]) (by repeat (first | (with_reducible exact Bc.out) | (with_reducible exact Blk.new _ _ _) | (with_reducible refine Blk.newAt ?_; simp; done) | (with_reducible refine Blk.drewN ?_ _) | (with_reducible refine Blk.drew ?_) | (with_reducible refine Blk.alloc ?_ _))) hb (by first | (have := Bc.out.lt; first | omega | (simp; omega)) | (simp; done) | (simp; omega)); have Bc := Lib.hid bc; obtain ⟨kc0, kc1, kc2, kc3, fc0, fc1, fc2, fc3, lc⟩ := blk4 bc; clear bc; have br := Blk.below (g := (w.heap.size + 1)) (t := 26) (cs := #[.int .i64 0, .int .i64 0, .int .i64 0, .bool false]) (by repeat (first | (with_reducible exact Br.out) | (with_reducible exact Blk.new _ _ _) | (with_reducible refine Blk.newAt ?_; simp; done) | (with_reducible refine Blk.drewN ?_ _) | (with_reducible refine Blk.drew ?_) | (with_reducible refine Blk.alloc ?_ _))) hb (by first | (have := Br.out.lt; first | omega | (simp; omega)) | (simp; done) | (simp; omega)); have Br := Lib.hid br; obtain ⟨kr0, kr1, kr2, kr3, fr0, fr1, fr2, fr3, lr⟩ := blk4 br; clear br; have HB := Lib.hid hw; clear hw hb
      go_wp2_with fail
      have bk : Blk _ (w.heap.size + 1) 26 #[.int .i64 0, .int .i64 0, .int .i64 0, .bool false] := (((Br.out.set 0 (.int .i64 0)).set 1 (.int .i64 0)).set 2 (.int .i64 0)).set 3 (.bool false)
      obtain ⟨q0, q1, q2, q3⟩ := blk4c bk
      refine bodyPost_ret (v := .tuple #[.agg #[.int .i64 0, .int .i64 0, .int .i64 0, .bool false], .slice none 0 0]) (by simp [results, Tryz.results15, go_sem, q0, q1, q2, q3]) rfl ?_
      exact HF.out _ (by have hb := HB.out; exact (by repeat' (first | (with_reducible exact Below.refl _ _) | (with_reducible assumption) | (with_reducible refine below_drewN ?_ _) | (with_reducible refine Below.drew ?_) | (with_reducible refine bl_alloc ?_ _) | (with_reducible refine bl_set ?_ ?_ _) | go_size | omega)))
  · have hO : runO p q n x xs = runL ⟨p, q, n, x⟩ xs := by unfold runO; rw [if_neg hbad]
    rw [hO]
    clear hO
    have ho : fitB p q n = true := by cases hf : fitB p q n; (· exact absurd (.inl hf) hbad); rfl
    have h40 : ¬ (40 : Int) < (xs.length : Int) := by omega
    have HC := Lib.hid h
    have HS := Lib.hid hs
    have HTB := Lib.hid hT
    have HM := Lib.hid hm
    have HST := Lib.hid (fun k => @run_step ⟨p, q, n, x⟩ xs k)
    have HA0 := Lib.hid (anS_zero ⟨p, q, n, x⟩ xs)
    have HAE := Lib.hid (anS_end ⟨p, q, n, x⟩ xs)
    have HAL := Lib.hid (fun k => @anS_len ⟨p, q, n, x⟩ xs k)
    have HX0 : Hid ((runL ⟨p, q, n, x⟩ (xs.take 0)).1 = ⟨p, q, n, x⟩) := Lib.hid rfl
    have HXE : Hid (runL ⟨p, q, n, x⟩ (xs.take xs.length) = runL ⟨p, q, n, x⟩ xs) := Lib.hid (by rw [List.take_length])
    obtain ⟨i0, hi, hz0, hz1, hz2⟩ := (info_parts (P := Tryz.prog) (e := 9) (z := .string ⟨#[]⟩) (size := 1) (bytes := 16) (by kernel_rfl) : ∃ i, Tryz.prog.info? 9 = some i ∧ i.zero = some (.string ⟨#[]⟩) ∧ i.size = 1 ∧ i.bytes = 16)
    have HMK := Lib.hid (fun w' => made_strs w' xs.length (by omega) hi hz0 hz1 hz2)
    have HMR := Lib.hid (fun w' => made_rowS w' xs.length (by omega))
    clear hi hz0 hz1 hz2 h hs hT hm hbad
    generalize madeCells #[.string ⟨#[]⟩] xs.length = cs at *
    generalize hn : xs.length = N at *
    go_enter Tryz.func15, Tryz.ntmps15
    go_wp2_with fail
    refine (calv_impl p q n x _ ho).mono ?_
    rintro e w1 ⟨rfl, hb⟩
    have hw := bl_behind (w := w) hb (by have hb0 := HB.out; repeat (first | (with_reducible exact hb0) | (with_reducible refine below_drewN ?_ _) | (with_reducible refine Below.drew ?_) | (with_reducible refine bl_alloc ?_ _) | (with_reducible refine bl_set ?_ (by first | (simp; omega) | (have := hb0.size; simp; omega)) _))); have bc := Blk.below (g := w.heap.size) (t := 26) (cs := #[.int .i64 p, .int .i64 q, .int .i64 n, .bool x]) (by repeat (first | (with_reducible exact Bc.out) | (with_reducible exact Blk.new _ _ _) | (with_reducible refine Blk.newAt ?_; simp; done) | (with_reducible refine Blk.drewN ?_ _) | (with_reducible refine Blk.drew ?_) | (with_reducible refine Blk.alloc ?_ _))) hb (by first | (have := Bc.out.lt; first | omega | (simp; omega)) | (simp; done) | (simp; omega)); have Bc := Lib.hid bc; obtain ⟨kc0, kc1, kc2, kc3, fc0, fc1, fc2, fc3, lc⟩ := blk4 bc; clear bc; have br := Blk.below (g := (w.heap.size + 1)) (t := 26) (cs := #[.int .i64 0, .int .i64 0, .int .i64 0, .bool false]) (by repeat (first | (with_reducible exact Br.out) | (with_reducible exact Blk.new _ _ _) | (with_reducible refine Blk.newAt ?_; simp; done) | (with_reducible refine Blk.drewN ?_ _) | (with_reducible refine Blk.drew ?_) | (with_reducible refine Blk.alloc ?_ _))) hb (by first | (have := Br.out.lt; first | omega | (simp; omega)) | (simp; done) | (simp; omega)); have Br := Lib.hid br; obtain ⟨kr0, kr1, kr2, kr3, fr0, fr1, fr2, fr3, lr⟩ := blk4 br; clear br; have HB := Lib.hid hw; clear hw hb
    have kmk := HMK.out w1
    have HR := Lib.hid (HMR.out w1)
    go_wp2_with fail
    clear kmk
    go_loopw [23] (fun i wr => ∃ (k : Nat) (P Q M : Int) (X : Bool), i = .int .i64 (k : Int) ∧ k ≤ N ∧ RowS wr w1.heap.size (.slice (some ⟨w1.heap.size, 0, none⟩) N N) (anS ⟨p, q, n, x⟩ xs k) ∧ Hid ((runL ⟨p, q, n, x⟩ (xs.take k)).1 = ⟨P, Q, M, X⟩) ∧ Blk wr w.heap.size 26 #[.int .i64 P, .int .i64 Q, .int .i64 M, .bool X] ∧ Blk wr (w.heap.size + 1) 26 #[.int .i64 0, .int .i64 0, .int .i64 0, .bool false] ∧ Below w.heap.size w wr) (fun i _ => N - (RowKit.intOf i).toNat)
    case atStart => exact ⟨0, p, q, n, x, rfl, Nat.zero_le _, by rw [HA0.out]; exact HR.out, HX0, Bc.out.alloc _, Br.out.alloc _, by have hb := HB.out; exact (by repeat' (first | (with_reducible exact Below.refl _ _) | (with_reducible assumption) | (with_reducible refine below_drewN ?_ _) | (with_reducible refine Below.drew ?_) | (with_reducible refine bl_alloc ?_ _) | (with_reducible refine bl_set ?_ ?_ _) | go_size | omega))⟩
    case round =>
      obtain ⟨k, P, Q, M, X, rfl, hk, hr, HX, bc, br, hbl⟩ := hrel
      have HROW := Lib.hid hr
      have HBL := Lib.hid hbl
      have Bc := Lib.hid bc
      have Br := Lib.hid br
      obtain ⟨c0, c1, c2, c3, d0, d1, d2, d3, lc⟩ := blk4 bc
      rcases Nat.lt_or_ge k N with hlt | hge
      · have hki : (k : Int) < (N : Int) := by omega
        obtain ⟨xa, rfl, -, ca⟩ := (HC.out.below hbl) k (by omega)
        have hsz := HS.out k (by omega)
        have HLN := Lib.hid (fun s w' hz hT hm => line_impl P Q M X s m w' hz hT hm)
        have HSTK := Lib.hid (fun P2 Q2 M2 X2 t h2 => HST.out k (P := P) (Q := Q) (M := M) (X := X) (P2 := P2) (Q2 := Q2) (M2 := M2) (X2 := X2) (t := t) (by omega) HX.out h2)
        clear hr hbl bc br
        generalize xs.getD k ByteArray.empty = s at *
        go_wp2_with fail
        refine (HLN.out s _ hsz (HTB.out.below (by have hb0 := HBL.out; repeat (first | (with_reducible exact hb0) | (with_reducible refine below_drewN ?_ _) | (with_reducible refine Below.drew ?_)))) (cell0_below HM.out (by have hb0 := HBL.out; repeat (first | (with_reducible exact hb0) | (with_reducible refine below_drewN ?_ _) | (with_reducible refine Below.drew ?_))))).mono ?_
        rintro e w2 ⟨rfl, hb⟩
        generalize lnO P Q M X s = o at *
        obtain ⟨⟨P2, Q2, M2, X2⟩, t⟩ := o
        obtain ⟨z1, z2⟩ := HSTK.out P2 Q2 M2 X2 t rfl
        have hr2 := HROW.out.below hb
        have bc := Bc.out.below hb Bc.out.lt
        have br := Br.out.below hb Br.out.lt
        have hbl := bl_behind hb HBL.out
        obtain ⟨c0, c1, c2, c3, d0, d1, d2, d3, lc⟩ := blk4 bc
        have hll := HAL.out k (by omega)
        obtain ⟨ao', cap', e, -, -, hoo⟩ := hr2.open_
        rw [hll] at hoo e
        simp only [Value.slice.injEq, true_and] at e
        obtain ⟨e1, rfl⟩ := e
        subst e1
        obtain ⟨g, e2, cA, fA⟩ := hoo (by omega)
        injection e2 with e2
        injection e2 with e2
        subst e2
        have cg := cA k (by omega)
        have fg := fA k
        have hwz : w1.heap.size < w2.heap.size := iszS cg
        have hw1 := Br.out
        have hl1 : w.heap.size < w1.heap.size := by have := HR.out; first | exact lc0 | (have := HB.out.size; omega)
        have r4 := (((hr2.far (p := ⟨w.heap.size, 0, none⟩) hl1 (.int .i64 P2)).far (p := ⟨w.heap.size, 1, none⟩) hl1 (.int .i64 Q2)).far (p := ⟨w.heap.size, 2, none⟩) hl1 (.int .i64 M2)).far (p := ⟨w.heap.size, 3, none⟩) hl1 (.bool X2)
        have hput := (r4.put hll.symm k t).1
        rw [z2] at hput
        have R1 := Lib.hid hput
        have Z1 := Lib.hid z1
        have C1 := Lib.hid (((((bc.set 0 (.int .i64 P2)).set 1 (.int .i64 Q2)).set 2 (.int .i64 M2)).set 3 (.bool X2)).far (p := ⟨w1.heap.size, k, none⟩) (by dsimp only; omega) (.string t))
        have D1 := Lib.hid (((((br.far (p := ⟨w.heap.size, 0, none⟩) (by dsimp only; omega) (.int .i64 P2)).far (p := ⟨w.heap.size, 1, none⟩) (by dsimp only; omega) (.int .i64 Q2)).far (p := ⟨w.heap.size, 2, none⟩) (by dsimp only; omega) (.int .i64 M2)).far (p := ⟨w.heap.size, 3, none⟩) (by dsimp only; omega) (.bool X2)).far (p := ⟨w1.heap.size, k, none⟩) (by dsimp only; omega) (.string t))
        have B1 := Lib.hid (((((hbl.setCell (p := ⟨w.heap.size, 0, none⟩) (Nat.le_refl _) (.int .i64 P2)).setCell (p := ⟨w.heap.size, 1, none⟩) (Nat.le_refl _) (.int .i64 Q2)).setCell (p := ⟨w.heap.size, 2, none⟩) (Nat.le_refl _) (.int .i64 M2)).setCell (p := ⟨w.heap.size, 3, none⟩) (Nat.le_refl _) (.bool X2)).setCell (p := ⟨w1.heap.size, k, none⟩) (by dsimp only; omega) (.string t))
        have hne1 : ¬ w.heap.size = w1.heap.size := by omega
        have hne2 : ¬ w1.heap.size = w.heap.size := by omega
        clear r4 hput hr2 bc br hbl cA fA hoo hll hb z1 z2
        go_wp2_with fail
        go_roundw
        case rel => exact ⟨k + 1, P2, Q2, M2, X2, by go_num, by omega, R1.out, Z1, C1.out, D1.out, B1.out⟩
        case measure => simp [RowKit.intOf]; omega
      · have e : k = N := by omega
        subst e
        have hx1 : (runL ⟨p, q, n, x⟩ xs).1 = ⟨P, Q, M, X⟩ := by rw [← HXE.out]; exact HX.out
        have HFE : Hid ((runL ⟨p, q, n, x⟩ xs).2 = anS ⟨p, q, n, x⟩ xs k) := Lib.hid (by rw [← HAE.out])
        have HX1 := Lib.hid hx1
        have r4 := (((hr.far (p := ⟨w.heap.size + 1, 0, none⟩) lr (.int .i64 P)).far (p := ⟨w.heap.size + 1, 1, none⟩) lr (.int .i64 Q)).far (p := ⟨w.heap.size + 1, 2, none⟩) lr (.int .i64 M)).far (p := ⟨w.heap.size + 1, 3, none⟩) lr (.bool X)
        have R4 := Lib.hid (r4.lower (b := w.heap.size) (by omega))
        have B4 := Lib.hid ((((hbl.setCell (p := ⟨w.heap.size + 1, 0, none⟩) (Nat.le_succ _) (.int .i64 P)).setCell (p := ⟨w.heap.size + 1, 1, none⟩) (Nat.le_succ _) (.int .i64 Q)).setCell (p := ⟨w.heap.size + 1, 2, none⟩) (Nat.le_succ _) (.int .i64 M)).setCell (p := ⟨w.heap.size + 1, 3, none⟩) (Nat.le_succ _) (.bool X))
        obtain ⟨k0, k1, k2, k3, f0, f1, f2, f3, lk⟩ := blk4 br
        clear hr hbl bc br hx1 r4
        go_wp2_with fail
        have bk : Blk _ (w.heap.size + 1) 26 #[.int .i64 P, .int .i64 Q, .int .i64 M, .bool X] := (((Br.out.set 0 (.int .i64 P)).set 1 (.int .i64 Q)).set 2 (.int .i64 M)).set 3 (.bool X)
        obtain ⟨q0, q1, q2, q3⟩ := blk4c bk
        refine bodyPost_ret (v := .tuple #[.agg #[.int .i64 P, .int .i64 Q, .int .i64 M, .bool X], .slice (some ⟨w1.heap.size, 0, none⟩) k k]) (by simp [results, Tryz.results15, go_sem, q0, q1, q2, q3]) rfl ?_
        exact ⟨_, by rw [HX1.out], by rw [HFE.out]; exact R4.out, B4.out⟩
end Go.Proofs.YtidnnnjjpjadlaaGreatDoor
