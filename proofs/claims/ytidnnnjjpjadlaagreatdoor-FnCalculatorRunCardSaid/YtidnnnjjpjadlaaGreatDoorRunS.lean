/- Lines to a calculator by the reference. No condition: contracts for the walks of the laws. -/
import Derived.Test.YtidnnnjjpjadlaaGreatDoorRunI
import Derived.Test.YtidnnnjjpjadlaaGreatDoorMss
namespace Go.Proofs.YtidnnnjjpjadlaaGreatDoor
open Go.ChangeShapes Go.WideShapes Go.ChangeAt Go.RowKit

theorem run_stepS {c : CV} {xs : List ByteArray} {k : Nat} {P Q M P2 Q2 M2 : Int} {X X2 : Bool} {t : ByteArray} (h : k < xs.length) (h1 : (runL c (xs.take k)).1 = ⟨P, Q, M, X⟩) (h2 : lnO P Q M X (xs.getD k ByteArray.empty) = (⟨P2, Q2, M2, X2⟩, t)) :
    (runL c (xs.take (k + 1))).1 = ⟨P2, Q2, M2, X2⟩ ∧ (runL c (xs.take k)).2 ++ [t] = (runL c (xs.take (k + 1))).2 := by
  have e := runL_snoc (xs.getD k ByteArray.empty) (xs.take k) c
  rw [← take_snoc h] at e
  simp only [h1, h2] at e
  exact ⟨by rw [e], by rw [e]⟩
/-- The worlds in the midst of the run. -/
structure InR (w : World) (v : Value) (A : List ByteArray) (P Q M : Int) (X : Bool) (w' : World) : Prop where
  bel : Below w.heap.size w w'
  row : RowS w' (w.heap.size + 2) v A
  c : Blk w' w.heap.size 26 #[.int .i64 P, .int .i64 Q, .int .i64 M, .bool X]
  r : Blk w' (w.heap.size + 1) 26 #[.int .i64 0, .int .i64 0, .int .i64 0, .bool false]
theorem InR.below {w w1 w2 : World} {v : Value} {A : List ByteArray} {P Q M : Int} {X : Bool} (h : InR w v A P Q M X w1) (hb : Below w1.heap.size w1 w2) : InR w v A P Q M X w2 := ⟨bl_behind hb h.bel, h.row.below hb, h.c.below hb h.c.lt, h.r.below hb h.r.lt⟩
theorem InR.drew {w w1 : World} {v : Value} {A : List ByteArray} {P Q M : Int} {X : Bool} (h : InR w v A P Q M X w1) : InR w v A P Q M X w1.drew := ⟨h.bel.drew, h.row.drewN 1, h.c.drew, h.r.drew⟩
theorem InR.alloc {w w1 : World} {v : Value} {A : List ByteArray} {P Q M : Int} {X : Bool} (h : InR w v A P Q M X w1) (o : Obj) : InR w v A P Q M X (w1.alloc o) := ⟨bl_alloc h.bel o, h.row.alloc o, h.c.alloc o, h.r.alloc o⟩
theorem InR.far {w w1 : World} {v : Value} {A : List ByteArray} {P Q M : Int} {X : Bool} (h : InR w v A P Q M X w1) {g : Nat} (hg : w.heap.size + 2 ≤ g) (hne : v.ownBlock = none ∨ v.ownBlock ≠ some g) (i : Nat) (u : Value) : InR w v A P Q M X (w1.setCell ⟨g, i, none⟩ u) :=
  ⟨h.bel.setCell (by dsimp only; omega) u, h.row.kept (grown_farS ⟨g, i, none⟩ u) hne, h.c.far (by dsimp only; omega) u, h.r.far (by dsimp only; omega) u⟩
def RlCut (w : World) (v : Value) (A : List ByteArray) (P Q M : Int) (X : Bool) (P2 Q2 M2 : Int) (X2 : Bool) (t : ByteArray) (s r : Value) (wx : World) : Prop := ∃ g : Nat, s = .pointer (some ⟨g, 0, none⟩) ∧ r = .string t ∧ Blk wx g 26 #[.int .i64 P2, .int .i64 Q2, .int .i64 M2, .bool X2] ∧ InR w v A P Q M X wx
theorem rlCut_fin {w w2 : World} {v : Value} {A : List ByteArray} {P Q M P2 Q2 M2 : Int} {X X2 : Bool} {t : ByteArray} (h : InR w v A P Q M X w2) : RlCut w v A P Q M X P2 Q2 M2 X2 t (.pointer (some ⟨w2.heap.size, 0, none⟩)) (.string t) (w2.alloc (.cells #[.int .i64 P2, .int .i64 Q2, .int .i64 M2, .bool X2] 26)) := ⟨_, rfl, rfl, Blk.new _ _ _, h.alloc _⟩
theorem rlCut_mk {w w2 : World} {v : Value} {A : List ByteArray} {P Q M P2 Q2 M2 : Int} {X X2 : Bool} {t : ByteArray} {g : Nat} {y0 y1 y2 y3 : Value} (bn : Blk w2 g 26 #[y0, y1, y2, y3]) (h : InR w v A P Q M X w2) (hg : w.heap.size + 2 ≤ g) (hne : v.ownBlock = none ∨ v.ownBlock ≠ some g) :
    RlCut w v A P Q M X P2 Q2 M2 X2 t (.pointer (some ⟨g, 0, none⟩)) (.string t) ((((w2.setCell ⟨g, 0, none⟩ (.int .i64 P2)).setCell ⟨g, 1, none⟩ (.int .i64 Q2)).setCell ⟨g, 2, none⟩ (.int .i64 M2)).setCell ⟨g, 3, none⟩ (.bool X2)) :=
  ⟨g, rfl, rfl, (((bn.set 0 _).set 1 _).set 2 _).set 3 _, (((h.far hg hne 0 _).far hg hne 1 _).far hg hne 2 _).far hg hne 3 _⟩
theorem own_ne {w : World} {base : Nat} {v : Value} {A : List ByteArray} (h : RowS w base v A) : v.ownBlock = none ∨ v.ownBlock ≠ some w.heap.size := by
  right
  intro e
  have := (World.ownsRow.lt h _ e).2
  omega
set_option maxRecDepth 100000 in
set_option maxHeartbeats 16000000 in
theorem run_spec (p q n : Int) (x : Bool) {w : World} {a : Option Addr} {cap : Nat} {xs : List ByteArray} (h : RdT w a xs) (hl : xs.length ≤ 1048576) (hs : ∀ j, j < xs.length → (xs.getD j ByteArray.empty).size ≤ 1048576) : Calls Tryz.prog 16 #[.agg #[.int .i64 p, .int .i64 q, .int .i64 n, .bool x], .slice a xs.length cap] w (RunPost w (runO p q n x xs)) := by
  have hmm : (xs.length : Int) ≤ 1048576 := by omega
  have HB := Lib.hid (Below.refl w.heap.size w)
  have EM := Lib.hid (RowS.emptyAt (w := (w.alloc (.cells #[.int .i64 p, .int .i64 q, .int .i64 n, .bool x] 26)).alloc (.cells #[.int .i64 0, .int .i64 0, .int .i64 0, .bool false] 26)) (base := w.heap.size + 2) (g := w.heap.size + 2) (by simp) (by simp))
  by_cases hbad : fitB p q n = false ∨ 40 < xs.length
  · have hO : runO p q n x xs = (⟨0, 0, 0, false⟩, []) := by unfold runO; rw [if_pos hbad]
    rw [hO]
    clear hO h hs
    generalize xs.length = N at *
    obtain ⟨o, ho⟩ : ∃ o, fitB p q n = o := ⟨_, rfl⟩
    rw [ho] at hbad
    have HF := Lib.hid (fun (v : Value) (w' : World) (hr : RowS w' (w.heap.size + 2) v []) (hb : Below w.heap.size w w') => show RunPost w (⟨0, 0, 0, false⟩, []) (.returned (.tuple #[.agg #[.int .i64 0, .int .i64 0, .int .i64 0, .bool false], v])) w' from ⟨_, rfl, hr.lower (by omega), hb⟩)
    rcases (by cases o <;> simp_all : o = false ∨ (o = true ∧ 40 < N)) with rfl | ⟨rfl, h40⟩
    all_goals
      have h40' : True := trivial
      try have h40i : (40 : Int) < (N : Int) := by omega
      go_enter Tryz.func16, Tryz.ntmps16
      go_wp2_with fail
      refine (calv_spec p q n x _ ho).mono ?_
      rintro e w1 ⟨rfl, hb⟩
      have em := EM.out.below hb
      replace hb := unalloc hb
      have hw := bl_behind (w := w) hb (by have hb0 := HB.out; repeat (first | (with_reducible exact hb0) | (with_reducible refine below_drewN ?_ _) | (with_reducible refine Below.drew ?_) | (with_reducible refine bl_alloc ?_ _) | (with_reducible refine bl_set ?_ (by first | (simp; omega) | (have := hb0.size; simp; omega)) _))); have bc := Blk.below (g := w.heap.size) (t := 26) (cs := #[.int .i64 p, .int .i64 q, .int .i64 n, .bool x]) (by repeat (first | (with_reducible exact Bc.out) | (with_reducible exact Blk.new _ _ _) | (with_reducible refine Blk.newAt ?_; simp; done) | (with_reducible refine Blk.drewN ?_ _) | (with_reducible refine Blk.drew ?_) | (with_reducible refine Blk.alloc ?_ _))) hb (by first | (have := Bc.out.lt; first | omega | (simp; omega)) | (simp; done) | (simp; omega)); have Bc := Lib.hid bc; obtain ⟨kc0, kc1, kc2, kc3, fc0, fc1, fc2, fc3, lc⟩ := blk4 bc; clear bc; have br := Blk.below (g := (w.heap.size + 1)) (t := 26) (cs := #[.int .i64 0, .int .i64 0, .int .i64 0, .bool false]) (by repeat (first | (with_reducible exact Br.out) | (with_reducible exact Blk.new _ _ _) | (with_reducible refine Blk.newAt ?_; simp; done) | (with_reducible refine Blk.drewN ?_ _) | (with_reducible refine Blk.drew ?_) | (with_reducible refine Blk.alloc ?_ _))) hb (by first | (have := Br.out.lt; first | omega | (simp; omega)) | (simp; done) | (simp; omega)); have Br := Lib.hid br; obtain ⟨kr0, kr1, kr2, kr3, fr0, fr1, fr2, fr3, lr⟩ := blk4 br; clear br; have HB := Lib.hid hw; clear hw hb
      have R4 := Lib.hid ((((em.far (p := ⟨w.heap.size + 1, 0, none⟩) (Nat.lt_succ_self _) (.int .i64 0)).far (p := ⟨w.heap.size + 1, 1, none⟩) (Nat.lt_succ_self _) (.int .i64 0)).far (p := ⟨w.heap.size + 1, 2, none⟩) (Nat.lt_succ_self _) (.int .i64 0)).far (p := ⟨w.heap.size + 1, 3, none⟩) (Nat.lt_succ_self _) (.bool false))
      clear em
      go_wp2_with fail
      have bk : Blk _ (w.heap.size + 1) 26 #[.int .i64 0, .int .i64 0, .int .i64 0, .bool false] := (((Br.out.set 0 (.int .i64 0)).set 1 (.int .i64 0)).set 2 (.int .i64 0)).set 3 (.bool false)
      obtain ⟨q0, q1, q2, q3⟩ := blk4c bk
      refine bodyPost_ret (v := .tuple #[.agg #[.int .i64 0, .int .i64 0, .int .i64 0, .bool false], .slice (some ⟨w.heap.size + 2, 0, none⟩) 0 0]) (by simp [results, Tryz.results16, go_sem, q0, q1, q2, q3]) rfl ?_
      exact HF.out _ _ R4.out (by have hb := HB.out; exact (by repeat' (first | (with_reducible exact Below.refl _ _) | (with_reducible assumption) | (with_reducible refine below_drewN ?_ _) | (with_reducible refine Below.drew ?_) | (with_reducible refine bl_alloc ?_ _) | (with_reducible refine bl_set ?_ ?_ _) | go_size | omega)))
  · have hO : runO p q n x xs = runL ⟨p, q, n, x⟩ xs := by unfold runO; rw [if_neg hbad]
    rw [hO]
    clear hO
    have ho : fitB p q n = true := by cases hf : fitB p q n; (· exact absurd (.inl hf) hbad); rfl
    have h40 : ¬ (40 : Int) < (xs.length : Int) := by omega
    have HC := Lib.hid h
    have HS := Lib.hid hs
    have HST := Lib.hid (fun k => @run_stepS ⟨p, q, n, x⟩ xs k)
    have HX0 : Hid ((runL ⟨p, q, n, x⟩ (xs.take 0)).1 = ⟨p, q, n, x⟩) := Lib.hid rfl
    have HXE : Hid (runL ⟨p, q, n, x⟩ (xs.take xs.length) = runL ⟨p, q, n, x⟩ xs) := Lib.hid (by rw [List.take_length])
    have HLE := Lib.hid (fun k => runL_len (xs.take k) ⟨p, q, n, x⟩)
    obtain ⟨i0, hi, hz0, hz1, hz2⟩ := (info_parts (P := Tryz.prog) (e := 9) (z := .string ⟨#[]⟩) (size := 1) (bytes := 16) (by kernel_rfl) : ∃ i, Tryz.prog.info? 9 = some i ∧ i.zero = some (.string ⟨#[]⟩) ∧ i.size = 1 ∧ i.bytes = 16)
    clear h hs hbad
    generalize hn : xs.length = N at *
    go_enter Tryz.func16, Tryz.ntmps16
    go_wp2_with fail
    refine (calv_spec p q n x _ ho).mono ?_
    rintro e w1 ⟨rfl, hb⟩
    have em := EM.out.below hb
    replace hb := unalloc hb
    have hw := bl_behind (w := w) hb (by have hb0 := HB.out; repeat (first | (with_reducible exact hb0) | (with_reducible refine below_drewN ?_ _) | (with_reducible refine Below.drew ?_) | (with_reducible refine bl_alloc ?_ _) | (with_reducible refine bl_set ?_ (by first | (simp; omega) | (have := hb0.size; simp; omega)) _))); have bc := Blk.below (g := w.heap.size) (t := 26) (cs := #[.int .i64 p, .int .i64 q, .int .i64 n, .bool x]) (by repeat (first | (with_reducible exact Bc.out) | (with_reducible exact Blk.new _ _ _) | (with_reducible refine Blk.newAt ?_; simp; done) | (with_reducible refine Blk.drewN ?_ _) | (with_reducible refine Blk.drew ?_) | (with_reducible refine Blk.alloc ?_ _))) hb (by first | (have := Bc.out.lt; first | omega | (simp; omega)) | (simp; done) | (simp; omega)); have Bc := Lib.hid bc; obtain ⟨kc0, kc1, kc2, kc3, fc0, fc1, fc2, fc3, lc⟩ := blk4 bc; clear bc; have br := Blk.below (g := (w.heap.size + 1)) (t := 26) (cs := #[.int .i64 0, .int .i64 0, .int .i64 0, .bool false]) (by repeat (first | (with_reducible exact Br.out) | (with_reducible exact Blk.new _ _ _) | (with_reducible refine Blk.newAt ?_; simp; done) | (with_reducible refine Blk.drewN ?_ _) | (with_reducible refine Blk.drew ?_) | (with_reducible refine Blk.alloc ?_ _))) hb (by first | (have := Br.out.lt; first | omega | (simp; omega)) | (simp; done) | (simp; omega)); have Br := Lib.hid br; obtain ⟨kr0, kr1, kr2, kr3, fr0, fr1, fr2, fr3, lr⟩ := blk4 br; clear br; have HB := Lib.hid hw; clear hw hb
    have EMW := Lib.hid em
    clear em
    go_wp2_with fail
    go_loopw [6, 7] (fun v i wr => ∃ (k : Nat) (P Q M : Int) (X : Bool), i = .int .i64 (k : Int) ∧ k ≤ N ∧ Hid ((runL ⟨p, q, n, x⟩ (xs.take k)).1 = ⟨P, Q, M, X⟩) ∧ InR w v (runL ⟨p, q, n, x⟩ (xs.take k)).2 P Q M X wr) (fun _ i _ => N - (RowKit.intOf i).toNat)
    case atStart => exact ⟨0, p, q, n, x, rfl, Nat.zero_le _, HX0, ⟨HB.out, EMW.out, Bc.out, Br.out⟩⟩
    case round =>
      obtain ⟨k, P, Q, M, X, rfl, hk, HX, hI⟩ := hrel
      have HI := Lib.hid hI
      obtain ⟨c0, c1, c2, c3, d0, d1, d2, d3, lc⟩ := blk4 hI.c
      rcases Nat.lt_or_ge k N with hlt | hge
      · have hki : (k : Int) < (N : Int) := by omega
        obtain ⟨xa, rfl, hxl, ca⟩ := (HC.out.below hI.bel) k (by omega)
        have hyl : (xa.add k).block < wr.heap.size := by unfold Addr.add; split <;> exact hxl
        have cz : (wr.alloc (.cells #[.int .i64 0, .int .i64 0, .int .i64 0, .bool false] 26)).cell? (xa.add k) = some (.string (xs.getD k ByteArray.empty)) := (((Below.refl _ wr).alloc (Nat.le_refl _) (.cells #[.int .i64 0, .int .i64 0, .int .i64 0, .bool false] 26)).cell (p := xa.add k) hyl).trans ca
        have hsz := HS.out k (by omega)
        have HSTK := Lib.hid (fun P2 Q2 M2 X2 t h2 => HST.out k (P := P) (Q := Q) (M := M) (X := X) (P2 := P2) (Q2 := Q2) (M2 := M2) (X2 := X2) (t := t) (by omega) HX.out h2)
        have hgw : w.heap.size + 2 ≤ wr.heap.size := hI.r.lt
        have hown := own_ne hI.row
        have hal : (runL ⟨p, q, n, x⟩ (xs.take k)).2.length ≤ 40 := by rw [HLE.out k, List.length_take]; omega
        clear HX
        generalize (runL ⟨p, q, n, x⟩ (xs.take k)).2 = A at *
        generalize xs.getD k ByteArray.empty = s at *
        have HLN := Lib.hid (fun w' => line_spec P Q M X s w' hsz)
        generalize lnO P Q M X s = o at *
        obtain ⟨⟨P2, Q2, M2, X2⟩, t⟩ := o
        dsimp only at HLN
        obtain ⟨z1, z2⟩ := HSTK.out P2 Q2 M2 X2 t rfl
        have Z1 := Lib.hid z1
        have Z2 := Lib.hid z2
        clear hI z1 z2 HSTK HST hsz
        go_wp2_with fail
        go_cut [8, 9] (fun s r wx => RlCut w u6 A P Q M X P2 Q2 M2 X2 t s r wx)
        case first =>
          go_region_with
            (first
             | (go_at_call 9; with_reducible refine Calls.mono (HLN.out wr.drew) ?_; rintro e w2 ⟨rfl, hb⟩; have hi2 := HI.out.drew.below hb; clear hb; obtain ⟨c0, c1, c2, c3, d0, d1, d2, d3, lc⟩ := blk4 hi2.c; have HI2 := Lib.hid hi2; clear hi2)
             | (go_at_call 9; with_reducible refine Calls.mono (HLN.out (wr.alloc (.cells #[.int .i64 0, .int .i64 0, .int .i64 0, .bool false] 26)).drew) ?_; rintro e w2 ⟨rfl, hb⟩; have bn := ((Blk.new wr 26 #[.int .i64 0, .int .i64 0, .int .i64 0, .bool false]).drew).below hb (by simp); obtain ⟨b0, b1, b2, b3, b4, b5, b6, b7, lb⟩ := blk4 bn; have BN := Lib.hid bn; have hi2 := ((HI.out.alloc (.cells #[.int .i64 0, .int .i64 0, .int .i64 0, .bool false] 26)).drew).below hb; clear hb bn; obtain ⟨c0, c1, c2, c3, d0, d1, d2, d3, lc⟩ := blk4 hi2.c; have HI2 := Lib.hid hi2; clear hi2))
          all_goals go_wp2_with fail
          all_goals go_meet
          all_goals first | (with_reducible exact rlCut_fin HI2.out) | (with_reducible exact rlCut_mk BN.out HI2.out hgw hown)
        case rest =>
          obtain ⟨g, rfl, rfl, bk, hi3⟩ := hcut
          obtain ⟨b0, b1, b2, b3⟩ := blk4c bk
          obtain ⟨c0, c1, c2, c3, d0, d1, d2, d3, lc⟩ := blk4 hi3.c
          have lr3 := hi3.r.lt
          have r4 := (((hi3.row.far (p := ⟨w.heap.size, 0, none⟩) (by dsimp only; omega) (.int .i64 P2)).far (p := ⟨w.heap.size, 1, none⟩) (by dsimp only; omega) (.int .i64 Q2)).far (p := ⟨w.heap.size, 2, none⟩) (by dsimp only; omega) (.int .i64 M2)).far (p := ⟨w.heap.size, 3, none⟩) (by dsimp only; omega) (.bool X2)
          have R4 := Lib.hid r4
          have C4 := Lib.hid ((((hi3.c.set 0 (.int .i64 P2)).set 1 (.int .i64 Q2)).set 2 (.int .i64 M2)).set 3 (.bool X2))
          have D4 := Lib.hid ((((hi3.r.far (p := ⟨w.heap.size, 0, none⟩) (by dsimp only; omega) (.int .i64 P2)).far (p := ⟨w.heap.size, 1, none⟩) (by dsimp only; omega) (.int .i64 Q2)).far (p := ⟨w.heap.size, 2, none⟩) (by dsimp only; omega) (.int .i64 M2)).far (p := ⟨w.heap.size, 3, none⟩) (by dsimp only; omega) (.bool X2))
          have B4 := Lib.hid ((((hi3.bel.setCell (p := ⟨w.heap.size, 0, none⟩) (Nat.le_refl _) (.int .i64 P2)).setCell (p := ⟨w.heap.size, 1, none⟩) (Nat.le_refl _) (.int .i64 Q2)).setCell (p := ⟨w.heap.size, 2, none⟩) (Nat.le_refl _) (.int .i64 M2)).setCell (p := ⟨w.heap.size, 3, none⟩) (Nat.le_refl _) (.bool X2))
          clear bk hi3 ca cz hyl hxl HI HLN
          go_wp2_with (first | (at_builtin; refine wpList_append_own _ rfl _ _ 34 rfl (w.heap.size + 2) 9 i0 (.string ⟨#[]⟩) 1 16 Tryz.underlying34 hi hz0 hz1 hz2 rfl (by decide) _ _ _ rfl (r4.alloc _) ⟨_, 0, none⟩ 1 1 [.string t] rfl rfl ?c1 ?c2 ?c3 ?c4 ?c5 ?_))
          case c1 =>
            intro j u hj
            match j, hj with
            | 0, hj => simp at hj; subst hj; simp [Addr.add]; refine ((Blk.newAt (t := 9) (cs := #[.string t]) ?_).cell 0).trans rfl; simp
          case c2 => intro u hu; simp at hu; subst hu; rfl
          case c3 => unfold maxLen; omega
          case c4 => omega
          case c5 => simp; omega
          intro v' w5 hown' hgrow _
          obtain ⟨r1, b1', hkk⟩ := RowS.more R4.out hown' hgrow B4.out (by omega) (Nat.le_refl _)
          have HIN : Hid (InR w v' (A ++ [t]) P2 Q2 M2 X2 w5) := Lib.hid ⟨b1', r1, hkk _ _ _ (by omega) C4.out, hkk _ _ _ (by omega) D4.out⟩
          rw [Z2.out] at HIN
          clear hown' hgrow r4 hkk r1 b1'
          go_wp2_with fail
          go_roundw
          case rel => exact ⟨k + 1, P2, Q2, M2, X2, by go_num, by omega, Z1, HIN.out⟩
          case measure => simp [RowKit.intOf]; omega
      · have e : k = N := by omega
        subst e
        have hx1 : (runL ⟨p, q, n, x⟩ xs).1 = ⟨P, Q, M, X⟩ := by rw [← HXE.out]; exact HX.out
        have HX1 := Lib.hid hx1
        have r4 := (((hI.row.far (p := ⟨w.heap.size + 1, 0, none⟩) (Nat.lt_succ_self _) (.int .i64 P)).far (p := ⟨w.heap.size + 1, 1, none⟩) (Nat.lt_succ_self _) (.int .i64 Q)).far (p := ⟨w.heap.size + 1, 2, none⟩) (Nat.lt_succ_self _) (.int .i64 M)).far (p := ⟨w.heap.size + 1, 3, none⟩) (Nat.lt_succ_self _) (.bool X)
        have R4 := Lib.hid (r4.lower (b := w.heap.size) (by omega))
        have B4 := Lib.hid ((((hI.bel.setCell (p := ⟨w.heap.size + 1, 0, none⟩) (Nat.le_succ _) (.int .i64 P)).setCell (p := ⟨w.heap.size + 1, 1, none⟩) (Nat.le_succ _) (.int .i64 Q)).setCell (p := ⟨w.heap.size + 1, 2, none⟩) (Nat.le_succ _) (.int .i64 M)).setCell (p := ⟨w.heap.size + 1, 3, none⟩) (Nat.le_succ _) (.bool X))
        obtain ⟨k0, k1, k2, k3, f0, f1, f2, f3, lk⟩ := blk4 hI.r
        clear hI hx1 r4
        go_wp2_with fail
        have bk : Blk _ (w.heap.size + 1) 26 #[.int .i64 P, .int .i64 Q, .int .i64 M, .bool X] := (((HI.out.r.set 0 (.int .i64 P)).set 1 (.int .i64 Q)).set 2 (.int .i64 M)).set 3 (.bool X)
        obtain ⟨q0, q1, q2, q3⟩ := blk4c bk
        refine bodyPost_ret (v := .tuple #[.agg #[.int .i64 P, .int .i64 Q, .int .i64 M, .bool X], u6]) (by simp [results, Tryz.results16, go_sem, q0, q1, q2, q3]) rfl ?_
        exact ⟨_, by rw [HX1.out], by rw [← HXE.out]; exact R4.out, B4.out⟩
end Go.Proofs.YtidnnnjjpjadlaaGreatDoor
