/- Drawn calculators and lines. No condition: contracts for the walks of the laws. -/
import Derived.Test.YtidnnnjjpjadlaaGreatDoorMdr
import Derived.Test.YtidnnnjjpjadlaaGreatDoorMrf
import Derived.Test.YtidnnnjjpjadlaaGreatDoorSt
import Derived.Test.YtidnnnjjpjadlaaGreatDoorMafa
namespace Go.Proofs.YtidnnnjjpjadlaaGreatDoor
open Go.ChangeShapes Go.WideShapes Go.ChangeAt Go.RowKit

theorem Rds.past {w0 w w' : World} {g N : Nat} (h : Rds w0 w g N) (hb : Below w.heap.size w w') : Rds w0 w' g N :=
  h.grown (row := none) ⟨hb.os, hb.tape, hb.output, hb.size, fun i hi _ => hb.block i hi⟩ (fun k hk => by cases hk)
theorem fText_size {p q : Int} (hp : -1 ≤ p) (hp2 : p ≤ 17) (hq : -1 ≤ q) (hq2 : q ≤ 17) : (sOf (fText p q)).size ≤ 9 := by
  rw [sOf_size]
  unfold fText
  split
  · rename_i h
    obtain ⟨h1, h2, h3, h4⟩ := fmtB_mk h
    have a := dec_len2 (n := p) (by omega) (by omega)
    have b := dec_len2 (n := q) (by omega) (by omega)
    simp
    omega
  · simp
/-- A drawn text of a number. -/
def ShPost (w0 w : World) (g N : Nat) (e : Ending) (w' : World) : Prop := ∃ s : ByteArray, s.size ≤ 100 ∧ e = .returned (.string s) ∧ Rds w0 w' g N ∧ w.grownBy w' (some g)
theorem sText_size (p q n : Int) : (sOf (sText p q n)).size ≤ 30 := by
  rw [sOf_size]
  rcases hf : fitB p q n
  · rw [sText_out hf]; simp
  · obtain ⟨k1, k2, k3⟩ := fit_mag hf
    rcases (by omega : 0 ≤ n ∨ n < 0) with h | h
    · rw [sText_pos hf h]
      have := mText_len (q := q) h (by have := k1 h; omega)
      omega
    · rw [sText_neg hf h]
      have := mText_len (q := q) (m := -n) (by omega) (by have := k2 h; omega)
      simp; omega
def ShCut (w0 w : World) (g N : Nat) (s : Value) (wx : World) : Prop := ∃ t : ByteArray, t.size ≤ 30 ∧ s = .string t ∧ Rds w0 wx g N ∧ w.grownBy wx (some g)
set_option maxHeartbeats 8000000 in
theorem l20shown_any {w0 w : World} {g N : Nat} {p q : Int} (R0 : Rds w0 w g N) (hN : N ≤ 900000) :
    Calls Tryz.prog 52 #[.pointer (some ⟨g, 0, none⟩), .agg #[.int .i64 p, .int .i64 q]] w (ShPost w0 w g (N + 26)) := by
  have hlt := R0.lt
  have RW := R0.alloc (.cells #[.int .i64 p, .int .i64 q] 24)
  have GW := grownBy_alloc (grown_refl w (some g)) (.cells #[.int .i64 p, .int .i64 q] 24)
  have bf := Blk.new w 24 #[.int .i64 p, .int .i64 q]
  have hgw : g < w.heap.size := hlt
  go_enter Tryz.func52, Tryz.ntmps52
  go_wp2_with fail
  obtain ⟨c0, c1, cf0, cf1, cl⟩ := blk2 bf
  have BF := Lib.hid bf
  have HRW := Lib.hid RW
  have HGW := Lib.hid GW
  clear bf RW GW
  generalize w.alloc (.cells #[.int .i64 p, .int .i64 q] 24) = W at *
  go_cut [5] (fun s wx => ShCut w0 w g (N + 24) s wx)
  case first =>
    go_region_with
      (first | (go_at_call 51; refine (l20stored_any (HRW.out.drew) (by omega) (by omega) (by omega)).mono ?_; rintro e w3 ⟨x, hx0, hx1, rfl, R3, G3⟩; have bf := BF.out.drew.grown G3 (by intro e; injection e with e; first | omega | (simp at e; omega)); obtain ⟨c0, c1, cf0, cf1, cl⟩ := blk2 bf; have BF := Lib.hid bf; have HR3 := Lib.hid R3; have HG3 := Lib.hid (grownBy_trans HGW.out (⟨G3.os, G3.tape, G3.output, G3.size, G3.block⟩ : W.grownBy w3 (some g))); clear bf R3 G3)
             | (go_at_call 40; refine (st_spec _ _ _ _).mono ?_; rintro e w4 ⟨rfl, hb⟩; have HR4 := Lib.hid (HR3.out.past hb); have HG4 := Lib.hid (grownBy_below HG3.out hb); clear hb))
    all_goals go_wp2_with fail
    all_goals go_meet
    all_goals exact ⟨_, sText_size _ _ _, rfl, HR4.out, HG4.out⟩
  case rest =>
    obtain ⟨s, hz, rfl, R4, G4⟩ := hcut
    have hz1 : (s ++ (⟨#[48]⟩ : ByteArray)).size ≤ 31 := by rw [ByteArray.size_append]; have : (⟨#[48]⟩ : ByteArray).size = 1 := rfl; omega
    have hz2 : (s ++ (⟨#[32]⟩ : ByteArray)).size ≤ 31 := by rw [ByteArray.size_append]; have : (⟨#[32]⟩ : ByteArray).size = 1 := rfl; omega
    go_wp2_with fail
    refine (odd_any R4 (by omega) (by omega) (by omega)).mono ?_
    rintro e w5 ⟨bo, rfl, R5, G5⟩
    have G5 := grownBy_trans G4 G5
    cases bo
    · have HR := Lib.hid R5
      have HG := Lib.hid G5
      clear R4 R5 G4 G5 R0
      go_wp2_with fail
      go_ret
      exact ⟨s, by omega, rfl, HR.out.mono (by omega), HG.out⟩
    · go_wp2_with fail
      refine (pick_any (R5.alloc _) (by omega) (by omega) (by omega)).mono ?_
      rintro e w6 ⟨x, hx0, hx1, rfl, R6, G6⟩
      have hl := R5.lt
      have bA := (Blk.new w5 _ _).grown G6 (by intro e; injection e with e; omega)
      obtain ⟨t, ht, ct⟩ : ∃ t : ByteArray, t.size ≤ 100 ∧ w6.cell? ⟨w5.heap.size, x.toNat, none⟩ = some (.string t) := by
        rcases (by omega : x = 0 ∨ x = 1 ∨ x = 2 ∨ x = 3 ∨ x = 4 ∨ x = 5 ∨ x = 6 ∨ x = 7 ∨ x = 8 ∨ x = 9 ∨ x = 10 ∨ x = 11 ∨ x = 12 ∨ x = 13) with rfl | rfl | rfl | rfl | rfl | rfl | rfl | rfl | rfl | rfl | rfl | rfl | rfl | rfl
        all_goals first | exact ⟨_, by decide, bA.cell _⟩ | exact ⟨_, by omega, bA.cell _⟩
      have HR := Lib.hid R6
      have HG := Lib.hid (grownBy_trans (grownBy_alloc G5 _) G6)
      clear R0 R4 R5 R6 G4 G5 G6 bA
      go_wp2_with fail
      go_ret
      exact ⟨t, ht, rfl, HR.out.mono (by omega), HG.out⟩
/-- A drawn calculator. -/
def CaPost (w0 w : World) (g N : Nat) (e : Ending) (w' : World) : Prop := ∃ (p q s : Int) (b : Bool), (-1 ≤ p ∧ p ≤ 17) ∧ (-1 ≤ q ∧ q ≤ 17) ∧ (-268435457 ≤ s ∧ s ≤ 9223372036854775807) ∧ e = .returned (.agg #[.int .i64 p, .int .i64 q, .int .i64 s, .bool b]) ∧ Rds w0 w' g N ∧ w.grownBy w' (some g)
set_option maxHeartbeats 4000000 in
theorem l20calculator_any {w0 w : World} {g N : Nat} {n : Int} (R0 : Rds w0 w g N) (hN : N ≤ 980000) (hn0 : 0 ≤ n) (hn1 : n ≤ 1000) :
    Calls Tryz.prog 25 #[.pointer (some ⟨g, 0, none⟩), .int .i64 n] w (CaPost w0 w g (N + 40)) := by
  have hlt := R0.lt
  have hb0 := R0.below.size
  go_enter Tryz.func25, Tryz.ntmps25
  go_wp2_with fail
  refine (l20format_any (R0.alloc _) (by omega) hn0 hn1).mono ?_
  rintro e w1 ⟨p, q, p0, p1, q0, q1, rfl, R1, G1⟩
  have s1 := G1.size
  rw [World.size_alloc] at s1
  have bz := ((Blk.new w 26 #[.int .i64 0, .int .i64 0, .int .i64 0, .bool false]).grown G1 (by intro e; injection e with e; first | omega | (simp at e; omega))).alloc (.cells #[.int .i64 p, .int .i64 q] 24)
  have bf := Blk.new w1 24 #[.int .i64 p, .int .i64 q]
  have GW := grownBy_alloc (grownBy_trans (grownBy_alloc (grown_refl w (some g)) (.cells #[.int .i64 0, .int .i64 0, .int .i64 0, .bool false] 26)) G1) (.cells #[.int .i64 p, .int .i64 q] 24)
  have RW := R1.alloc (.cells #[.int .i64 p, .int .i64 q] 24)
  go_wp2_with fail
  obtain ⟨c0, c1, c2, c3, lf⟩ := blk2 bf
  obtain ⟨d0, d1, d2, d3, e0, e1, e2, e3, lz⟩ := blk4 bz
  generalize w1.alloc (.cells #[.int .i64 p, .int .i64 q] 24) = W at *
  have HRW := Lib.hid RW.drew
  have HBF := Lib.hid bf.drew
  have HBZ := Lib.hid bz.drew
  have HGW := Lib.hid (show w.grownBy W.drew (some g) from ⟨GW.os, GW.tape, GW.output, GW.size, GW.block⟩)
  clear RW bf bz GW R1 G1 R0
  have n1 : ¬ w.heap.size = w1.heap.size := by omega
  have n2 : ¬ w1.heap.size = w.heap.size := by omega
  have HDN := Lib.hid (fun (w6 : World) (s : Int) (b : Bool) (R6 : Rds w0 w6 g (N + 7 + 24 + 1)) (G6 : w.grownBy w6 (some g)) (bz : Blk w6 w.heap.size 26 #[.int .i64 0, .int .i64 0, .int .i64 0, .bool false]) =>
    (show (Rds w0 ((((w6.setCell ⟨w.heap.size, 0, none⟩ (.int .i64 p)).setCell ⟨w.heap.size, 1, none⟩ (.int .i64 q)).setCell ⟨w.heap.size, 2, none⟩ (.int .i64 s)).setCell ⟨w.heap.size, 3, none⟩ (.bool b)) g (N + 7 + 24 + 1)) ∧ (w.grownBy ((((w6.setCell ⟨w.heap.size, 0, none⟩ (.int .i64 p)).setCell ⟨w.heap.size, 1, none⟩ (.int .i64 q)).setCell ⟨w.heap.size, 2, none⟩ (.int .i64 s)).setCell ⟨w.heap.size, 3, none⟩ (.bool b)) (some g)) ∧ (Blk ((((w6.setCell ⟨w.heap.size, 0, none⟩ (.int .i64 p)).setCell ⟨w.heap.size, 1, none⟩ (.int .i64 q)).setCell ⟨w.heap.size, 2, none⟩ (.int .i64 s)).setCell ⟨w.heap.size, 3, none⟩ (.bool b)) w.heap.size 26 #[.int .i64 p, .int .i64 q, .int .i64 s, .bool b]) from
      ⟨(((R6.setCell (q := ⟨w.heap.size, 0, none⟩) (by dsimp only; omega) (by dsimp only; omega) _).setCell (q := ⟨w.heap.size, 1, none⟩) (by dsimp only; omega) (by dsimp only; omega) _).setCell (q := ⟨w.heap.size, 2, none⟩) (by dsimp only; omega) (by dsimp only; omega) _).setCell (q := ⟨w.heap.size, 3, none⟩) (by dsimp only; omega) (by dsimp only; omega) _,
       grownBy_setCell (grownBy_setCell (grownBy_setCell (grownBy_setCell G6 (p := ⟨w.heap.size, 0, none⟩) (Nat.le_refl _) _) (p := ⟨w.heap.size, 1, none⟩) (Nat.le_refl _) _) (p := ⟨w.heap.size, 2, none⟩) (Nat.le_refl _) _) (p := ⟨w.heap.size, 3, none⟩) (Nat.le_refl _) _,
       (((bz.set 0 (.int .i64 p)).set 1 (.int .i64 q)).set 2 (.int .i64 s)).set 3 (.bool b)⟩))
  go_region_with (first
    | (go_at_call 51; (with_reducible refine Calls.mono (l20stored_any HRW.out (by omega) hn0 hn1) ?_); rintro e w5 ⟨s, s0, s1', rfl, R5, G5⟩; have bf5 := HBF.out.grown G5 (by intro e; injection e with e; first | omega | (simp at e; omega)); obtain ⟨c0, c1, c2, c3, lf⟩ := blk2 bf5; have bz5 := HBZ.out.grown G5 (by intro e; injection e with e; first | omega | (simp at e; omega)); obtain ⟨d0, d1, d2, d3, e0, e1, e2, e3, lz⟩ := blk4 bz5; have HBF5 := Lib.hid bf5; have HBZ5 := Lib.hid bz5; have HR5 := Lib.hid R5; have HG5 := Lib.hid (grownBy_trans HGW.out G5); clear bf5 bz5 R5 G5)
    | (go_at_call 45; (with_reducible refine Calls.mono (pick_any HR5.out (by omega) (by omega) (by omega)) ?_); rintro e w6 ⟨y, y0, y1, rfl, R6, G6⟩; have bf6 := HBF5.out.grown G6 (by intro e; injection e with e; first | omega | (simp at e; omega)); obtain ⟨c0, c1, c2, c3, lf⟩ := blk2 bf6; have bz6 := HBZ5.out.grown G6 (by intro e; injection e with e; first | omega | (simp at e; omega)); obtain ⟨d0, d1, d2, d3, e0, e1, e2, e3, lz⟩ := blk4 bz6; have HBZ6 := Lib.hid bz6; have HR6 := Lib.hid R6; have HG6 := Lib.hid (grownBy_trans HG5.out G6); clear bf6 bz6 R6 G6))
  all_goals
    obtain ⟨z1, z2, z3⟩ := HDN.out _ s (y == 0) HR6.out HG6.out HBZ6.out
    obtain ⟨k0, k1, k2, k3, -, -, -, -, -⟩ := blk4 z3
    have Z1 := Lib.hid z1
    have Z2 := Lib.hid z2
    clear z1 z2 z3
    go_wp2_with fail
    refine bodyPost_ret (v := .agg #[.int .i64 p, .int .i64 q, .int .i64 s, .bool (y == 0)]) (by simp [results, Tryz.results25, go_sem, k0, k1, k2, k3]) rfl ?_
    exact ⟨p, q, s, y == 0, ⟨p0, p1⟩, ⟨q0, q1⟩, ⟨s0, s1'⟩, rfl, Z1.out.mono (by omega), Z2.out⟩

/-- What the calls of l20Said yield. -/
def sumShown (tys : List Ty) : Option (Ty × Nat) := match tys with | [.rd, .val (.ints 2 _ _)] => some (.val (.str 100), 26) | _ => none
def sumFmt (tys : List Ty) : Option (Ty × Nat) := match tys with | [.rd, .val (.int a b)] => if 0 ≤ a ∧ b ≤ 1000 then some (.val (.ints 2 (-1) 17), 7) else none | _ => none
def sumTxt (tys : List Ty) : Option (Ty × Nat) := match tys with | [.val (.ints 2 a b)] => if -1 ≤ a ∧ b ≤ 17 then some (.val (.str 9), 0) else none | _ => none
theorem oneOk_le {F : List Ty → Option (Ty × Nat)} {f : FuncId} {w0 : World} {C : Cx} {c c' : Nat} (h : OneOk F f w0 C c) (hc : c' ≤ c) : OneOk F f w0 C c' :=
  fun tys T c1 hF vs w M hs hv hM hR => h tys T c1 hF vs w M hs hv (by omega) hR
theorem ints2 {v : Value} {lo hi : Int} (h : (El.ints 2 lo hi).ok v) : ∃ p q : Int, v = .agg #[.int .i64 p, .int .i64 q] ∧ (lo ≤ p ∧ p ≤ hi) ∧ (lo ≤ q ∧ q ≤ hi) := by
  obtain ⟨cs, rfl, hs, hc⟩ := h
  obtain ⟨p, hp, p0, p1⟩ := hc 0 (by omega)
  obtain ⟨q, hq, q0, q1⟩ := hc 1 (by omega)
  refine ⟨p, q, ?_, ⟨p0, p1⟩, ⟨q0, q1⟩⟩
  congr 1
  apply Array.ext
  · simpa using hs
  · intro i h1 h2
    rcases (by omega : i = 0 ∨ i = 1) with rfl | rfl
    · simpa [h1] using hp
    · simpa [h1] using hq
theorem one_shown (w0 : World) (C : Cx) : OneOk sumShown 52 w0 C 900000 := by
  intro tys T c h vs w M hs hv hM hR
  unfold sumShown at h
  split at h
  · simp only [Option.some.injEq, Prod.mk.injEq] at h
    obtain ⟨rfl, rfl⟩ := h
    have h0 := hv 0 _ rfl
    obtain ⟨p, q, h1, h2, h3⟩ := ints2 (hv 1 _ rfl)
    have e := arr2 (by simpa using hs)
    rw [h1, show vs.getD 0 undef = _ from h0] at e
    subst e
    refine ⟨by go_simp, (l20shown_any hR (by omega)).mono ?_⟩
    rintro e w' ⟨y, y0, rfl, R', G'⟩
    exact ⟨_, rfl, ⟨y, rfl, y0⟩, R', G'⟩
  · cases h
theorem one_fmt (w0 : World) (C : Cx) : OneOk sumFmt 50 w0 C 900000 := by
  intro tys T c h vs w M hs hv hM hR
  unfold sumFmt at h
  split at h
  · split at h
    · rename_i hab
      simp only [Option.some.injEq, Prod.mk.injEq] at h
      obtain ⟨rfl, rfl⟩ := h
      have h0 := hv 0 _ rfl
      obtain ⟨x, h1, h2, h3⟩ := hv 1 _ rfl
      have e := arr2 (by simpa using hs)
      rw [h1, show vs.getD 0 undef = _ from h0] at e
      subst e
      refine ⟨by go_simp, (l20format_any hR (by omega) (by omega) (by omega)).mono ?_⟩
      rintro e w' ⟨p, q, p0, p1, q0, q1, rfl, R', G'⟩
      refine ⟨_, rfl, ⟨_, rfl, rfl, fun k hk => ?_⟩, R', G'⟩
      rcases (by omega : k = 0 ∨ k = 1) with rfl | rfl
      · exact ⟨p, rfl, p0, p1⟩
      · exact ⟨q, rfl, q0, q1⟩
    · cases h
  · cases h
theorem one_txt (w0 : World) (C : Cx) : OneOk sumTxt 53 w0 C 900000 := by
  intro tys T c h vs w M hs hv hM hR
  unfold sumTxt at h
  split at h
  · split at h
    · rename_i hab
      simp only [Option.some.injEq, Prod.mk.injEq] at h
      obtain ⟨rfl, rfl⟩ := h
      obtain ⟨p, q, h1, h2, h3⟩ := ints2 (hv 0 _ rfl)
      have e := arr1 (by simpa using hs)
      rw [h1] at e
      subst e
      refine ⟨by go_simp, (ft_spec p q w).mono ?_⟩
      rintro e w' ⟨rfl, hb⟩
      exact ⟨_, rfl, ⟨_, rfl, fText_size (by omega) (by omega) (by omega) (by omega)⟩, hR.past hb, grownBy_below (grown_refl w (some C.g)) hb⟩
    · cases h
  · cases h
def SLn : FuncId → List Ty → Option (Ty × Nat) := fun k tys => if k = 45 then sumPick tys else (fun k tys => if k = 52 then sumShown tys else (fun k tys => if k = 50 then sumFmt tys else (fun k tys => if k = 53 then sumTxt tys else (fun _ _ => none) k tys) k tys) k tys) k tys
theorem SLn_ok (w0 : World) (C : Cx) : SOk SLn w0 C 900000 := sok_cons (oneOk_le (one_pick w0 C) (by decide)) (sok_cons (one_shown w0 C) (sok_cons (one_fmt w0 C) (sok_cons (one_txt w0 C) (sok_nil w0 C 900000))))
/-- A drawn line. -/
def SdPost (w0 w : World) (g N : Nat) (e : Ending) (w' : World) : Prop := ∃ s : ByteArray, s.size ≤ 200 ∧ e = .returned (.string s) ∧ Rds w0 w' g N ∧ w.grownBy w' (some g)
set_option maxRecDepth 100000 in
set_option maxHeartbeats 16000000 in
theorem l20said_any {w0 w : World} {g N : Nat} {p q : Int} (R0 : Rds w0 w g N) (hN : N ≤ 800000) (hp : -1 ≤ p ∧ p ≤ 17) (hq : -1 ≤ q ∧ q ≤ 17) :
    Calls Tryz.prog 26 #[.pointer (some ⟨g, 0, none⟩), .agg #[.int .i64 p, .int .i64 q]] w (SdPost w0 w g (N + 140)) := by
  have hlt := R0.lt
  have hb0 := R0.below.size
  have RW := R0.alloc (.cells #[.int .i64 p, .int .i64 q] 24)
  have GW := grownBy_alloc (grown_refl w (some g)) (.cells #[.int .i64 p, .int .i64 q] 24)
  have bf := Blk.new w 24 #[.int .i64 p, .int .i64 q]
  go_enter Tryz.func26, Tryz.ntmps26
  go_wp2_with fail
  refine (odd_any RW (by omega) (by omega) (by omega)).mono ?_
  rintro e w1 ⟨bo, rfl, R1, G1⟩
  have G2 := grownBy_trans GW G1
  have bf := bf.grown G1 (by intro e; injection e with e; first | omega | (simp at e; omega))
  obtain ⟨c0, c1, cf0, cf1, cl⟩ := blk2 bf
  cases bo
  · have HF := Lib.hid (fun (s : ByteArray) (w' : World) (M : Nat) (h1 : s.size ≤ 200) (h2 : Rds w0 w' g M) (hM : M ≤ N + 140) (h3 : w.grownBy w' (some g)) => show SdPost w0 w g (N + 140) (.returned (.string s)) w' from ⟨s, h1, rfl, h2.mono hM, h3⟩)
    clear R0 RW GW
    go_wp2_with fail
    refine wp_region_look (S := SLn) (w0 := w0) (g := g) (M := N + 1) (cap := 900000) (c := 138) (fun t => if t = 0 then .rd else if t = 3 then .many 2 (-1) 17 else .any)
      [(29, .val (.str 104))] (SLn_ok _ _) R1 (by omega) (by kernel_rfl) ?_ ?_
    · intro t
      dsimp only
      repeat' split
      · rename_i h; subst h; rfl
      · rename_i h; subst h; exact ⟨_, 0, rfl, ⟨by dsimp only; omega, by simp⟩, fun i hi => by rcases (by omega : i = 0 ∨ i = 1) with rfl | rfl; exact ⟨p, c0, by omega, by omega⟩; exact ⟨q, c1, by omega, by omega⟩⟩
      · trivial
    · intro vs wv hv hR hG
      simp only [List.forall_mem_cons, List.not_mem_nil, false_implies, implies_true, and_true] at hv
      obtain ⟨s, hx, x0⟩ := hv
      have HR := Lib.hid hR; have HG := Lib.hid (grownBy_trans G2 hG); clear hR hG G1 G2 R1 c0 c1 cf0 cf1 cl bf
      simp only [putAll, Act.put, Nat.reduceAdd, hx, List.setIfInBounds_toArray, List.set_cons_zero, List.set_cons_succ]
      go_wp2_with fail
      go_ret
      exact HF.out _ _ _ (by omega) HR.out (by omega) HG.out
  · go_wp2_with fail
    refine (pick_any (R1.alloc _) (by omega) (by omega) (by omega)).mono ?_
    rintro e w6 ⟨x, hx0, hx1, rfl, R6, G6⟩
    have hl := R1.lt
    have bA := (Blk.new w1 _ _).grown G6 (by intro e; injection e with e; omega)
    obtain ⟨t, ht, ct⟩ : ∃ t : ByteArray, t.size ≤ 200 ∧ w6.cell? ⟨w1.heap.size, x.toNat, none⟩ = some (.string t) := by
      rcases (by omega : x = 0 ∨ x = 1 ∨ x = 2 ∨ x = 3 ∨ x = 4 ∨ x = 5 ∨ x = 6 ∨ x = 7 ∨ x = 8 ∨ x = 9) with rfl | rfl | rfl | rfl | rfl | rfl | rfl | rfl | rfl | rfl
      all_goals exact ⟨_, by decide, bA.cell _⟩
    have HR := Lib.hid R6
    have HG := Lib.hid (grownBy_trans (grownBy_alloc G2 _) G6)
    clear R0 R1 R6 G1 G2 G6 bA RW GW
    go_wp2_with fail
    go_ret
    exact ⟨t, ht, rfl, HR.out.mono (by omega), HG.out⟩
def DlPost (w : World) (e : Ending) (w' : World) : Prop := ∃ (p q n : Int) (b : Bool) (t : ByteArray), t.size ≤ 200 ∧ e = .returned (.tuple #[.agg #[.int .i64 p, .int .i64 q, .int .i64 n, .bool b], .string t]) ∧ Below w.heap.size w w'
def DlCut (w : World) (p q n : Int) (b : Bool) (s : Value) (wx : World) : Prop := ∃ t : ByteArray, t.size ≤ 200 ∧ s = .string t ∧ Blk wx w.heap.size 26 #[.int .i64 p, .int .i64 q, .int .i64 n, .bool b] ∧ Below w.heap.size w wx
theorem dlCut_mk {w w' : World} {p q n : Int} {b : Bool} {t : ByteArray} {c0 c1 c2 c3 : Value} (h1 : t.size ≤ 200) (bt : Blk w' w.heap.size 26 #[c0, c1, c2, c3]) (hb : Below w.heap.size w w') : DlCut w p q n b (.string t) ((((w'.setCell ⟨w.heap.size, 0, none⟩ (.int .i64 p)).setCell ⟨w.heap.size, 1, none⟩ (.int .i64 q)).setCell ⟨w.heap.size, 2, none⟩ (.int .i64 n)).setCell ⟨w.heap.size, 3, none⟩ (.bool b)) :=
  ⟨t, h1, rfl, (((bt.set 0 _).set 1 _).set 2 _).set 3 _, (((hb.setCell (Nat.le_refl _) _).setCell (Nat.le_refl _) _).setCell (Nat.le_refl _) _).setCell (Nat.le_refl _) _⟩
set_option maxRecDepth 100000 in
set_option maxHeartbeats 16000000 in
theorem drawline_any {w : World} {a : Option Addr} {len cap : Nat} {zs : List Int} (hrow : IsRow .u8 w a len cap zs) :
    Calls Tryz.prog 7 #[.slice a len cap] w (DlPost w) := by
  have hB2 : Below w.heap.size w (w.alloc (.cells #[.int .i64 0, .int .i64 0, .int .i64 0, .bool false] 26)) := (Below.refl _ w).alloc (Nat.le_refl _) _
  go_enter Tryz.func7, Tryz.ntmps7
  go_wp2_with fail
  refine (open_base hB2 hrow).mono ?_
  rintro e w1 ⟨rfl, R0, hb1⟩
  rw [World.size_alloc] at R0
  have hl0 := R0.lt
  have bt := (Blk.new w 26 #[.int .i64 0, .int .i64 0, .int .i64 0, .bool false]).below hb1 (by simp <;> omega)
  clear hb1 hB2 hrow
  go_wp2_with fail
  refine (l20calculator_any R0 (by omega) (by omega) (by omega)).mono ?_
  rintro e w2 ⟨p, q, n, b, hp, hq, -, rfl, R1, G1⟩
  have s1 := G1.size
  have bt := (bt.grown G1 (by intro e; injection e with e; first | omega | (simp at e; omega))).alloc (.cells #[.int .i64 p, .int .i64 q, .int .i64 n, .bool b] 26)
  have bf := Blk.new w2 26 #[.int .i64 p, .int .i64 q, .int .i64 n, .bool b]
  have RW := R1.alloc (.cells #[.int .i64 p, .int .i64 q, .int .i64 n, .bool b] 26)
  have hg2 : w.heap.size + 1 < w2.heap.size := R1.lt
  obtain ⟨t0, t1, t2, t3, tf0, tf1, tf2, tf3, tl⟩ := blk4 bt
  obtain ⟨c0, c1, c2, c3, cf0, cf1, cf2, cf3, cl⟩ := blk4 bf
  clear R0 R1 G1
  generalize hW : w2.alloc (.cells #[.int .i64 p, .int .i64 q, .int .i64 n, .bool b] 26) = W at *
  have hne : w.heap.size ≠ w2.heap.size := by omega
  have hne' : w2.heap.size ≠ w.heap.size := by omega
  go_wp2_with fail
  clear hW
  have BT := Lib.hid bt
  have BF := Lib.hid bf
  clear bt bf
  go_cut [3] (fun s wx => DlCut w p q n b s wx)
  case first =>
    go_region_with
      (first | (go_at_call 26; refine (l20said_any (RW.drew) (by omega) hp hq).mono ?_; rintro e w3 ⟨t, ht, rfl, R3, G3⟩; have bt := BT.out.drew.grown G3 (by intro e; injection e with e; first | omega | (simp at e; omega)); have bf := BF.out.drew.grown G3 (by intro e; injection e with e; first | omega | (simp at e; omega)); obtain ⟨t0, t1, t2, t3, tf0, tf1, tf2, tf3, tl⟩ := blk4 bt; obtain ⟨c0, c1, c2, c3, cf0, cf1, cf2, cf3, cl⟩ := blk4 bf; have BT := Lib.hid bt; have BF := Lib.hid bf; have HR := Lib.hid R3.below; clear bt bf R3 G3))
    all_goals go_wp2_with fail
    all_goals go_meet
    all_goals exact dlCut_mk ht BT.out HR.out
  case rest =>
    obtain ⟨t, ht, rfl, bk, hb⟩ := hcut
    obtain ⟨k0, k1, k2, k3⟩ := blk4c bk
    have HB := Lib.hid hb
    clear bk hb
    go_wp2_with fail
    refine bodyPost_ret (v := .tuple #[.agg #[.int .i64 p, .int .i64 q, .int .i64 n, .bool b], .string t]) (by simp [results, Tryz.results7, go_sem, k0, k1, k2, k3]) rfl ?_
    exact ⟨p, q, n, b, t, ht, rfl, HB.out⟩
end Go.Proofs.YtidnnnjjpjadlaaGreatDoor
