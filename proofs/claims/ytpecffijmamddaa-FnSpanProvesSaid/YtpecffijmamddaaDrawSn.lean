/- The drawing function of the law on proved spans. No condition: contracts for the walks of the laws. -/
import Derived.Test.YtpecffijmamddaaDrawSp
import Derived.Test.YtpecffijmamddaaSpan
namespace Go.Proofs.Ytpecffijmamddaa
open Go.ChangeShapes Go.WideShapes Go.ChangeAt Go.RowKit

def sumSpan (tys : List Ty) : Option (Ty × Nat) := match tys with | [.rd, .val (.int a b)] => if 0 ≤ a ∧ b ≤ 1000 then some (.val (.ints 2 (-100000000000000) 100000000000000), 20) else none | _ => none
theorem one_span (w0 : World) (C : Cx) : OneOk sumSpan 53 w0 C 990000 := by
  intro tys T c h vs w M hs hv hM hR
  unfold sumSpan at h
  split at h
  · rename_i a b
    split at h
    · rename_i hab
      simp only [Option.some.injEq, Prod.mk.injEq] at h
      obtain ⟨rfl, rfl⟩ := h
      have h0 := hv 0 _ rfl
      obtain ⟨x, h1, h2, h3⟩ := hv 1 _ rfl
      have e := arr2 (by simpa using hs)
      rw [h1, show vs.getD 0 undef = _ from h0] at e
      subst e
      refine ⟨by go_simp, (l20span_any hR (by omega) (by omega) (by omega)).mono ?_⟩
      rintro e w' ⟨p, q, p0, p1, q0, q1, rfl, R', G'⟩
      refine ⟨_, rfl, ⟨_, rfl, rfl, fun k hk => ?_⟩, R', G'⟩
      rcases (by omega : k = 0 ∨ k = 1) with rfl | rfl
      · exact ⟨p, rfl, by omega, by omega⟩
      · exact ⟨q, rfl, by omega, by omega⟩
    · cases h
  · cases h
theorem OneOk.le {F : List Ty → Option (Ty × Nat)} {f : FuncId} {w0 : World} {C : Cx} {c d : Nat} (h : OneOk F f w0 C c) (hd : d ≤ c) : OneOk F f w0 C d :=
  fun tys T k hk vs w M hs hv hM hR => h tys T k hk vs w M hs hv (by omega) hR
def SSp : FuncId → List Ty → Option (Ty × Nat) := fun k tys => if k = 39 then sumPick tys else (fun k tys => if k = 53 then sumSpan tys else (fun _ _ => none) k tys) k tys
theorem SSp_ok (w0 : World) (C : Cx) : SOk SSp w0 C 990000 := sok_cons ((one_pick w0 C).le (by omega)) (sok_cons (one_span w0 C) (sok_nil w0 C 990000))
def SdPost (w : World) (e : Ending) (w' : World) : Prop := ∃ a b p q n : Int, (-100000000000000 ≤ a ∧ a ≤ 100000000000000) ∧ (-100000000000000 ≤ b ∧ b ≤ 100000000000000) ∧ (-1 ≤ p ∧ p ≤ 17) ∧ (-1 ≤ q ∧ q ≤ 17) ∧ (-268435457 ≤ n ∧ n ≤ 9223372036854775807) ∧
  e = .returned (.tuple #[.agg #[.int .i64 a, .int .i64 b], .agg #[.int .i64 p, .int .i64 q], .int .i64 n]) ∧ Below w.heap.size w w'
set_option maxHeartbeats 8000000 in
theorem drawspanproves_any {w : World} {a : Option Addr} {len cap : Nat} {zs : List Int} (hrow : IsRow .u8 w a len cap zs) :
    Calls Try.prog 20 #[.slice a len cap] w (SdPost w) := by
  have hB2 : Below w.heap.size w ((w.alloc (.cells #[.int .i64 0, .int .i64 0] 34)).alloc (.cells #[.int .i64 0, .int .i64 0] 36)) := ((Below.refl _ w).alloc (Nat.le_refl _) _).alloc (by simp) _
  go_enter Try.func20, Try.ntmps20
  go_wp2_with fail
  refine (open_base hB2 hrow).mono ?_
  rintro e w1 ⟨rfl, R0, hb1⟩
  rw [World.size_alloc, World.size_alloc] at R0
  have hl0 := R0.lt
  have bs := ((Blk.new w 34 #[.int .i64 0, .int .i64 0]).alloc (.cells #[.int .i64 0, .int .i64 0] 36)).below hb1 (by simp <;> omega)
  have bt := (Blk.new (w.alloc (.cells #[.int .i64 0, .int .i64 0] 34)) 36 #[.int .i64 0, .int .i64 0]).below hb1 (by simp <;> omega)
  rw [World.size_alloc] at bt
  clear hb1 hB2 hrow
  go_wp2_with fail
  refine (l20format_any R0 (by omega) (by omega) (by omega)).mono ?_
  rintro e w2 ⟨p, q, p0, p1, q0, q1, rfl, R1, G1⟩
  have s1 := G1.size
  have hf2 : w.heap.size + 1 + 1 < w2.heap.size := by omega
  go_wp2_with fail
  refine (l20stored_any (R1.alloc _) (by omega) (by omega) (by omega)).mono ?_
  rintro e w3 ⟨n, n0, n1, rfl, R2, G2⟩
  have bs := ((bs.grown G1 (by intro e; injection e with e; first | omega | (simp at e; omega))).alloc (.cells #[.int .i64 p, .int .i64 q] 36)).grown G2 (by intro e; injection e with e; first | omega | (simp at e; omega))
  have bt := ((bt.grown G1 (by intro e; injection e with e; first | omega | (simp at e; omega))).alloc (.cells #[.int .i64 p, .int .i64 q] 36)).grown G2 (by intro e; injection e with e; first | omega | (simp at e; omega))
  have bf := (Blk.new w2 36 #[.int .i64 p, .int .i64 q]).grown G2 (by intro e; injection e with e; first | omega | (simp at e; omega))
  obtain ⟨c0, c1, c2, c3, lf⟩ := blk2 bf
  have RW := R2.mono (show 0 + 7 + 24 ≤ 31 by omega)
  clear R0 R1 G1 G2 R2
  go_wp2_with fail
  cases hv : fmtB p q
  · refine (fmvb_spec hv _).mono ?_
    rintro e w4 ⟨rfl, mm, rfl⟩
    have RW := (RW.alloc (.cells #[.int .i64 p, .int .i64 q] 36)).drewN mm
    have bs := (bs.alloc (.cells #[.int .i64 p, .int .i64 q] 36)).drewN mm
    have bt := (bt.alloc (.cells #[.int .i64 p, .int .i64 q] 36)).drewN mm
    have bf := (bf.alloc (.cells #[.int .i64 p, .int .i64 q] 36)).drewN mm
    generalize (w3.alloc (.cells #[.int .i64 p, .int .i64 q] 36)).drewN mm = W at *
    clear c0 c1 c2 c3 lf
    obtain ⟨c0, c1, c2, c3, lf⟩ := blk2 bf
    go_wp2_with fail
    refine wp_region_lookC (S := SSp) (C := ⟨w.heap.size + 1 + 1, [⟨w.heap.size, 34, 2, (-100000000000000), 100000000000000⟩, ⟨w.heap.size + 1, 36, 2, -1, 17⟩]⟩) (w0 := w) (M := 31) (cap := 990000) (c := 40) (fun t => if t = 5 then .rd else if t = 6 then .many 2 (-1) 17 else if t = 2 then .out 2 (-100000000000000) 100000000000000 else if t = 3 then .out 2 (-1) 17 else if t = 7 then .val (.int (-268435457) 9223372036854775807) else .any) [(6, .val (.int (-268435457) 9223372036854775807))] (SSp_ok _ _) ?_ RW ?_ (by omega) (by kernel_rfl) ?_ ?_
    · refine ⟨fun o ho => ?_, fun o ho o' ho' hh => ?_⟩
      · simp only [List.mem_cons, List.not_mem_nil, or_false] at ho
        rcases ho with rfl | rfl
        · exact ⟨by simp; omega, Nat.le_refl _⟩
        · exact ⟨by simp, by simp⟩
      · simp only [List.mem_cons, List.not_mem_nil, or_false] at ho ho'
        rcases ho with rfl | rfl <;> rcases ho' with rfl | rfl
        · rfl
        · simp at hh
        · simp at hh
        · rfl
    · intro o ho
      simp only [List.mem_cons, List.not_mem_nil, or_false] at ho
      rcases ho with rfl | rfl
      · refine ⟨_, bs, rfl, fun k hk => ⟨0, ?_, show (-100000000000000 : Int) ≤ 0 by decide, show (0 : Int) ≤ 100000000000000 by decide⟩⟩
        have hk : k < 2 := hk
        rcases (by omega : k = 0 ∨ k = 1) with rfl | rfl <;> rfl
      · refine ⟨_, bt, rfl, fun k hk => ⟨0, ?_, show (-1 : Int) ≤ 0 by decide, show (0 : Int) ≤ 17 by decide⟩⟩
        have hk : k < 2 := hk
        rcases (by omega : k = 0 ∨ k = 1) with rfl | rfl <;> rfl
    · intro t
      dsimp only
      repeat' split
      · rename_i h; subst h; rfl
      · rename_i h; subst h
        refine ⟨_, 0, rfl, ⟨by simp; omega, ?_⟩, fun i hi => ?_⟩
        · intro o ho
          simp only [List.mem_cons, List.not_mem_nil, or_false] at ho
          rcases ho with rfl | rfl
          · simp; omega
          · simp; omega
        · rcases (by omega : i = 0 ∨ i = 1) with rfl | rfl
          · exact ⟨p, (blk2 bf).1, by omega, by omega⟩
          · exact ⟨q, (blk2 bf).2.1, by omega, by omega⟩
      · rename_i h; subst h; exact ⟨_, List.mem_cons_self, rfl, rfl, rfl, rfl⟩
      · rename_i h; subst h; exact ⟨_, List.mem_cons_of_mem _ List.mem_cons_self, rfl, rfl, rfl, rfl⟩
      · rename_i h; subst h; exact ⟨n, rfl, n0, n1⟩
      · trivial
    · intro vs wv hv' hK
      simp only [List.forall_mem_cons, List.not_mem_nil, false_implies, implies_true, and_true] at hv'
      obtain ⟨z, hz, z0, z1⟩ := hv'
      obtain ⟨cs, bq, hcs, hall⟩ := hK.outs _ List.mem_cons_self
      obtain ⟨cs', bq', hcs', hall'⟩ := hK.outs _ (List.mem_cons_of_mem _ List.mem_cons_self)
      obtain ⟨r0, y0, l0, u0⟩ := hall 0 (show 0 < 2 by decide)
      obtain ⟨r1, y1, l1, u1⟩ := hall 1 (show 1 < 2 by decide)
      obtain ⟨r2, y2, l2, u2⟩ := hall' 0 (show 0 < 2 by decide)
      obtain ⟨r3, y3, l3, u3⟩ := hall' 1 (show 1 < 2 by decide)
      have k0 := (bq.cell 0).trans y0
      have k1 := (bq.cell 1).trans y1
      have k2 := (bq'.cell 0).trans y2
      have k3 := (bq'.cell 1).trans y3
      dsimp only at k0 k1 k2 k3 l0 l1 l2 l3 u0 u1 u2 u3
      have HR := Lib.hid hK.rd
      clear hK bq bq' hall hall' hcs hcs' y0 y1 y2 y3 bs bt bf RW
      simp only [putAll, Act.put, Nat.reduceAdd, hz, List.setIfInBounds_toArray, List.set_cons_zero, List.set_cons_succ]
      go_wp2
      refine bodyPost_ret (v := .tuple #[.agg #[.int .i64 r0, .int .i64 r1], .agg #[.int .i64 r2, .int .i64 r3], .int .i64 z]) (by simp [results, Try.results20, go_sem, k0, k1, k2, k3]) rfl ?_
      exact ⟨r0, r1, r2, r3, z, ⟨l0, u0⟩, ⟨l1, u1⟩, ⟨l2, u2⟩, ⟨l3, u3⟩, ⟨z0, z1⟩, rfl, HR.out.below⟩
  · obtain ⟨h1, h2, h3, h4⟩ := fmtB_mk hv
    refine (fmvb_spec hv _).mono ?_
    rintro e w4 ⟨rfl, mm, rfl⟩
    have RW := (RW.alloc (.cells #[.int .i64 p, .int .i64 q] 36)).drewN mm
    have bs := (bs.alloc (.cells #[.int .i64 p, .int .i64 q] 36)).drewN mm
    have bt := (bt.alloc (.cells #[.int .i64 p, .int .i64 q] 36)).drewN mm
    have bf := (bf.alloc (.cells #[.int .i64 p, .int .i64 q] 36)).drewN mm
    generalize (w3.alloc (.cells #[.int .i64 p, .int .i64 q] 36)).drewN mm = W at *
    go_wp2_with fail
    refine (pick_any RW (by omega) (by omega) (by omega)).mono ?_
    rintro e w5 ⟨x, x0, x1, rfl, R5, G5⟩
    have bs := bs.grown G5 (by intro e; injection e with e; first | omega | (simp at e; omega))
    have bt := bt.grown G5 (by intro e; injection e with e; first | omega | (simp at e; omega))
    have bf := bf.grown G5 (by intro e; injection e with e; first | omega | (simp at e; omega))
    have RW := R5
    clear R5 G5 c0 c1 c2 c3 lf
    obtain ⟨c0, c1, c2, c3, lf⟩ := blk2 bf
    by_cases hx : x = 0
    · subst hx
      go_wp2_with fail
      refine wp_region_lookC (S := SSp) (C := ⟨w.heap.size + 1 + 1, [⟨w.heap.size, 34, 2, (-100000000000000), 100000000000000⟩, ⟨w.heap.size + 1, 36, 2, -1, 17⟩]⟩) (w0 := w) (M := 31 + 1) (cap := 990000) (c := 40) (fun t => if t = 5 then .rd else if t = 6 then .many 2 (-1) 17 else if t = 2 then .out 2 (-100000000000000) 100000000000000 else if t = 3 then .out 2 (-1) 17 else if t = 7 then .val (.int (-268435457) 9223372036854775807) else .any) [(6, .val (.int (-268435457) 9223372036854775807))] (SSp_ok _ _) ?_ RW ?_ (by omega) (by kernel_rfl) ?_ ?_
      · refine ⟨fun o ho => ?_, fun o ho o' ho' hh => ?_⟩
        · simp only [List.mem_cons, List.not_mem_nil, or_false] at ho
          rcases ho with rfl | rfl
          · exact ⟨by simp; omega, Nat.le_refl _⟩
          · exact ⟨by simp, by simp⟩
        · simp only [List.mem_cons, List.not_mem_nil, or_false] at ho ho'
          rcases ho with rfl | rfl <;> rcases ho' with rfl | rfl
          · rfl
          · simp at hh
          · simp at hh
          · rfl
      · intro o ho
        simp only [List.mem_cons, List.not_mem_nil, or_false] at ho
        rcases ho with rfl | rfl
        · refine ⟨_, bs, rfl, fun k hk => ⟨0, ?_, show (-100000000000000 : Int) ≤ 0 by decide, show (0 : Int) ≤ 100000000000000 by decide⟩⟩
          have hk : k < 2 := hk
          rcases (by omega : k = 0 ∨ k = 1) with rfl | rfl <;> rfl
        · refine ⟨_, bt, rfl, fun k hk => ⟨0, ?_, show (-1 : Int) ≤ 0 by decide, show (0 : Int) ≤ 17 by decide⟩⟩
          have hk : k < 2 := hk
          rcases (by omega : k = 0 ∨ k = 1) with rfl | rfl <;> rfl
      · intro t
        dsimp only
        repeat' split
        · rename_i h; subst h; rfl
        · rename_i h; subst h
          refine ⟨_, 0, rfl, ⟨by simp; omega, ?_⟩, fun i hi => ?_⟩
          · intro o ho
            simp only [List.mem_cons, List.not_mem_nil, or_false] at ho
            rcases ho with rfl | rfl
            · simp; omega
            · simp; omega
          · rcases (by omega : i = 0 ∨ i = 1) with rfl | rfl
            · exact ⟨p, (blk2 bf).1, by omega, by omega⟩
            · exact ⟨q, (blk2 bf).2.1, by omega, by omega⟩
        · rename_i h; subst h; exact ⟨_, List.mem_cons_self, rfl, rfl, rfl, rfl⟩
        · rename_i h; subst h; exact ⟨_, List.mem_cons_of_mem _ List.mem_cons_self, rfl, rfl, rfl, rfl⟩
        · rename_i h; subst h; exact ⟨n, rfl, n0, n1⟩
        · trivial
      · intro vs wv hv' hK
        simp only [List.forall_mem_cons, List.not_mem_nil, false_implies, implies_true, and_true] at hv'
        obtain ⟨z, hz, z0, z1⟩ := hv'
        obtain ⟨cs, bq, hcs, hall⟩ := hK.outs _ List.mem_cons_self
        obtain ⟨cs', bq', hcs', hall'⟩ := hK.outs _ (List.mem_cons_of_mem _ List.mem_cons_self)
        obtain ⟨r0, y0, l0, u0⟩ := hall 0 (show 0 < 2 by decide)
        obtain ⟨r1, y1, l1, u1⟩ := hall 1 (show 1 < 2 by decide)
        obtain ⟨r2, y2, l2, u2⟩ := hall' 0 (show 0 < 2 by decide)
        obtain ⟨r3, y3, l3, u3⟩ := hall' 1 (show 1 < 2 by decide)
        have k0 := (bq.cell 0).trans y0
        have k1 := (bq.cell 1).trans y1
        have k2 := (bq'.cell 0).trans y2
        have k3 := (bq'.cell 1).trans y3
        dsimp only at k0 k1 k2 k3 l0 l1 l2 l3 u0 u1 u2 u3
        have HR := Lib.hid hK.rd
        clear hK bq bq' hall hall' hcs hcs' y0 y1 y2 y3 bs bt bf RW
        simp only [putAll, Act.put, Nat.reduceAdd, hz, List.setIfInBounds_toArray, List.set_cons_zero, List.set_cons_succ]
        go_wp2
        refine bodyPost_ret (v := .tuple #[.agg #[.int .i64 r0, .int .i64 r1], .agg #[.int .i64 r2, .int .i64 r3], .int .i64 z]) (by simp [results, Try.results20, go_sem, k0, k1, k2, k3]) rfl ?_
        exact ⟨r0, r1, r2, r3, z, ⟨l0, u0⟩, ⟨l1, u1⟩, ⟨l2, u2⟩, ⟨l3, u3⟩, ⟨z0, z1⟩, rfl, HR.out.below⟩
    · have hx' : (x == 0) = false := by simp; omega
      go_wp2_with fail
      obtain ⟨g8, g9⟩ := p2_bd (k := q) (by omega) (by omega)
      have g10 : (2 : Int) ^ q.toNat ≤ 65536 := by
        have hk : q.toNat ≤ 16 := by omega
        have e1 : (2 : Nat) ^ q.toNat ≤ 2 ^ 16 := Nat.pow_le_pow_right (by omega) hk
        have e2 : ((2 ^ q.toNat : Nat) : Int) = (2 : Int) ^ q.toNat := by rw [Int.natCast_pow]; rfl
        omega
      have e1 : IntKind.i64.wrap (-3 * 2 ^ q.toNat) = -3 * 2 ^ q.toNat := IntWalk.i64_in _ (by omega)
      have e2 : IntKind.i64.wrap (3 * 2 ^ q.toNat) = 3 * 2 ^ q.toNat := IntWalk.i64_in _ (by omega)
      go_quiet (fail)
      obtain ⟨m, hm, m0, m1⟩ : ∃ m : Int, m = (if -3 * 2 ^ q.toNat < if n < 3 * 2 ^ q.toNat then n else 3 * 2 ^ q.toNat then if n < 3 * 2 ^ q.toNat then n else 3 * 2 ^ q.toNat else -3 * 2 ^ q.toNat) ∧ -196608 ≤ m ∧ m ≤ 196608 :=
        ⟨_, rfl, by split <;> split <;> omega, by split <;> split <;> omega⟩
      rw [← hm]
      clear hm e1 e2
      generalize (if n < 3 * 2 ^ q.toNat then n else 3 * 2 ^ q.toNat) = m2
      have bs := bs.drewN nq
      have bt := bt.drewN nq
      have bf := bf.drewN nq
      have RW := RW.drewN nq
      generalize w5.drewN nq = W5 at *
      clear c0 c1 c2 c3 lf
      obtain ⟨c0, c1, c2, c3, lf⟩ := blk2 bf
      obtain ⟨g1, g2⟩ := p2_bd (k := 28 - q) (by omega) (by omega)
      obtain ⟨g3, g4⟩ := p2_bd (k := 27 - q) (by omega) (by omega)
      have g5 : (2 : Int) ^ (27 - q).toNat ≤ 134217728 := by
        have hk : (27 - q).toNat ≤ 27 := by omega
        have e1 : (2 : Nat) ^ (27 - q).toNat ≤ 2 ^ 27 := Nat.pow_le_pow_right (by omega) hk
        have e2 : ((2 ^ (27 - q).toNat : Nat) : Int) = (2 : Int) ^ (27 - q).toNat := by rw [Int.natCast_pow]; rfl
        omega
      obtain ⟨g6, g7⟩ := mul_mag (x := m) (y := 2 ^ (28 - q).toNat) (m := 196608) (n := 268435456) m0 m1 (by omega) g2
      go_wp2_with fail
      refine wp_region_lookC (S := SSp) (C := ⟨w.heap.size + 1 + 1, [⟨w.heap.size, 34, 2, (-100000000000000), 100000000000000⟩, ⟨w.heap.size + 1, 36, 2, -1, 17⟩]⟩) (w0 := w) (M := 31 + 1) (cap := 990000) (c := 40) (fun t => if t = 5 then .rd else if t = 6 then .many 2 (-1) 17 else if t = 2 then .out 2 (-100000000000000) 100000000000000 else if t = 3 then .out 2 (-1) 17 else if t = 7 then .val (.int (-268435457) 9223372036854775807) else if t = 8 then .val (.int (-53000000000000) 53000000000000) else if t = 9 then .val (.int 1 134217728) else .any) [(29, .val (.int (-268435457) 9223372036854775807))] (SSp_ok _ _) ?_ RW ?_ (by omega) (by kernel_rfl) ?_ ?_
      · refine ⟨fun o ho => ?_, fun o ho o' ho' hh => ?_⟩
        · simp only [List.mem_cons, List.not_mem_nil, or_false] at ho
          rcases ho with rfl | rfl
          · exact ⟨by simp; omega, Nat.le_refl _⟩
          · exact ⟨by simp, by simp⟩
        · simp only [List.mem_cons, List.not_mem_nil, or_false] at ho ho'
          rcases ho with rfl | rfl <;> rcases ho' with rfl | rfl
          · rfl
          · simp at hh
          · simp at hh
          · rfl
      · intro o ho
        simp only [List.mem_cons, List.not_mem_nil, or_false] at ho
        rcases ho with rfl | rfl
        · refine ⟨_, bs, rfl, fun k hk => ⟨0, ?_, show (-100000000000000 : Int) ≤ 0 by decide, show (0 : Int) ≤ 100000000000000 by decide⟩⟩
          have hk : k < 2 := hk
          rcases (by omega : k = 0 ∨ k = 1) with rfl | rfl <;> rfl
        · refine ⟨_, bt, rfl, fun k hk => ⟨0, ?_, show (-1 : Int) ≤ 0 by decide, show (0 : Int) ≤ 17 by decide⟩⟩
          have hk : k < 2 := hk
          rcases (by omega : k = 0 ∨ k = 1) with rfl | rfl <;> rfl
      · intro t
        dsimp only
        repeat' split
        · rename_i h; subst h; rfl
        · rename_i h; subst h
          refine ⟨_, 0, rfl, ⟨by simp; omega, ?_⟩, fun i hi => ?_⟩
          · intro o ho
            simp only [List.mem_cons, List.not_mem_nil, or_false] at ho
            rcases ho with rfl | rfl
            · simp; omega
            · simp; omega
          · rcases (by omega : i = 0 ∨ i = 1) with rfl | rfl
            · exact ⟨p, (blk2 bf).1, by omega, by omega⟩
            · exact ⟨q, (blk2 bf).2.1, by omega, by omega⟩
        · rename_i h; subst h; exact ⟨_, List.mem_cons_self, rfl, rfl, rfl, rfl⟩
        · rename_i h; subst h; exact ⟨_, List.mem_cons_of_mem _ List.mem_cons_self, rfl, rfl, rfl, rfl⟩
        · rename_i h; subst h; exact ⟨m, rfl, by omega, by omega⟩
        · rename_i h; subst h; exact ⟨_, rfl, by omega, by omega⟩
        · rename_i h; subst h; exact ⟨_, rfl, by omega, by omega⟩
        · trivial
      · intro vs wv hv' hK
        simp only [List.forall_mem_cons, List.not_mem_nil, false_implies, implies_true, and_true] at hv'
        obtain ⟨z, hz, z0, z1⟩ := hv'
        obtain ⟨cs, bq, hcs, hall⟩ := hK.outs _ List.mem_cons_self
        obtain ⟨cs', bq', hcs', hall'⟩ := hK.outs _ (List.mem_cons_of_mem _ List.mem_cons_self)
        obtain ⟨r0, y0, l0, u0⟩ := hall 0 (show 0 < 2 by decide)
        obtain ⟨r1, y1, l1, u1⟩ := hall 1 (show 1 < 2 by decide)
        obtain ⟨r2, y2, l2, u2⟩ := hall' 0 (show 0 < 2 by decide)
        obtain ⟨r3, y3, l3, u3⟩ := hall' 1 (show 1 < 2 by decide)
        have k0 := (bq.cell 0).trans y0
        have k1 := (bq.cell 1).trans y1
        have k2 := (bq'.cell 0).trans y2
        have k3 := (bq'.cell 1).trans y3
        dsimp only at k0 k1 k2 k3 l0 l1 l2 l3 u0 u1 u2 u3
        have HR := Lib.hid hK.rd
        clear hK bq bq' hall hall' hcs hcs' y0 y1 y2 y3 bs bt bf RW
        simp only [putAll, Act.put, Nat.reduceAdd, hz, List.setIfInBounds_toArray, List.set_cons_zero, List.set_cons_succ]
        go_wp2
        refine bodyPost_ret (v := .tuple #[.agg #[.int .i64 r0, .int .i64 r1], .agg #[.int .i64 r2, .int .i64 r3], .int .i64 z]) (by simp [results, Try.results20, go_sem, k0, k1, k2, k3]) rfl ?_
        exact ⟨r0, r1, r2, r3, z, ⟨l0, u0⟩, ⟨l1, u1⟩, ⟨l2, u2⟩, ⟨l3, u3⟩, ⟨z0, z1⟩, rfl, HR.out.below⟩

end Go.Proofs.Ytpecffijmamddaa
