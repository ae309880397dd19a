/- The reader that the drawing functions use: l20Open makes it, pick reads one number below n, odd asks for the last of n. No condition: contracts for the walks of the laws. -/
import Derived.Test.YtidnnnjjpjadlaaGreatDoorBase
namespace Go.Proofs.YtidnnnjjpjadlaaGreatDoor
open Go.ChangeShapes Go.WideShapes Go.ChangeAt Go.RowKit

/-- A slice of bytes that lies below block B. -/
def Code (w : World) (B : Nat) (a : Option Addr) (len : Nat) : Prop :=
  len = 0 ∨ ∃ (b off : Nat) (f : Nat → Int), a = some ⟨b, off, none⟩ ∧ b < B ∧ ∀ i, i < len → 0 ≤ f i ∧ f i ≤ 255 ∧ w.cell? ⟨b, off + i, none⟩ = some (.int .u8 (f i))

/-- Block g is a reader over bytes that were there in w0; it has read at most N numbers; below w0's blocks nothing has turned. -/
def Rds (w0 w : World) (g N : Nat) : Prop :=
  w0.heap.size ≤ g ∧ Below w0.heap.size w0 w ∧ ∃ (a : Option Addr) (len cap p : Nat), len ≤ 2000 ∧ len ≤ cap ∧ cap ≤ maxLen ∧ p ≤ N ∧ Code w0 w0.heap.size a len ∧
    w.heap[g]? = some (.cells #[.slice a len cap, .int .i64 (p : Int)] 72 (0, 0))

theorem Rds.mono {w0 w : World} {g N M : Nat} (h : Rds w0 w g N) (hM : N ≤ M) : Rds w0 w g M := by
  obtain ⟨h1, h2, a, len, cap, p, h3, h4, h5, h6, h7, h8⟩ := h
  exact ⟨h1, h2, a, len, cap, p, h3, h4, h5, by omega, h7, h8⟩

theorem Rds.lt {w0 w : World} {g N : Nat} (h : Rds w0 w g N) : g < w.heap.size := by
  obtain ⟨_, _, _, _, _, _, _, _, _, _, _, h8⟩ := h
  exact heap_lt h8

theorem Rds.below {w0 w : World} {g N : Nat} (h : Rds w0 w g N) : Below w0.heap.size w0 w := h.2.1

theorem Rds.alloc {w0 w : World} {g N : Nat} (h : Rds w0 w g N) (o : Obj) : Rds w0 (w.alloc o) g N := by
  have hl := h.lt
  obtain ⟨h1, h2, a, len, cap, p, h3, h4, h5, h6, h7, h8⟩ := h
  exact ⟨h1, h2.alloc (by have := h2.size; omega) o, a, len, cap, p, h3, h4, h5, h6, h7, (Below.heap_alloc w o g hl).trans h8⟩

theorem Rds.drew {w0 w : World} {g N : Nat} (h : Rds w0 w g N) : Rds w0 w.drew g N := by
  obtain ⟨h1, h2, a, len, cap, p, h3, h4, h5, h6, h7, h8⟩ := h
  exact ⟨h1, h2.drew, a, len, cap, p, h3, h4, h5, h6, h7, h8⟩

/-- A store into another block that the call made. -/
theorem Rds.setCell {w0 w : World} {g N : Nat} (h : Rds w0 w g N) {q : Addr} (hq : w0.heap.size ≤ q.block) (hne : g ≠ q.block) (u : Value) : Rds w0 (w.setCell q u) g N := by
  obtain ⟨h1, h2, a, len, cap, p, h3, h4, h5, h6, h7, h8⟩ := h
  exact ⟨h1, h2.setCell hq u, a, len, cap, p, h3, h4, h5, h6, h7, (Below.heap_setCell w q u g hne).trans h8⟩

/-- Behind a step that wrote no old block, or a row of the call's own. -/
theorem Rds.grown {w0 w w' : World} {g N : Nat} (h : Rds w0 w g N) {row : Option Nat} (hg : w.grownBy w' row) (hr : ∀ k, row = some k → w0.heap.size ≤ k ∧ k ≠ g) : Rds w0 w' g N := by
  have hl := h.lt
  obtain ⟨h1, h2, a, len, cap, p, h3, h4, h5, h6, h7, h8⟩ := h
  exact ⟨h1, h2.grown hg h2.size (fun k hk => (hr k hk).1), a, len, cap, p, h3, h4, h5, h6, h7, (hg.block g hl (fun e => (hr g e.symm).2 rfl)).trans h8⟩

/-- What pick leaves. -/
def PickPost (w0 w : World) (g N : Nat) (n : Int) (e : Ending) (w' : World) : Prop :=
  ∃ x : Int, 0 ≤ x ∧ x < n ∧ e = .returned (.int .i64 x) ∧ Rds w0 w' g (N + 1) ∧ w.grownBy w' (some g)

theorem pickPost_mk {w0 w w1 : World} {g N : Nat} {n x : Int} {a : Option Addr} {len cap p : Nat} (h0 : 0 ≤ x) (h1 : x < n)
    (hr1 : w0.heap.size ≤ g) (hr2 : Below w0.heap.size w0 w) (h3 : len ≤ 2000) (h4 : len ≤ cap) (h5 : cap ≤ maxLen) (h6 : p ≤ N) (h7 : Code w0 w0.heap.size a len)
    (h8 : w.heap[g]? = some (.cells #[.slice a len cap, .int .i64 (p : Int)] 72 (0, 0)))
    (hw : w1 = w.setCell ⟨g, 1, none⟩ (.int .i64 ((p : Int) + 1)) ∨ ∃ k, w1 = (w.setCell ⟨g, 1, none⟩ (.int .i64 ((p : Int) + 1))).drewN k) :
    PickPost w0 w g N n (.returned (.int .i64 x)) w1 := by
  have e8 : (w.setCell ⟨g, 1, none⟩ (.int .i64 ((p : Int) + 1))).heap[g]? = some (.cells #[.slice a len cap, .int .i64 ((p + 1 : Nat) : Int)] 72 (0, 0)) := by
    obtain ⟨hlt, hge⟩ := Array.getElem?_eq_some_iff.1 h8
    simp [World.setCell, Array.getElem?_modify, h8]
  have hbl := hr2.setCell (p := ⟨g, 1, none⟩) hr1 (.int .i64 ((p : Int) + 1))
  have hgr : w.grownBy (w.setCell ⟨g, 1, none⟩ (.int .i64 ((p : Int) + 1))) (some g) :=
    ⟨rfl, rfl, rfl, by simp [World.setCell], fun i hi hne => Below.heap_setCell w _ _ i (by intro e; exact hne (by rw [e]))⟩
  rcases hw with rfl | ⟨k, rfl⟩
  · exact ⟨x, h0, h1, rfl, ⟨hr1, hbl, a, len, cap, p + 1, h3, h4, h5, by omega, h7, e8⟩, hgr⟩
  · exact ⟨x, h0, h1, rfl, ⟨hr1, ⟨hbl.os, hbl.tape, hbl.output, hbl.size, hbl.block⟩, a, len, cap, p + 1, h3, h4, h5, by omega, h7, e8⟩, ⟨hgr.os, hgr.tape, hgr.output, hgr.size, hgr.block⟩⟩

theorem bits_xor_nonneg {a b : Int} (h0 : 0 ≤ a) (h1 : a < 9223372036854775808) (h2 : 0 ≤ b) (h3 : b < 9223372036854775808) : 0 ≤ bits .xor .i64 a b := by
  obtain ⟨x, rfl⟩ := Int.eq_ofNat_of_zero_le h0
  obtain ⟨y, rfl⟩ := Int.eq_ofNat_of_zero_le h2
  have e1 : ∀ n : Nat, n < 9223372036854775808 → (BitVec.ofInt 64 (n : Int)).toNat = n := by
    intro n hn
    rw [BitVec.ofInt_natCast, BitVec.toNat_ofNat]
    exact Nat.mod_eq_of_lt (by omega)
  have hx : x ^^^ y < 2 ^ 63 := Nat.xor_lt_two_pow (by omega) (by omega)
  show 0 ≤ IntKind.i64.wrap ((BitVec.ofInt 64 (x : Int) ^^^ BitVec.ofInt 64 (y : Int)).toNat : Int)
  rw [BitVec.toNat_xor, e1 x (by omega), e1 y (by omega), IntKind.wrap_i64]
  omega

set_option maxHeartbeats 400000 in
theorem pick_any {w0 w : World} {g N : Nat} {n : Int} (hR : Rds w0 w g N) (hN : N ≤ 1000000) (h1 : 1 ≤ n) (h2 : n ≤ 4611686018427387904) :
    Calls Tryz.prog 45 #[.pointer (some ⟨g, 0, none⟩), .int .i64 n] w (PickPost w0 w g N n) := by
  obtain ⟨hr1, hr2, a, len, cap, p, h3, h4, h5, h6, h7, h8⟩ := hR
  have hp : (p : Int) ≤ 1000000 := by omega
  have hc0 : w.cell? ⟨g, 0, none⟩ = some (.slice a len cap) := by simp [World.cell?, h8]
  have hc1 : w.cell? ⟨g, 1, none⟩ = some (.int .i64 (p : Int)) := by simp [World.cell?, h8]
  have hf1 : w.frozen? ⟨g, 1, none⟩ = false := by simp [World.frozen?, h8]
  have hfin := fun (x : Int) (w1 : World) (h0 : 0 ≤ x) (h1' : x < n) hw => pickPost_mk (w1 := w1) h0 h1' hr1 hr2 h3 h4 h5 h6 h7 h8 hw
  have HF := Lib.hid hfin
  clear hfin h8
  rcases Nat.eq_zero_or_pos len with rfl | hl
  · clear h7
    go_enter Tryz.func45, Tryz.ntmps45
    go_wp2
    go_ret
    exact HF.out 0 _ (by omega) (by omega) (.inl rfl)
  · obtain ⟨b, off, f, rfl, hb, hf⟩ : ∃ (b off : Nat) (f : Nat → Int), a = some ⟨b, off, none⟩ ∧ b < w0.heap.size ∧ ∀ i, i < len → 0 ≤ f i ∧ f i ≤ 255 ∧ w0.cell? ⟨b, off + i, none⟩ = some (.int .u8 (f i)) := by
      rcases h7 with h | h
      · omega
      · exact h
    have hcell : ∀ i, i < len → (w.setCell ⟨g, 1, none⟩ (.int .i64 ((p : Int) + 1))).cell? ⟨b, off + i, none⟩ = some (.int .u8 (f i)) := by
      intro i hi
      rw [World.cell?_setCell_other _ _ _ _ (by intro e; injection e with e1; omega), hr2.cell (p := ⟨b, off + i, none⟩) hb]
      exact (hf i hi).2.2
    have hl' : ((len : Int) == 0) = false := by simp; omega
    have hlen : (len : Int) ≤ 2000 := by omega
    by_cases hk : p < len
    · have c1 := hcell p hk
      obtain ⟨f1, f2, _⟩ := hf p hk
      have hm1 : 0 ≤ f p % n := Int.emod_nonneg _ (by omega)
      have hm2 : f p % n < n := Int.emod_lt_of_pos _ (by omega)
      have H1 := Lib.hid hm1
      have H2 := Lib.hid hm2
      clear hcell hf hm1 hm2
      go_enter Tryz.func45, Tryz.ntmps45
      go_wp2
      go_ret
      exact HF.out _ _ H1.out H2.out (.inl rfl)
    · have c1 := hcell (p % len) (Nat.mod_lt _ hl)
      have c2 := hcell ((p * 7 + 3) % len) (Nat.mod_lt _ hl)
      obtain ⟨g1, g2, _⟩ := hf (p % len) (Nat.mod_lt _ hl)
      obtain ⟨g3, g4, _⟩ := hf ((p * 7 + 3) % len) (Nat.mod_lt _ hl)
      have t1 : (p : Int).tmod (len : Int) = ((p % len : Nat) : Int) := by rw [Int.tmod_eq_emod_of_nonneg (by omega)]; omega
      have t2 : ((p : Int) * 7 + 3).tmod (len : Int) = (((p * 7 + 3) % len : Nat) : Int) := by rw [Int.tmod_eq_emod_of_nonneg (by omega), show (p : Int) * 7 + 3 = ((p * 7 + 3 : Nat) : Int) by omega]; omega
      have t3 : (p : Int).tdiv (len : Int) = ((p / len : Nat) : Int) := by rw [Int.tdiv_eq_ediv_of_nonneg (by omega)]; omega
      have m1 : p % len < len := Nat.mod_lt _ hl
      have m2 : (p * 7 + 3) % len < len := Nat.mod_lt _ hl
      have m3 : p / len ≤ p := Nat.div_le_self _ _
      generalize f (p % len) = v1 at c1 g1 g2
      generalize f ((p * 7 + 3) % len) = v2 at c2 g3 g4
      generalize p % len = q1 at c1 t1 m1
      generalize (p * 7 + 3) % len = q2 at c2 t2 m2
      generalize p / len = q3 at t3 m3
      have hne1 : ¬ len = 0 := by omega
      have r1 : IntKind.i64.wrap ((p : Int) * 7) = (p : Int) * 7 := IntWalk.i64_in _ (by omega)
      have r2 : IntKind.i64.wrap ((p : Int) * 7 + 3) = (p : Int) * 7 + 3 := IntWalk.i64_in _ (by omega)
      have r3 : IntKind.i64.wrap (v1 * 131) = v1 * 131 := IntWalk.i64_in _ (by omega)
      have r4 : IntKind.i64.wrap (v2 * 1117) = v2 * 1117 := IntWalk.i64_in _ (by omega)
      have r5 : IntKind.i64.wrap (v1 * 131 + v2 * 1117) = v1 * 131 + v2 * 1117 := IntWalk.i64_in _ (by omega)
      have r6 : IntKind.i64.wrap ((p : Int) * 29) = (p : Int) * 29 := IntWalk.i64_in _ (by omega)
      have r7 : IntKind.i64.wrap (v1 * 131 + v2 * 1117 + (p : Int) * 29) = v1 * 131 + v2 * 1117 + (p : Int) * 29 := IntWalk.i64_in _ (by omega)
      have r8 : IntKind.i64.wrap ((q3 : Int) * 53) = (q3 : Int) * 53 := IntWalk.i64_in _ (by omega)
      have r9 : IntKind.i64.wrap (v1 * 131 + v2 * 1117 + (p : Int) * 29 + (q3 : Int) * 53) = v1 * 131 + v2 * 1117 + (p : Int) * 29 + (q3 : Int) * 53 := IntWalk.i64_in _ (by omega)
      have r10 : IntKind.i64.wrap v1 = v1 := IntWalk.i64_in _ (by omega)
      have r11 : IntKind.i64.wrap v2 = v2 := IntWalk.i64_in _ (by omega)
      have r12 : IntKind.i64.wrap (q3 : Int) = q3 := IntWalk.i64_in _ (by omega)
      have k1 : (0 : Int) ≤ (q1 : Int) := by omega
      have k2 : (q1 : Int) < (len : Int) := by omega
      have k3 : (0 : Int) ≤ (q2 : Int) := by omega
      have k4 : (q2 : Int) < (len : Int) := by omega
      clear hcell hf
      go_enter Tryz.func45, Tryz.ntmps45
      go_wp2
      go_quiet (fail)
      clear r1 r2 r3 r4 r5 r6 r7 r8 r9 r10 r11 r12 t1 t2 t3
      have d1 : 0 ≤ v1 * 131 + v2 * 1117 + (p : Int) * 29 + (q3 : Int) * 53 := by omega
      have d2 : v1 * 131 + v2 * 1117 + (p : Int) * 29 + (q3 : Int) * 53 < 9223372036854775808 := by omega
      have d3 := bits_xor_nonneg d1 d2 (b := (v1 * 131 + v2 * 1117 + (p : Int) * 29 + (q3 : Int) * 53) / 64) (by omega) (by omega)
      go_wp2
      go_ret
      exact HF.out _ _ (Int.emod_nonneg _ (by omega)) (Int.emod_lt_of_pos _ (by omega)) (.inr ⟨_, rfl⟩)

/-- What odd leaves. -/
def OddPost (w0 w : World) (g N : Nat) (e : Ending) (w' : World) : Prop :=
  ∃ b : Bool, e = .returned (.bool b) ∧ Rds w0 w' g (N + 1) ∧ w.grownBy w' (some g)

theorem grownBy_alloc {w w' : World} {r : Option Nat} (h : w.grownBy w' r) (o : Obj) : w.grownBy (w'.alloc o) r :=
  ⟨h.os, h.tape, h.output, Nat.le_trans h.size (by simp), fun i hi hne => (Below.heap_alloc w' o i (Nat.lt_of_lt_of_le hi h.size)).trans (h.block i hi hne)⟩
theorem grownBy_trans {a b c : World} {r : Option Nat} (h : a.grownBy b r) (k : b.grownBy c r) : a.grownBy c r :=
  ⟨k.os.trans h.os, k.tape.trans h.tape, k.output.trans h.output, Nat.le_trans h.size k.size, fun i hi hne => (k.block i (Nat.lt_of_lt_of_le hi h.size) hne).trans (h.block i hi hne)⟩
theorem grownBy_below {a b c : World} {r : Option Nat} (h : a.grownBy b r) (k : Below b.heap.size b c) : a.grownBy c r :=
  ⟨k.os.trans h.os, k.tape.trans h.tape, k.output.trans h.output, Nat.le_trans h.size k.size, fun i hi hne => (k.block i (Nat.lt_of_lt_of_le hi h.size)).trans (h.block i hi hne)⟩
theorem grownBy_setCell {w w' : World} {r : Option Nat} (h : w.grownBy w' r) {p : Addr} (hp : w.heap.size ≤ p.block) (u : Value) : w.grownBy (w'.setCell p u) r :=
  ⟨h.os, h.tape, h.output, by have := h.size; simpa [World.setCell] using this, fun i hi hne => (Below.heap_setCell w' p u i (by omega)).trans (h.block i hi hne)⟩
theorem grownBy_drewN {w w' : World} {r : Option Nat} (h : w.grownBy w' r) (n : Nat) : w.grownBy (w'.drewN n) r := ⟨h.os, h.tape, h.output, h.size, h.block⟩

set_option maxHeartbeats 400000 in
theorem odd_any {w0 w : World} {g N : Nat} {n : Int} (hR : Rds w0 w g N) (hN : N ≤ 1000000) (h1 : 1 ≤ n) (h2 : n ≤ 1000000) :
    Calls Tryz.prog 46 #[.pointer (some ⟨g, 0, none⟩), .int .i64 n] w (OddPost w0 w g N) := by
  have hd : decide ((0 : Int) < n) = true := by simp; omega
  have hfin : ∀ (b : Bool) (w' : World), Rds w0 w' g (N + 1) → w.grownBy w' (some g) → OddPost w0 w g N (.returned (.bool b)) w' := fun b w' h h' => ⟨b, rfl, h, h'⟩
  have HF := Lib.hid hfin
  have HP := Lib.hid (pick_any hR hN h1 (by omega))
  clear hfin hR
  go_enter Tryz.func46, Tryz.ntmps46
  go_wp2_with fail
  refine HP.out.mono ?_
  rintro e w' ⟨x, hx0, hx1, rfl, hR', hG⟩
  go_wp2
  go_ret
  exact HF.out _ _ hR' hG

/-- What l20Open leaves. -/
def OpenPost (w0 : World) (e : Ending) (w' : World) : Prop :=
  ∃ g : Nat, e = .returned (.pointer (some ⟨g, 0, none⟩)) ∧ Rds w0 w' g 0

theorem code_of_row {w : World} {a : Option Addr} {len cap : Nat} {zs : List Int} (h : IsRow .u8 w a len cap zs) : len ≤ cap ∧ cap ≤ maxLen ∧ Code w w.heap.size a len := by
  rcases h with ⟨rfl, rfl, rfl, rfl⟩ | ⟨x, rfl, h1, h2, h3, h4, h5, h6⟩
  · exact ⟨Nat.le_refl _, Nat.zero_le _, .inl rfl⟩
  · refine ⟨h1, h2, ?_⟩
    rcases Nat.eq_zero_or_pos len with h0 | h0
    · exact .inl h0
    · obtain ⟨b, off, spot⟩ := x
      have hc := h4 0 (by omega)
      have hspot : spot = none := by simpa [Addr.add] using World.cell?_spot hc
      subst hspot
      refine .inr ⟨b, off, fun i => zs.getD i 0, rfl, h6 (by omega), fun i hi => ?_⟩
      have hm : zs.getD i 0 ∈ zs := by
        rw [List.getD_eq_getElem?_getD, List.getElem?_eq_getElem (by omega : i < zs.length)]
        exact List.getElem_mem _
      have hb := bounds_u8 (h5 _ hm)
      have hcell := h4 i (by omega)
      rw [Addr.add_lit] at hcell
      exact ⟨hb.1, hb.2, hcell⟩

theorem rds_new {w : World} {a : Option Addr} {len cap : Nat} (h1 : len ≤ cap) (h2 : cap ≤ maxLen) (h3 : Code w w.heap.size a len) (h4 : len ≤ 2000) :
    OpenPost w (.returned (.pointer (some ⟨w.heap.size, 0, none⟩))) (w.alloc (.cells #[.slice a len cap, .int .i64 0] 72)) :=
  ⟨w.heap.size, rfl, Nat.le_refl _, (Below.refl _ _).alloc (Nat.le_refl _) _, a, len, cap, 0, h4, h1, h2, Nat.le_refl _, h3, heap_alloc_new w _⟩

theorem Code.cut {w : World} {B : Nat} {a : Option Addr} {len n : Nat} (h : Code w B a len) (hn : n ≤ len) : Code w B a n := by
  rcases h with rfl | ⟨b, off, f, h1, h2, h3⟩
  · exact .inl (by omega)
  · exact .inr ⟨b, off, f, h1, h2, fun i hi => h3 i (by omega)⟩

set_option maxHeartbeats 400000 in
theorem open_any {w : World} {a : Option Addr} {len cap : Nat} {zs : List Int} (h : IsRow .u8 w a len cap zs) :
    Calls Tryz.prog 24 #[.slice a len cap] w (OpenPost w) := by
  obtain ⟨h1, h2, h3⟩ := code_of_row h
  have hm : cap ≤ 9223372036854775807 := by unfold maxLen at h2; omega
  clear h
  by_cases hl : len ≤ 2000
  · have HF := Lib.hid (rds_new h1 h2 h3 hl)
    clear h1 h2 h3
    go_enter Tryz.func24, Tryz.ntmps24
    go_wp2
    go_ret
    exact HF.out
  · have HF := Lib.hid (rds_new (by omega : 2000 ≤ cap) h2 (h3.cut (by omega : 2000 ≤ len)) (Nat.le_refl _))
    clear h2 h3
    go_enter Tryz.func24, Tryz.ntmps24
    go_wp2
    go_ret
    exact HF.out


/-- What l20Open leaves, over an older world wb. -/
def OpenBPost (wb w : World) (e : Ending) (w' : World) : Prop :=
  e = .returned (.pointer (some ⟨w.heap.size, 0, none⟩)) ∧ Rds wb w' w.heap.size 0 ∧ Below w.heap.size w w'

theorem rdsB_new {wb w : World} {a : Option Addr} {len cap : Nat} (hb : Below wb.heap.size wb w) (h1 : len ≤ cap) (h2 : cap ≤ maxLen) (h3 : Code wb wb.heap.size a len) (h4 : len ≤ 2000) :
    OpenBPost wb w (.returned (.pointer (some ⟨w.heap.size, 0, none⟩))) (w.alloc (.cells #[.slice a len cap, .int .i64 0] 72)) :=
  ⟨rfl, ⟨hb.size, hb.alloc hb.size _, a, len, cap, 0, h4, h1, h2, Nat.le_refl _, h3, heap_alloc_new w _⟩, (Below.refl _ _).alloc (Nat.le_refl _) _⟩

set_option maxHeartbeats 400000 in
theorem open_base {wb w : World} {a : Option Addr} {len cap : Nat} {zs : List Int} (hb : Below wb.heap.size wb w) (h : IsRow .u8 wb a len cap zs) :
    Calls Tryz.prog 24 #[.slice a len cap] w (OpenBPost wb w) := by
  obtain ⟨h1, h2, h3⟩ := code_of_row h
  have hm : cap ≤ 9223372036854775807 := by unfold maxLen at h2; omega
  clear h
  by_cases hl : len ≤ 2000
  · have HF := Lib.hid (rdsB_new hb h1 h2 h3 hl)
    clear h1 h2 h3 hb
    go_enter Tryz.func24, Tryz.ntmps24
    go_wp2
    go_ret
    exact HF.out
  · have HF := Lib.hid (rdsB_new hb (by omega : 2000 ≤ cap) h2 (h3.cut (by omega : 2000 ≤ len)) (Nat.le_refl _))
    clear h2 h3 hb
    go_enter Tryz.func24, Tryz.ntmps24
    go_wp2
    go_ret
    exact HF.out

theorem isRow_alloc {k : IntKind} {w : World} {a : Option Addr} {len cap : Nat} {zs : List Int} (h : IsRow k w a len cap zs) (o : Obj) : IsRow k (w.alloc o) a len cap zs := by
  rcases h with h | ⟨x, h1, h2, h3, h4, h5, h6, h7⟩
  · exact .inl h
  · refine .inr ⟨x, h1, h2, h3, h4, fun i hi => ?_, h6, fun h => by have := h7 h; simp; omega⟩
    have hx := h7 (by omega)
    rw [World.cell?_alloc_lt w o _ (by unfold Addr.add; split <;> simpa using hx)]
    exact h5 i hi

/-- A cell of a row of numbers that lie between lo and hi. -/
theorem draw_cell {w : World} {g : Nat} {t : TypeId} {l : List Int} {lo hi x : Int} (h : Blk w g t (l.map (Value.int .i64)).toArray) (hl : ∀ y ∈ l, lo ≤ y ∧ y ≤ hi) (h0 : 0 ≤ x) (h1 : x < l.length) :
    ∃ v, lo ≤ v ∧ v ≤ hi ∧ w.cell? ⟨g, x.toNat, none⟩ = some (.int .i64 v) := by
  have hx : x.toNat < l.length := by omega
  refine ⟨l[x.toNat], (hl _ (List.getElem_mem hx)).1, (hl _ (List.getElem_mem hx)).2, ?_⟩
  rw [h.cell]
  simp [hx]

/-- A place in a written-out row of numbers. -/
theorem draw_at {l : List Int} {lo hi x : Int} (hl : ∀ y ∈ l, lo ≤ y ∧ y ≤ hi) (h0 : 0 ≤ x) (h1 : x < l.length) : ∃ v, lo ≤ v ∧ v ≤ hi ∧ (l.map (Value.int .i64))[x.toNat]? = some (.int .i64 v) := by
  have hx : x.toNat < l.length := by omega
  exact ⟨l[x.toNat], (hl _ (List.getElem_mem hx)).1, (hl _ (List.getElem_mem hx)).2, by simp [hx]⟩

theorem grown_cell {w w' : World} {g : Nat} (h : w.grownBy w' (some g)) : ∀ b o, b < w.heap.size → b ≠ g → w'.cell? ⟨b, o, none⟩ = w.cell? ⟨b, o, none⟩ :=
  fun b _ hb hne => World.cell?_of_block (w := w) (h.block b hb (by intro e; injection e with e; exact hne e))
theorem grown_frozen {w w' : World} {g : Nat} (h : w.grownBy w' (some g)) : ∀ b o, b < w.heap.size → b ≠ g → w'.frozen? ⟨b, o, none⟩ = w.frozen? ⟨b, o, none⟩ :=
  fun b _ hb hne => World.frozen?_of_block (w := w) (h.block b hb (by intro e; injection e with e; exact hne e))

/-- What a function leaves that draws a number between lo and hi. -/
def IntPost (w0 w : World) (g N : Nat) (lo hi : Int) (e : Ending) (w' : World) : Prop :=
  ∃ x : Int, lo ≤ x ∧ x ≤ hi ∧ e = .returned (.int .i64 x) ∧ Rds w0 w' g N ∧ w.grownBy w' (some g)

end Go.Proofs.YtidnnnjjpjadlaaGreatDoor
