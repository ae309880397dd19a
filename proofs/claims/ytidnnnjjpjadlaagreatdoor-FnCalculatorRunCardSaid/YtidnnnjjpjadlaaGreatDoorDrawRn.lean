/- A drawn calculator and drawn lines. No condition: contracts for the walks of the laws. -/
import Derived.Test.YtidnnnjjpjadlaaGreatDoorDrawLn
import Derived.Test.YtidnnnjjpjadlaaGreatDoorRowS
namespace Go.Proofs.YtidnnnjjpjadlaaGreatDoor
open Go.ChangeShapes Go.WideShapes Go.ChangeAt Go.RowKit

/-- A drawn calculator and drawn lines. -/
def DrPost (w : World) (e : Ending) (w' : World) : Prop := ∃ (p q n : Int) (b : Bool) (v : Value) (L : List ByteArray), L.length ≤ 41 ∧ (∀ s ∈ L, s.size ≤ 200) ∧ e = .returned (.tuple #[.agg #[.int .i64 p, .int .i64 q, .int .i64 n, .bool b], v]) ∧ RowS w' w.heap.size v L ∧ v ≠ .slice none 0 0 ∧ Below w.heap.size w w'
structure DrIn (w0 : World) (g c N : Nat) (p q n : Int) (b : Bool) (v : Value) (A : List ByteArray) (wr : World) : Prop where
  rd : Rds w0 wr g N
  row : RowS wr (c + 1) v A
  t : Blk wr w0.heap.size 26 #[.int .i64 0, .int .i64 0, .int .i64 0, .bool false]
  c : Blk wr c 26 #[.int .i64 p, .int .i64 q, .int .i64 n, .bool b]
  nn : v ≠ .slice none 0 0
theorem DrIn.grown {w0 : World} {g c N M : Nat} {p q n : Int} {b : Bool} {v : Value} {A : List ByteArray} {wr w' : World} (h : DrIn w0 g c N p q n b v A wr) (hr : Rds w0 w' g M) (hg : wr.grownBy w' (some g)) (h1 : w0.heap.size < g) (h2 : g < c) : DrIn w0 g c M p q n b v A w' :=
  ⟨hr, h.row.kept hg (.inr (fun e => by have := (World.ownsRow.lt h.row g e).1; omega)), h.t.grown hg (by intro e; injection e with e; omega), h.c.grown hg (by intro e; injection e with e; omega), h.nn⟩
theorem DrIn.alloc {w0 : World} {g c N : Nat} {p q n : Int} {b : Bool} {v : Value} {A : List ByteArray} {wr : World} (h : DrIn w0 g c N p q n b v A wr) (o : Obj) : DrIn w0 g c N p q n b v A (wr.alloc o) :=
  ⟨h.rd.alloc o, h.row.alloc o, h.t.alloc o, h.c.alloc o, h.nn⟩
theorem DrIn.more {w0 : World} {g c N : Nat} {p q n : Int} {b : Bool} {v v' : Value} {A : List ByteArray} {wr w1 : World} {s : ByteArray} {o : Obj} (h : DrIn w0 g c N p q n b v A wr) (h' : w1.ownsRow (c + 1) 9 1 v' (A.length + 1) (A.map Value.string ++ [.string s])) (hg : (wr.alloc o).grownBy w1 v.ownBlock) (hz : v' ≠ .slice none 0 0) (h1 : w0.heap.size < g) (h2 : g < c) : DrIn w0 g c N p q n b v' (A ++ [s]) w1 := by
  obtain ⟨r1, -, hk⟩ := RowS.more h.row h' hg h.rd.below (by omega) (Nat.le_refl _)
  exact ⟨(h.rd.alloc o).grown hg (fun k e => by have := (World.ownsRow.lt h.row k e).1; omega), r1, hk _ _ _ (by omega) h.t, hk _ _ _ (by omega) h.c, hz⟩
set_option maxRecDepth 100000 in
set_option maxHeartbeats 16000000 in
theorem drawrun_any {w : World} {a : Option Addr} {len cap : Nat} {zs : List Int} (hrow : IsRow .u8 w a len cap zs) :
    Calls Tryz.prog 14 #[.slice a len cap] w (DrPost w) := by
  have hB2 : Below w.heap.size w (w.alloc (.cells #[.int .i64 0, .int .i64 0, .int .i64 0, .bool false] 26)) := (Below.refl _ w).alloc (Nat.le_refl _) _
  obtain ⟨i0, hi, hz0, hz1, hz2⟩ := (info_parts (P := Tryz.prog) (e := 9) (z := .string ⟨#[]⟩) (size := 1) (bytes := 16) (by kernel_rfl) : ∃ i, Tryz.prog.info? 9 = some i ∧ i.zero = some (.string ⟨#[]⟩) ∧ i.size = 1 ∧ i.bytes = 16)
  go_enter Tryz.func14, Tryz.ntmps14
  go_wp2_with fail
  refine (open_base hB2 hrow).mono ?_
  rintro e w1 ⟨rfl, R0, hb1⟩
  rw [World.size_alloc] at R0
  have hl0 := R0.lt
  have bt := (Blk.new w 26 #[.int .i64 0, .int .i64 0, .int .i64 0, .bool false]).below hb1 (by simp <;> omega)
  clear hb1 hB2 hrow
  go_wp2_with fail
  refine (l20calculator_any R0 (by omega) (by omega) (by omega)).mono ?_
  rintro e w2 ⟨p, q, n, b, hp, hq, -, rfl, R1, G1⟩
  have s1 := G1.size
  have hg2 : w.heap.size + 1 < w2.heap.size := R1.lt
  have D0 : DrIn w (w.heap.size + 1) w2.heap.size 1000 p q n b (.slice (some ⟨w2.heap.size + 1, 0, none⟩) 0 0) [] ((w2.alloc (.cells #[.int .i64 p, .int .i64 q, .int .i64 n, .bool b] 26)).alloc (.cells #[] 9)) :=
    ⟨((R1.alloc _).alloc _).mono (by omega), RowS.emptyAt (by simp) (by simp), ((bt.grown G1 (by intro e; injection e with e; first | omega | (simp at e; omega))).alloc _).alloc _, (Blk.new w2 _ _).alloc _, by intro e; cases e⟩
  clear R0 R1 G1 bt
  have HD := Lib.hid D0
  clear D0
  go_wp2_with fail
  refine (pick_any HD.out.rd (by omega) (by omega) (by omega)).mono ?_
  rintro e w3 ⟨x, hx0, hx1, rfl, R3, G3⟩
  have HD := Lib.hid (HD.out.grown R3 G3 (by omega) (by omega))
  clear R3 G3
  go_wp2_with fail
  go_loopw [6, 7] (fun v i wr => ∃ (k : Int) (A : List ByteArray), i = .int .i64 k ∧ 0 ≤ k ∧ A.length + k.toNat ≤ 8 ∧ Hid (∀ s ∈ A, s.size ≤ 200) ∧ DrIn w (w.heap.size + 1) w2.heap.size (1001 + 140 * A.length) p q n b v A wr) (fun _ i _ => (RowKit.intOf i).toNat)
  case atStart => exact ⟨x, [], rfl, hx0, by simp; omega, Lib.hid (fun s hs => by cases hs), HD.out⟩
  case round =>
    obtain ⟨k, A, rfl, hk0, hk8, HA, hD⟩ := hrel
    have HD := Lib.hid hD
    obtain ⟨c0, c1, c2, c3, cf0, cf1, cf2, cf3, lc⟩ := blk4 hD.c
    clear hD
    by_cases hp0 : 0 < k
    · go_wp2_with fail
      refine (l20said_any HD.out.rd (by omega) hp hq).mono ?_
      rintro e w4 ⟨t, ht, rfl, R4, G4⟩
      have hd4 := HD.out.grown R4 G4 (by omega) (by omega)
      have HD4 := Lib.hid hd4
      have r4 := hd4.row
      obtain ⟨c0, c1, c2, c3, cf0, cf1, cf2, cf3, lc⟩ := blk4 hd4.c
      clear hd4 R4 G4
      go_wp2_with (first | (at_builtin; refine wpList_append_own _ rfl _ _ 34 rfl (w2.heap.size + 1) 9 i0 (.string ⟨#[]⟩) 1 16 Tryz.underlying34 hi hz0 hz1 hz2 rfl (by decide) _ _ _ rfl (r4.alloc _) ⟨_, 0, none⟩ 1 1 [.string t] rfl rfl ?c1 ?c2 ?c3 ?c4 ?c5 ?_))
      case c1 =>
        intro j u hj
        match j, hj with
        | 0, hj => simp at hj; subst hj; simp [Addr.add]
      case c2 => intro u hu; simp at hu; subst hu; rfl
      case c3 => unfold maxLen; omega
      case c4 => omega
      case c5 => simp; omega
      intro v' w5 hown' hgrow hz
      have HD5 := Lib.hid (HD4.out.more hown' hgrow hz (by omega) (by omega))
      have HA5 := Lib.hid (show ∀ s ∈ A ++ [t], s.size ≤ 200 from fun s hs => by rcases List.mem_append.1 hs with h | h; (· exact HA.out s h); simp at h; subst h; exact ht)
      clear hown' hgrow hz r4
      go_wp2_with fail
      go_roundw
      case rel => exact ⟨k - 1, A ++ [t], by go_num, by omega, by simp; omega, HA5, ⟨HD5.out.rd.mono (by simp; omega), HD5.out.row, HD5.out.t, HD5.out.c, HD5.out.nn⟩⟩
      case measure => simp [RowKit.intOf]; omega
    · obtain rfl : k = 0 := by omega
      have HF := Lib.hid (fun (v : Value) (L : List ByteArray) (w' : World) (h1 : L.length ≤ 41) (h2 : ∀ s ∈ L, s.size ≤ 200) (h3 : RowS w' w.heap.size v L) (h5 : v ≠ .slice none 0 0) (h4 : Below w.heap.size w w') => show DrPost w (.returned (.tuple #[.agg #[.int .i64 p, .int .i64 q, .int .i64 n, .bool b], v])) w' from ⟨p, q, n, b, v, L, h1, h2, rfl, h3, h5, h4⟩)
      go_wp2_with fail
      refine (odd_any HD.out.rd (by omega) (by omega) (by omega)).mono ?_
      rintro e w6 ⟨bo, rfl, R6, G6⟩
      have hd6 := HD.out.grown R6 G6 (by omega) (by omega)
      have HD6 := Lib.hid hd6
      obtain ⟨c0, c1, c2, c3, cf0, cf1, cf2, cf3, lc⟩ := blk4 hd6.c
      obtain ⟨t0, t1, t2, t3, tf0, tf1, tf2, tf3, tl⟩ := blk4 hd6.t
      clear hd6 R6 G6
      have kmk := made_strs w6 41 (by omega) hi hz0 hz1 hz2
      rw [show ((41 : Nat) : Int) = 41 from rfl] at kmk
      have HR := Lib.hid (fun w' => made_rowS w' 41 (by omega))
      generalize madeCells #[.string ⟨#[]⟩] 41 = cs at *
      cases bo
      · clear kmk
        go_wp2_with fail
        have bk : Blk _ w.heap.size 26 #[.int .i64 p, .int .i64 q, .int .i64 n, .bool b] := (((HD6.out.t.set 0 (.int .i64 p)).set 1 (.int .i64 q)).set 2 (.int .i64 n)).set 3 (.bool b)
        have RR := Lib.hid (((((HD6.out.row.far (p := ⟨w.heap.size, 0, none⟩) (by dsimp only; omega) (.int .i64 p)).far (p := ⟨w.heap.size, 1, none⟩) (by dsimp only; omega) (.int .i64 q)).far (p := ⟨w.heap.size, 2, none⟩) (by dsimp only; omega) (.int .i64 n)).far (p := ⟨w.heap.size, 3, none⟩) (by dsimp only; omega) (.bool b)).lower (b := w.heap.size) (by omega))
        have BB := Lib.hid ((((HD6.out.rd.below.setCell (p := ⟨w.heap.size, 0, none⟩) (Nat.le_refl _) (.int .i64 p)).setCell (p := ⟨w.heap.size, 1, none⟩) (Nat.le_refl _) (.int .i64 q)).setCell (p := ⟨w.heap.size, 2, none⟩) (Nat.le_refl _) (.int .i64 n)).setCell (p := ⟨w.heap.size, 3, none⟩) (Nat.le_refl _) (.bool b))
        obtain ⟨q0, q1, q2, q3⟩ := blk4c bk
        refine bodyPost_ret (v := .tuple #[.agg #[.int .i64 p, .int .i64 q, .int .i64 n, .bool b], u6]) (by simp [results, Tryz.results14, go_sem, q0, q1, q2, q3]) rfl ?_
        exact HF.out _ _ _ (by omega) HA.out RR.out HD6.out.nn BB.out
      · skip
        go_wp2_with fail
        have bk := ((((HD6.out.t.set 0 (.int .i64 p)).set 1 (.int .i64 q)).set 2 (.int .i64 n)).set 3 (.bool b)).alloc (.cells cs 9)
        have hr4 := HR.out ((((w6.setCell ⟨w.heap.size, 0, none⟩ (.int .i64 p)).setCell ⟨w.heap.size, 1, none⟩ (.int .i64 q)).setCell ⟨w.heap.size, 2, none⟩ (.int .i64 n)).setCell ⟨w.heap.size, 3, none⟩ (.bool b))
        rw [show ((((w6.setCell ⟨w.heap.size, 0, none⟩ (.int .i64 p)).setCell ⟨w.heap.size, 1, none⟩ (.int .i64 q)).setCell ⟨w.heap.size, 2, none⟩ (.int .i64 n)).setCell ⟨w.heap.size, 3, none⟩ (.bool b)).heap.size = w6.heap.size by simp] at hr4
        have RR := Lib.hid (hr4.lower (b := w.heap.size) (by omega))
        clear hr4
        have BB := Lib.hid (bl_alloc ((((HD6.out.rd.below.setCell (p := ⟨w.heap.size, 0, none⟩) (Nat.le_refl _) (.int .i64 p)).setCell (p := ⟨w.heap.size, 1, none⟩) (Nat.le_refl _) (.int .i64 q)).setCell (p := ⟨w.heap.size, 2, none⟩) (Nat.le_refl _) (.int .i64 n)).setCell (p := ⟨w.heap.size, 3, none⟩) (Nat.le_refl _) (.bool b)) (.cells cs 9))
        obtain ⟨q0, q1, q2, q3⟩ := blk4c bk
        refine bodyPost_ret (v := .tuple #[.agg #[.int .i64 p, .int .i64 q, .int .i64 n, .bool b], .slice (some ⟨w6.heap.size, 0, none⟩) 41 41]) (by simp [results, Tryz.results14, go_sem, q0, q1, q2, q3]) rfl ?_
        exact HF.out _ _ _ (by simp) (fun s hs => by rw [(List.mem_replicate.1 hs).2]; decide) RR.out (by intro e; cases e) BB.out
end Go.Proofs.YtidnnnjjpjadlaaGreatDoor
