/- Two parts of the lines lead to the same calculator, with all answers; there is an answer for every line. No condition. -/
import Derived.Test.YtidnnnjjpjadlaaGreatDoorDrawRn
import Derived.Test.YtidnnnjjpjadlaaGreatDoorApS
import Derived.Test.YtidnnnjjpjadlaaGreatDoorRunP
import Derived.Test.YtidnnnjjpjadlaaGreatDoorRunS
import Derived.Test.YtidnnnjjpjadlaaGreatDoorMcd
import Derived.Test.YtidnnnjjpjadlaaGreatDoorAlive
namespace Go.Proofs.YtidnnnjjpjadlaaGreatDoor
open Go.ChangeShapes Go.WideShapes Go.ChangeAt Go.RowKit

attribute [local go_sem] alloc_drewN' setCell_drewN'
/-- What the law holds in the midst of its two parts. -/
structure CrK (w1 : World) (m : Int) (g : Nat) (L : List ByteArray) (gc gi : Nat) (C R : Array Value) (b1 b2 b3 : Nat) (v1 v2 v3 : Value) (A F : List ByteArray) (wx : World) : Prop where
  bel : Below w1.heap.size w1 wx
  hT : HT wx
  hm : wx.cell? ⟨0, 0, none⟩ = some (.int .i64 m)
  rd : RdT wx (some ⟨g, 0, none⟩) L
  c : Blk wx gc 26 C
  i : Blk wx gi 26 R
  r1 : RowS wx b1 v1 A
  r2 : RowS wx b2 v2 A
  r3 : RowS wx b3 v3 F
theorem CrK.below {w1 : World} {m : Int} {g : Nat} {L : List ByteArray} {gc gi : Nat} {C R : Array Value} {b1 b2 b3 : Nat} {v1 v2 v3 : Value} {A F : List ByteArray} {wx wy : World} (h : CrK w1 m g L gc gi C R b1 b2 b3 v1 v2 v3 A F wx) (hb : Below wx.heap.size wx wy) : CrK w1 m g L gc gi C R b1 b2 b3 v1 v2 v3 A F wy :=
  ⟨bl_behind hb h.bel, h.hT.below hb, cell0_below h.hm hb, h.rd.below hb, h.c.below hb h.c.lt, h.i.below hb h.i.lt, h.r1.below hb, h.r2.below hb, h.r3.below hb⟩
theorem CrK.drew {w1 : World} {m : Int} {g : Nat} {L : List ByteArray} {gc gi : Nat} {C R : Array Value} {b1 b2 b3 : Nat} {v1 v2 v3 : Value} {A F : List ByteArray} {wx : World} (h : CrK w1 m g L gc gi C R b1 b2 b3 v1 v2 v3 A F wx) : CrK w1 m g L gc gi C R b1 b2 b3 v1 v2 v3 A F wx.drew := h.below (Below.drew (Below.refl _ _))
theorem CrK.alloc {w1 : World} {m : Int} {g : Nat} {L : List ByteArray} {gc gi : Nat} {C R : Array Value} {b1 b2 b3 : Nat} {v1 v2 v3 : Value} {A F : List ByteArray} {wx : World} (h : CrK w1 m g L gc gi C R b1 b2 b3 v1 v2 v3 A F wx) (o : Obj) : CrK w1 m g L gc gi C R b1 b2 b3 v1 v2 v3 A F (wx.alloc o) := h.below (bl_alloc (Below.refl _ _) o)
/-- A part's run: its calculator in a block, its answers. -/
def CrCut (w1 : World) (m : Int) (g : Nat) (L : List ByteArray) (gc gi : Nat) (C R : Array Value) (b1 b2 b3 : Nat) (v1 v2 v3 : Value) (A F : List ByteArray) (W : World) (E : Array Value) (G : List ByteArray) (s r : Value) (wx : World) : Prop := ∃ g1 : Nat, s = .pointer (some ⟨g1, 0, none⟩) ∧ Blk wx g1 26 E ∧ RowS wx W.heap.size r G ∧ CrK w1 m g L gc gi C R b1 b2 b3 v1 v2 v3 A F wx
theorem crCut_fin {w1 : World} {m : Int} {g : Nat} {L : List ByteArray} {gc gi : Nat} {C R : Array Value} {b1 b2 b3 : Nat} {v1 v2 v3 : Value} {A F : List ByteArray} {W w5 : World} {E : Array Value} {G : List ByteArray} {r : Value} (h : CrK w1 m g L gc gi C R b1 b2 b3 v1 v2 v3 A F W) (hw : Below W.heap.size W w5) (hr : RowS w5 W.heap.size r G) : CrCut w1 m g L gc gi C R b1 b2 b3 v1 v2 v3 A F W E G (.pointer (some ⟨w5.heap.size, 0, none⟩)) r (w5.alloc (.cells E 26)) :=
  ⟨_, rfl, Blk.new _ _ _, hr.alloc _, h.below (bl_alloc hw _)⟩
theorem crCut_mk {w1 : World} {m : Int} {g : Nat} {L : List ByteArray} {gc gi : Nat} {C R : Array Value} {b1 b2 b3 : Nat} {v1 v2 v3 : Value} {A F : List ByteArray} {W w5 : World} {E0 E1 E2 E3 y0 y1 y2 y3 : Value} {G : List ByteArray} {r : Value} (h : CrK w1 m g L gc gi C R b1 b2 b3 v1 v2 v3 A F W) (hw : Below W.heap.size W w5) (hr : RowS w5 (W.heap.size + 1) r G) (bn : Blk w5 W.heap.size 26 #[y0, y1, y2, y3]) :
    CrCut w1 m g L gc gi C R b1 b2 b3 v1 v2 v3 A F W #[E0, E1, E2, E3] G (.pointer (some ⟨W.heap.size, 0, none⟩)) r ((((w5.setCell ⟨W.heap.size, 0, none⟩ E0).setCell ⟨W.heap.size, 1, none⟩ E1).setCell ⟨W.heap.size, 2, none⟩ E2).setCell ⟨W.heap.size, 3, none⟩ E3) :=
  ⟨_, rfl, (((bn.set 0 _).set 1 _).set 2 _).set 3 _, ((((hr.far (p := ⟨W.heap.size, 0, none⟩) (Nat.lt_succ_self _) _).far (p := ⟨W.heap.size, 1, none⟩) (Nat.lt_succ_self _) _).far (p := ⟨W.heap.size, 2, none⟩) (Nat.lt_succ_self _) _).far (p := ⟨W.heap.size, 3, none⟩) (Nat.lt_succ_self _) _).lower (Nat.le_succ _),
   h.below ((((hw.setCell (p := ⟨W.heap.size, 0, none⟩) (Nat.le_refl _) _).setCell (p := ⟨W.heap.size, 1, none⟩) (Nat.le_refl _) _).setCell (p := ⟨W.heap.size, 2, none⟩) (Nat.le_refl _) _).setCell (p := ⟨W.heap.size, 3, none⟩) (Nat.le_refl _) _)⟩
theorem rdT_cutIf {w : World} {g cap K : Nat} {L : List ByteArray} (h : RdT w (some ⟨g, 0, none⟩) L) (hc : L.length ≤ cap) : RdT w (if cap = K then some ⟨g, 0, none⟩ else some ⟨g, K, none⟩) (L.drop K) := by
  split
  · intro j hj
    rw [List.length_drop] at hj
    omega
  · have k := h.cutFrom K
    rw [show (⟨g, 0, none⟩ : Addr).add K = ⟨g, K, none⟩ by unfold Addr.add; split <;> simp_all] at k
    exact k
theorem getD_mem {xs : List ByteArray} {j : Nat} (h : j < xs.length) : xs.getD j ByteArray.empty ∈ xs := by rw [List.getD_eq_getElem?_getD, List.getElem?_eq_getElem h, Option.getD_some]; exact List.getElem_mem _
theorem crOpen {w : World} {b : Nat} {v : Value} {xs : List ByteArray} (h : RowS w b v xs) (hn : v ≠ .slice none 0 0) : ∃ g cap, v = .slice (some ⟨g, 0, none⟩) xs.length cap ∧ cap ≤ maxLen ∧ xs.length ≤ cap := by
  rcases h.2 with ⟨e, -⟩ | ⟨g, cap, cur, e, -, -, h1, h2, -⟩
  · exact absurd e hn
  · exact ⟨g, cap, e, h2, h1⟩
set_option maxRecDepth 100000 in
set_option maxHeartbeats 32000000 in
theorem fnCalculatorRun.walk (w : World) (a : Option Addr) (len cap : Nat) (zs : List Int) (hrow : IsRow .u8 w a len cap zs) (hL : laidMetH Tryz.prog laidL w) (hsh : w.ShapedOpen Tryz.prog) :
    Calls Tryz.prog 4 #[.slice a len cap] w fun e w' => e = .returned (.bool true) ∧ Below w.heap.size w w' := by
  obtain ⟨hl1, hl2, -⟩ := code_of_row hrow
  have hm : (len : Int) ≤ 9223372036854775807 := by unfold maxLen at hl2; omega
  by_cases hbig : (1048576 : Int) < (len : Int)
  · clear hrow hl1 hl2
    go_enter Tryz.func4, Tryz.ntmps4
    go_wp2
    go_ret
    exact ⟨rfl, Below.refl _ _⟩
  · obtain ⟨mx, hmx⟩ : ∃ m, w.cell? ⟨0, 0, none⟩ = some (.int .i64 m) := Tryz.laysM145.s1_3 w hsh
    have HTB := Lib.hid (ht_of_laid hL)
    have HM := Lib.hid hmx
    have HROW := Lib.hid hrow
    clear hl1 hl2 hmx hrow
    go_enter Tryz.func4, Tryz.ntmps4
    go_wp2_with fail
    refine (drawrun_any HROW.out).mono ?_
    rintro e w1 ⟨p, q, n, x, v, L, hL41, hsz, rfl, hr, hnn, hb⟩
    (repeat (first | (replace hb := undrewN hb) | (replace hb := undrew hb)))
    obtain ⟨g, cap, rfl, hcm, hlc⟩ := crOpen hr hnn
    have HRD := Lib.hid hr.rdT
    have HTB := Lib.hid (HTB.out.below hb)
    have HM := Lib.hid (cell0_below HM.out hb)
    have HB0 := Lib.hid hb
    have HB := Lib.hid (Below.refl w1.heap.size w1)
    clear hr hnn hb
    have hcap : (cap : Int) ≤ 9223372036854775807 := by unfold maxLen at hcm; omega
    have hsz2 : ∀ s ∈ L, s.size ≤ 1048576 := fun s hs => by have := hsz s hs; omega
    have RI := Lib.hid (fun (w' : World) (cap' : Nat) (h : RdT w' (some ⟨g, 0, none⟩) L) hT hm => run_impl p q n x (cap := cap') h (by omega) (fun j hj => hsz2 _ (getD_mem hj)) hT mx hm)
    have RS := Lib.hid (fun (w' : World) (cap' : Nat) (h : RdT w' (some ⟨g, 0, none⟩) L) => run_spec p q n x (cap := cap') h (by omega) (fun j hj => hsz2 _ (getD_mem hj)))
    clear hsz hcm
    rcases (by rcases hf : fitB p q n; (· exact .inl (.inl rfl)); rcases Nat.lt_or_ge 40 L.length with h | h; (· exact .inl (.inr h)); exact .inr ⟨rfl, h⟩ : (fitB p q n = false ∨ 40 < L.length) ∨ (fitB p q n = true ∧ L.length ≤ 40)) with hbad | ⟨hfit, h40⟩
    · skip
      rw [runO_bad hbad] at RI RS
      have hbd : fitB p q n = false ∨ (fitB p q n = true ∧ 40 < L.length) := by cases hf : fitB p q n; (· exact .inl rfl); exact .inr ⟨rfl, hbad.resolve_left (by rw [hf]; decide)⟩
      obtain ⟨o, ho⟩ : ∃ o, fitB p q n = o := ⟨_, rfl⟩
      rw [ho] at hbd
      have h40i : o = true → (40 : Int) < (L.length : Int) := fun h => by rcases hbd with h1 | h1; (· rw [h] at h1; cases h1); have := h1.2; omega
      clear hbad hbd
      go_wp2_with fail
      refine (RI.out _ _ (HRD.out.below (by have hb0 := HB.out; repeat (first | (with_reducible exact hb0) | (with_reducible refine below_drewN ?_ _) | (with_reducible refine Below.drew ?_) | (with_reducible refine bl_alloc ?_ _) | (with_reducible refine bl_set ?_ (by first | (simp; omega) | (have := hb0.size; simp; omega)) _)))) (HTB.out.below (by have hb0 := HB.out; repeat (first | (with_reducible exact hb0) | (with_reducible refine below_drewN ?_ _) | (with_reducible refine Below.drew ?_) | (with_reducible refine bl_alloc ?_ _) | (with_reducible refine bl_set ?_ (by first | (simp; omega) | (have := hb0.size; simp; omega)) _)))) (cell0_below HM.out (by have hb0 := HB.out; repeat (first | (with_reducible exact hb0) | (with_reducible refine below_drewN ?_ _) | (with_reducible refine Below.drew ?_) | (with_reducible refine bl_alloc ?_ _) | (with_reducible refine bl_set ?_ (by first | (simp; omega) | (have := hb0.size; simp; omega)) _))))).mono ?_
      rintro e w2 ⟨v1, rfl, hr1, hb⟩
      have hw := bl_behind (w := w1) hb (by have hb0 := HB.out; repeat (first | (with_reducible exact hb0) | (with_reducible refine below_drewN ?_ _) | (with_reducible refine Below.drew ?_) | (with_reducible refine bl_alloc ?_ _) | (with_reducible refine bl_set ?_ (by first | (simp; omega) | (have := hb0.size; simp; omega)) _))); have bc := Blk.below (g := w1.heap.size) (t := 26) (cs := #[.int .i64 p, .int .i64 q, .int .i64 n, .bool x]) (by repeat (first | (with_reducible exact Bc.out) | (with_reducible exact Blk.new _ _ _) | (with_reducible refine Blk.newAt ?_; simp; done) | (with_reducible refine Blk.drewN ?_ _) | (with_reducible refine Blk.drew ?_) | (with_reducible refine Blk.alloc ?_ _))) hb (by first | (have := Bc.out.lt; first | omega | (simp; omega)) | (simp; done) | (simp; omega)); have Bc := Lib.hid bc; obtain ⟨kc0, kc1, kc2, kc3, fc0, fc1, fc2, fc3, lc⟩ := blk4 bc; clear bc; have HB := Lib.hid hw; clear hw hb
      obtain ⟨ao1, cp1, rfl, -⟩ := hr1.open_
      clear hr1
      dsimp only [List.length_nil]
      go_wp2_with fail
      refine (RS.out _ _ (HRD.out.below (by have hb0 := HB.out; repeat (first | (with_reducible exact hb0) | (with_reducible refine below_drewN ?_ _) | (with_reducible refine Below.drew ?_) | (with_reducible refine bl_alloc ?_ _) | (with_reducible refine bl_set ?_ (by first | (simp; omega) | (have := hb0.size; simp; omega)) _))))).mono ?_
      rintro e w3 ⟨v2, rfl, hr2, hb⟩
      have hw := bl_behind (w := w1) hb (by have hb0 := HB.out; repeat (first | (with_reducible exact hb0) | (with_reducible refine below_drewN ?_ _) | (with_reducible refine Below.drew ?_) | (with_reducible refine bl_alloc ?_ _) | (with_reducible refine bl_set ?_ (by first | (simp; omega) | (have := hb0.size; simp; omega)) _))); have bc := Blk.below (g := w1.heap.size) (t := 26) (cs := #[.int .i64 p, .int .i64 q, .int .i64 n, .bool x]) (by repeat (first | (with_reducible exact Bc.out) | (with_reducible exact Blk.new _ _ _) | (with_reducible refine Blk.newAt ?_; simp; done) | (with_reducible refine Blk.drewN ?_ _) | (with_reducible refine Blk.drew ?_) | (with_reducible refine Blk.alloc ?_ _))) hb (by first | (have := Bc.out.lt; first | omega | (simp; omega)) | (simp; done) | (simp; omega)); have Bc := Lib.hid bc; obtain ⟨kc0, kc1, kc2, kc3, fc0, fc1, fc2, fc3, lc⟩ := blk4 bc; clear bc; have bi := Blk.below (g := w2.heap.size) (t := 26) (cs := #[.int .i64 0, .int .i64 0, .int .i64 0, .bool false]) (by repeat (first | (with_reducible exact Bi.out) | (with_reducible exact Blk.new _ _ _) | (with_reducible refine Blk.newAt ?_; simp; done) | (with_reducible refine Blk.drewN ?_ _) | (with_reducible refine Blk.drew ?_) | (with_reducible refine Blk.alloc ?_ _))) hb (by first | (have := Bi.out.lt; first | omega | (simp; omega)) | (simp; done) | (simp; omega)); have Bi := Lib.hid bi; obtain ⟨ki0, ki1, ki2, ki3, fi0, fi1, fi2, fi3, li⟩ := blk4 bi; clear bi; have HB := Lib.hid hw; clear hw hb
      obtain ⟨ao2, cp2, rfl, -⟩ := hr2.open_
      clear hr2
      dsimp only [List.length_nil]
      go_wp2_with fail
      refine (calv_spec p q n x _ ho).mono ?_
      rintro e w4 ⟨rfl, hb⟩
      have hw := bl_behind (w := w1) hb (by have hb0 := HB.out; repeat (first | (with_reducible exact hb0) | (with_reducible refine below_drewN ?_ _) | (with_reducible refine Below.drew ?_) | (with_reducible refine bl_alloc ?_ _) | (with_reducible refine bl_set ?_ (by first | (simp; omega) | (have := hb0.size; simp; omega)) _))); have bc := Blk.below (g := w1.heap.size) (t := 26) (cs := #[.int .i64 p, .int .i64 q, .int .i64 n, .bool x]) (by repeat (first | (with_reducible exact Bc.out) | (with_reducible exact Blk.new _ _ _) | (with_reducible refine Blk.newAt ?_; simp; done) | (with_reducible refine Blk.drewN ?_ _) | (with_reducible refine Blk.drew ?_) | (with_reducible refine Blk.alloc ?_ _))) hb (by first | (have := Bc.out.lt; first | omega | (simp; omega)) | (simp; done) | (simp; omega)); have Bc := Lib.hid bc; obtain ⟨kc0, kc1, kc2, kc3, fc0, fc1, fc2, fc3, lc⟩ := blk4 bc; clear bc; have bi := Blk.below (g := w2.heap.size) (t := 26) (cs := #[.int .i64 0, .int .i64 0, .int .i64 0, .bool false]) (by repeat (first | (with_reducible exact Bi.out) | (with_reducible exact Blk.new _ _ _) | (with_reducible refine Blk.newAt ?_; simp; done) | (with_reducible refine Blk.drewN ?_ _) | (with_reducible refine Blk.drew ?_) | (with_reducible refine Blk.alloc ?_ _))) hb (by first | (have := Bi.out.lt; first | omega | (simp; omega)) | (simp; done) | (simp; omega)); have Bi := Lib.hid bi; obtain ⟨ki0, ki1, ki2, ki3, fi0, fi1, fi2, fi3, li⟩ := blk4 bi; clear bi; have bs := Blk.below (g := w3.heap.size) (t := 26) (cs := #[.int .i64 0, .int .i64 0, .int .i64 0, .bool false]) (by repeat (first | (with_reducible exact Bs.out) | (with_reducible exact Blk.new _ _ _) | (with_reducible refine Blk.newAt ?_; simp; done) | (with_reducible refine Blk.drewN ?_ _) | (with_reducible refine Blk.drew ?_) | (with_reducible refine Blk.alloc ?_ _))) hb (by first | (have := Bs.out.lt; first | omega | (simp; omega)) | (simp; done) | (simp; omega)); have Bs := Lib.hid bs; obtain ⟨ks0, ks1, ks2, ks3, fs0, fs1, fs2, fs3, ls⟩ := blk4 bs; clear bs; have HB := Lib.hid hw; clear hw hb
      cases o
      · go_wp2_with (first | (go_at_call 11; refine (alive_any _).mono ?_; rintro e w' ⟨rfl, rfl⟩))
        all_goals
          go_ret
          have hb := HB.out
          exact ⟨rfl, HB0.out.trans (Below.mono (by repeat' (first | (with_reducible exact Below.refl _ _) | (with_reducible assumption) | (with_reducible refine below_drewN ?_ _) | (with_reducible refine Below.drew ?_) | (with_reducible refine bl_alloc ?_ _) | (with_reducible refine bl_set ?_ ?_ _) | go_size | omega)) HB0.out.size)⟩
      · have h41 := h40i rfl
        go_wp2_with (first | (go_at_call 11; refine (alive_any _).mono ?_; rintro e w' ⟨rfl, rfl⟩))
        all_goals
          go_ret
          have hb := HB.out
          exact ⟨rfl, HB0.out.trans (Below.mono (by repeat' (first | (with_reducible exact Below.refl _ _) | (with_reducible assumption) | (with_reducible refine below_drewN ?_ _) | (with_reducible refine Below.drew ?_) | (with_reducible refine bl_alloc ?_ _) | (with_reducible refine bl_set ?_ ?_ _) | go_size | omega)) HB0.out.size)⟩
    · skip
      obtain ⟨p1, q1, n1, x1, p2, q2, n2, x2, f, sl, hs1, hs2, hs3, hf1, hf2⟩ := run_split (x := x) hfit h40 (L.length / 2) (by omega)
      rw [hs3] at RI RS
      have hlA : (f ++ sl).length = L.length := by rw [List.length_append, hf1, hf2]; omega
      have RA := Lib.hid (fun (wx : World) (ad : Option Addr) (cap : Nat) (h1 : RdT wx ad L) (hT : HT wx) (hm : wx.cell? ⟨0, 0, none⟩ = some (.int .i64 mx)) => show Calls Tryz.prog 15 #[.agg #[.int .i64 p, .int .i64 q, .int .i64 n, .bool x], .slice ad (L.length / 2) cap] wx (fun e w' => ∃ v, e = .returned (.tuple #[.agg #[.int .i64 p1, .int .i64 q1, .int .i64 n1, .bool x1], v]) ∧ RowS w' wx.heap.size v f ∧ Below wx.heap.size wx w') from by
        have k := run_impl p q n x (cap := cap) (h1.cutTo (L.length / 2)) (by simp; omega) (fun j hj => hsz2 _ (List.mem_of_mem_take (getD_mem hj))) hT mx hm
        rw [hs1] at k
        rw [show (L.take (L.length / 2)).length = L.length / 2 by simp; omega] at k
        exact k)
      have RB := Lib.hid (fun (wx : World) (ad : Option Addr) (cap : Nat) (h1 : RdT wx ad (L.drop (L.length / 2))) (hT : HT wx) (hm : wx.cell? ⟨0, 0, none⟩ = some (.int .i64 mx)) => show Calls Tryz.prog 15 #[.agg #[.int .i64 p1, .int .i64 q1, .int .i64 n1, .bool x1], .slice ad (L.length - L.length / 2) cap] wx (fun e w' => ∃ v, e = .returned (.tuple #[.agg #[.int .i64 p2, .int .i64 q2, .int .i64 n2, .bool x2], v]) ∧ RowS w' wx.heap.size v sl ∧ Below wx.heap.size wx w') from by
        have k := run_impl p1 q1 n1 x1 (cap := cap) h1 (by simp; omega) (fun j hj => hsz2 _ (List.mem_of_mem_drop (getD_mem hj))) hT mx hm
        rw [hs2] at k
        rw [show (L.drop (L.length / 2)).length = L.length - L.length / 2 by simp] at k
        exact k)
      clear hs1 hs2 hs3
      generalize hA : f ++ sl = A at *
      go_wp2_with fail
      refine (RI.out _ _ (HRD.out.below (by have hb0 := HB.out; repeat (first | (with_reducible exact hb0) | (with_reducible refine below_drewN ?_ _) | (with_reducible refine Below.drew ?_) | (with_reducible refine bl_alloc ?_ _) | (with_reducible refine bl_set ?_ (by first | (simp; omega) | (have := hb0.size; simp; omega)) _)))) (HTB.out.below (by have hb0 := HB.out; repeat (first | (with_reducible exact hb0) | (with_reducible refine below_drewN ?_ _) | (with_reducible refine Below.drew ?_) | (with_reducible refine bl_alloc ?_ _) | (with_reducible refine bl_set ?_ (by first | (simp; omega) | (have := hb0.size; simp; omega)) _)))) (cell0_below HM.out (by have hb0 := HB.out; repeat (first | (with_reducible exact hb0) | (with_reducible refine below_drewN ?_ _) | (with_reducible refine Below.drew ?_) | (with_reducible refine bl_alloc ?_ _) | (with_reducible refine bl_set ?_ (by first | (simp; omega) | (have := hb0.size; simp; omega)) _))))).mono ?_
      rintro e w2 ⟨v1, rfl, hr1, hb⟩
      have hr1' : RowS w2 (w1.heap.size + 1) v1 A := by simpa using hr1
      have R1 := Lib.hid hr1'; clear hr1 hr1'
      have hw := bl_behind (w := w1) hb (by have hb0 := HB.out; repeat (first | (with_reducible exact hb0) | (with_reducible refine below_drewN ?_ _) | (with_reducible refine Below.drew ?_) | (with_reducible refine bl_alloc ?_ _) | (with_reducible refine bl_set ?_ (by first | (simp; omega) | (have := hb0.size; simp; omega)) _))); have bc := Blk.below (g := w1.heap.size) (t := 26) (cs := #[.int .i64 p, .int .i64 q, .int .i64 n, .bool x]) (by repeat (first | (with_reducible exact Bc.out) | (with_reducible exact Blk.new _ _ _) | (with_reducible refine Blk.newAt ?_; simp; done) | (with_reducible refine Blk.drewN ?_ _) | (with_reducible refine Blk.drew ?_) | (with_reducible refine Blk.alloc ?_ _))) hb (by first | (have := Bc.out.lt; first | omega | (simp; omega)) | (simp; done) | (simp; omega)); have Bc := Lib.hid bc; obtain ⟨kc0, kc1, kc2, kc3, fc0, fc1, fc2, fc3, lc⟩ := blk4 bc; clear bc; have HB := Lib.hid hw; clear hw hb
      dsimp only
      go_wp2_with fail
      refine (RS.out _ _ (HRD.out.below (by have hb0 := HB.out; repeat (first | (with_reducible exact hb0) | (with_reducible refine below_drewN ?_ _) | (with_reducible refine Below.drew ?_) | (with_reducible refine bl_alloc ?_ _) | (with_reducible refine bl_set ?_ (by first | (simp; omega) | (have := hb0.size; simp; omega)) _))))).mono ?_
      rintro e w3 ⟨v2, rfl, hr2, hb⟩
      have hr2' : RowS w3 (w2.heap.size + 1) v2 A := by simpa using hr2
      have R2 := Lib.hid hr2'; clear hr2 hr2'
      skip; have r1 := RowS.below (base := (w1.heap.size + 1)) (v := v1) (xs := A) (by repeat (first | (with_reducible exact R1.out) | (with_reducible refine RowS.alloc ?_ _) | (with_reducible refine RowS.drewN ?_ _))) hb; have R1 := Lib.hid r1; clear r1
      have hw := bl_behind (w := w1) hb (by have hb0 := HB.out; repeat (first | (with_reducible exact hb0) | (with_reducible refine below_drewN ?_ _) | (with_reducible refine Below.drew ?_) | (with_reducible refine bl_alloc ?_ _) | (with_reducible refine bl_set ?_ (by first | (simp; omega) | (have := hb0.size; simp; omega)) _))); have bc := Blk.below (g := w1.heap.size) (t := 26) (cs := #[.int .i64 p, .int .i64 q, .int .i64 n, .bool x]) (by repeat (first | (with_reducible exact Bc.out) | (with_reducible exact Blk.new _ _ _) | (with_reducible refine Blk.newAt ?_; simp; done) | (with_reducible refine Blk.drewN ?_ _) | (with_reducible refine Blk.drew ?_) | (with_reducible refine Blk.alloc ?_ _))) hb (by first | (have := Bc.out.lt; first | omega | (simp; omega)) | (simp; done) | (simp; omega)); have Bc := Lib.hid bc; obtain ⟨kc0, kc1, kc2, kc3, fc0, fc1, fc2, fc3, lc⟩ := blk4 bc; clear bc; have bi := Blk.below (g := w2.heap.size) (t := 26) (cs := #[.int .i64 p2, .int .i64 q2, .int .i64 n2, .bool x2]) (by repeat (first | (with_reducible exact Bi.out) | (with_reducible exact Blk.new _ _ _) | (with_reducible refine Blk.newAt ?_; simp; done) | (with_reducible refine Blk.drewN ?_ _) | (with_reducible refine Blk.drew ?_) | (with_reducible refine Blk.alloc ?_ _))) hb (by first | (have := Bi.out.lt; first | omega | (simp; omega)) | (simp; done) | (simp; omega)); have Bi := Lib.hid bi; obtain ⟨ki0, ki1, ki2, ki3, fi0, fi1, fi2, fi3, li⟩ := blk4 bi; clear bi; have HB := Lib.hid hw; clear hw hb
      dsimp only
      obtain ⟨ao1, cp1, e1, -⟩ := R1.out.open_
      obtain ⟨ao2, cp2, e2, -⟩ := R2.out.open_
      rw [hlA] at e1 e2
      subst e1; subst e2
      go_wp2_with fail
      refine (calv_spec p q n x _ hfit).mono ?_
      rintro e w4 ⟨rfl, hb⟩
      skip; have r1 := RowS.below (base := (w1.heap.size + 1)) (v := (.slice ao1 L.length cp1)) (xs := A) (by repeat (first | (with_reducible exact R1.out) | (with_reducible refine RowS.alloc ?_ _) | (with_reducible refine RowS.drewN ?_ _))) hb; have R1 := Lib.hid r1; clear r1; have r2 := RowS.below (base := (w2.heap.size + 1)) (v := (.slice ao2 L.length cp2)) (xs := A) (by repeat (first | (with_reducible exact R2.out) | (with_reducible refine RowS.alloc ?_ _) | (with_reducible refine RowS.drewN ?_ _))) hb; have R2 := Lib.hid r2; clear r2
      have hw := bl_behind (w := w1) hb (by have hb0 := HB.out; repeat (first | (with_reducible exact hb0) | (with_reducible refine below_drewN ?_ _) | (with_reducible refine Below.drew ?_) | (with_reducible refine bl_alloc ?_ _) | (with_reducible refine bl_set ?_ (by first | (simp; omega) | (have := hb0.size; simp; omega)) _))); have bc := Blk.below (g := w1.heap.size) (t := 26) (cs := #[.int .i64 p, .int .i64 q, .int .i64 n, .bool x]) (by repeat (first | (with_reducible exact Bc.out) | (with_reducible exact Blk.new _ _ _) | (with_reducible refine Blk.newAt ?_; simp; done) | (with_reducible refine Blk.drewN ?_ _) | (with_reducible refine Blk.drew ?_) | (with_reducible refine Blk.alloc ?_ _))) hb (by first | (have := Bc.out.lt; first | omega | (simp; omega)) | (simp; done) | (simp; omega)); have Bc := Lib.hid bc; obtain ⟨kc0, kc1, kc2, kc3, fc0, fc1, fc2, fc3, lc⟩ := blk4 bc; clear bc; have bi := Blk.below (g := w2.heap.size) (t := 26) (cs := #[.int .i64 p2, .int .i64 q2, .int .i64 n2, .bool x2]) (by repeat (first | (with_reducible exact Bi.out) | (with_reducible exact Blk.new _ _ _) | (with_reducible refine Blk.newAt ?_; simp; done) | (with_reducible refine Blk.drewN ?_ _) | (with_reducible refine Blk.drew ?_) | (with_reducible refine Blk.alloc ?_ _))) hb (by first | (have := Bi.out.lt; first | omega | (simp; omega)) | (simp; done) | (simp; omega)); have Bi := Lib.hid bi; obtain ⟨ki0, ki1, ki2, ki3, fi0, fi1, fi2, fi3, li⟩ := blk4 bi; clear bi; have HB := Lib.hid hw; clear hw hb
      have HK : Hid (CrK w1 mx g L w1.heap.size w2.heap.size #[.int .i64 p, .int .i64 q, .int .i64 n, .bool x] #[.int .i64 p2, .int .i64 q2, .int .i64 n2, .bool x2] (w1.heap.size + 1) (w2.heap.size + 1) 0 (.slice ao1 L.length cp1) (.slice ao2 L.length cp2) (.slice none 0 0) A [] w4) := Lib.hid ⟨HB.out, HTB.out.below HB.out, cell0_below HM.out HB.out, HRD.out.below HB.out, Bc.out, Bi.out, R1.out, R2.out, RowS.nil _ _⟩
      clear R1 R2
      have hh : (L.length : Int) ≤ 40 := by omega
      go_wp2_with fail
      obtain ⟨K, hK⟩ : ∃ K : Nat, L.length / 2 = K := ⟨_, rfl⟩
      rw [hK] at RA RB
      have hKi : (L.length : Int) / 2 = (K : Int) := by omega
      have hK1 : (K : Int) ≤ (L.length : Int) := by omega
      have hK2 : (K : Int) ≤ (cap : Int) := by omega
      have hK3 : (L.length : Int) ≤ (cap : Int) := by omega
      rw [hKi]
      rw [hK] at hf1 hf2
      obtain ⟨n0, n2', n3, n4, m0, m2, m3, m4, nl⟩ := blk4 (HK.out.c.alloc (.cells #[.int .i64 0, .int .i64 0, .int .i64 0, .bool false] 26))
      clear RI RS Bc Bi HB
      go_cut [10, 11] (fun s r wx => CrCut w1 mx g L w1.heap.size w2.heap.size #[.int .i64 p, .int .i64 q, .int .i64 n, .bool x] #[.int .i64 p2, .int .i64 q2, .int .i64 n2, .bool x2] (w1.heap.size + 1) (w2.heap.size + 1) 0 (.slice ao1 L.length cp1) (.slice ao2 L.length cp2) (.slice none 0 0) A [] w4 #[.int .i64 p1, .int .i64 q1, .int .i64 n1, .bool x1] f s r wx)
      case first =>
        go_region_with
          (first
           | (go_at_call 15; with_reducible refine Calls.mono (RA.out w4.drew _ _ (HK.out.drew.rd) HK.out.drew.hT HK.out.drew.hm) ?_; rintro e w5 ⟨va, rfl, hr, hb⟩; have hw := bl_behind (w := w4) hb (by repeat (first | (with_reducible exact Below.refl _ _) | (with_reducible refine Below.drew ?_) | (with_reducible refine bl_alloc ?_ _))); have HW := Lib.hid hw; have HR := Lib.hid (hr.lower (b := w4.heap.size) (Nat.le_refl _)); clear hw hr hb)
           | (go_at_call 15; with_reducible refine Calls.mono (RA.out (w4.alloc (.cells #[.int .i64 0, .int .i64 0, .int .i64 0, .bool false] 26)).drew _ _ ((HK.out.alloc _).drew.rd) (HK.out.alloc _).drew.hT (HK.out.alloc _).drew.hm) ?_; rintro e w5 ⟨va, rfl, hr, hb⟩; have bn := ((Blk.new w4 26 #[.int .i64 0, .int .i64 0, .int .i64 0, .bool false]).drew).below hb (by simp); obtain ⟨b0, b1, b2, b3, b4, b5, b6, b7, lb⟩ := blk4 bn; have BN := Lib.hid bn; have hw := bl_behind (w := w4) hb (by repeat (first | (with_reducible exact Below.refl _ _) | (with_reducible refine Below.drew ?_) | (with_reducible refine bl_alloc ?_ _))); have HW := Lib.hid hw; have HR := Lib.hid (hr.lower (b := w4.heap.size + 1) (by simp)); clear hw hr hb bn))
        all_goals go_wp2_with fail
        all_goals go_meet
        all_goals first | (with_reducible exact crCut_fin HK.out HW.out HR.out) | (with_reducible exact crCut_mk HK.out HW.out HR.out BN.out)
      case rest =>
        obtain ⟨g1, rfl, bk, hr, hk⟩ := hcut
        rename World => W5
        go_wp2_with fail
        have HQ := Lib.hid (fun (wx : World) (h : RdT wx (some ⟨g, 0, none⟩) L) => rdT_cutIf (cap := cap) (K := K) h hlc)
        have HK2 : Hid (CrK w1 mx g L g1 w2.heap.size #[.int .i64 p1, .int .i64 q1, .int .i64 n1, .bool x1] #[.int .i64 p2, .int .i64 q2, .int .i64 n2, .bool x2] (w1.heap.size + 1) (w2.heap.size + 1) w4.heap.size (.slice ao1 L.length cp1) (.slice ao2 L.length cp2) u11 A f W5) := Lib.hid ⟨hk.bel, hk.hT, hk.hm, hk.rd, bk, hk.i, hk.r1, hk.r2, hr⟩
        clear HK bk hr hk n0 n2' n3 n4 m0 m2 m3 m4 nl kc0 kc1 kc2 kc3 fc0 fc1 fc2 fc3 lc ki0 ki1 ki2 ki3 fi0 fi1 fi2 fi3 li RA
        have HK := HK2
        clear HK2
        obtain ⟨c0, c1, c2, c3, d0, d1, d2, d3, dl⟩ := blk4 HK.out.c
        obtain ⟨n0, n2', n3, n4, m0, m2, m3, m4, nl⟩ := blk4 (HK.out.c.alloc (.cells #[.int .i64 0, .int .i64 0, .int .i64 0, .bool false] 26))
        go_cut [12, 13] (fun s r wx => CrCut w1 mx g L g1 w2.heap.size #[.int .i64 p1, .int .i64 q1, .int .i64 n1, .bool x1] #[.int .i64 p2, .int .i64 q2, .int .i64 n2, .bool x2] (w1.heap.size + 1) (w2.heap.size + 1) w4.heap.size (.slice ao1 L.length cp1) (.slice ao2 L.length cp2) u11 A f W5 #[.int .i64 p2, .int .i64 q2, .int .i64 n2, .bool x2] sl s r wx)
        case first =>
          by_cases hck : cap = K
          · rw [if_pos hck] at HQ; subst hck; rw [show L.length - cap = 0 by omega] at RB
            go_region_with
              (first
               | (go_at_call 15; with_reducible refine Calls.mono (RB.out W5.drew _ _ (HQ.out _ HK.out.drew.rd) HK.out.drew.hT HK.out.drew.hm) ?_; rintro e w5 ⟨va, rfl, hr, hb⟩; have hw := bl_behind (w := W5) hb (by repeat (first | (with_reducible exact Below.refl _ _) | (with_reducible refine Below.drew ?_) | (with_reducible refine bl_alloc ?_ _))); have HW := Lib.hid hw; have HR := Lib.hid (hr.lower (b := W5.heap.size) (Nat.le_refl _)); clear hw hr hb)
               | (go_at_call 15; with_reducible refine Calls.mono (RB.out (W5.alloc (.cells #[.int .i64 0, .int .i64 0, .int .i64 0, .bool false] 26)).drew _ _ (HQ.out _ (HK.out.alloc _).drew.rd) (HK.out.alloc _).drew.hT (HK.out.alloc _).drew.hm) ?_; rintro e w5 ⟨va, rfl, hr, hb⟩; have bn := ((Blk.new W5 26 #[.int .i64 0, .int .i64 0, .int .i64 0, .bool false]).drew).below hb (by simp); obtain ⟨b0, b1, b2, b3, b4, b5, b6, b7, lb⟩ := blk4 bn; have BN := Lib.hid bn; have hw := bl_behind (w := W5) hb (by repeat (first | (with_reducible exact Below.refl _ _) | (with_reducible refine Below.drew ?_) | (with_reducible refine bl_alloc ?_ _))); have HW := Lib.hid hw; have HR := Lib.hid (hr.lower (b := W5.heap.size + 1) (by simp)); clear hw hr hb bn))
            all_goals go_wp2_with fail
            all_goals go_meet
            all_goals first | (with_reducible exact crCut_fin HK.out HW.out HR.out) | (with_reducible exact crCut_mk HK.out HW.out HR.out BN.out)
          · rw [if_neg hck] at HQ
            go_region_with
              (first
               | (go_at_call 15; with_reducible refine Calls.mono (RB.out W5.drew _ _ (HQ.out _ HK.out.drew.rd) HK.out.drew.hT HK.out.drew.hm) ?_; rintro e w5 ⟨va, rfl, hr, hb⟩; have hw := bl_behind (w := W5) hb (by repeat (first | (with_reducible exact Below.refl _ _) | (with_reducible refine Below.drew ?_) | (with_reducible refine bl_alloc ?_ _))); have HW := Lib.hid hw; have HR := Lib.hid (hr.lower (b := W5.heap.size) (Nat.le_refl _)); clear hw hr hb)
               | (go_at_call 15; with_reducible refine Calls.mono (RB.out (W5.alloc (.cells #[.int .i64 0, .int .i64 0, .int .i64 0, .bool false] 26)).drew _ _ (HQ.out _ (HK.out.alloc _).drew.rd) (HK.out.alloc _).drew.hT (HK.out.alloc _).drew.hm) ?_; rintro e w5 ⟨va, rfl, hr, hb⟩; have bn := ((Blk.new W5 26 #[.int .i64 0, .int .i64 0, .int .i64 0, .bool false]).drew).below hb (by simp); obtain ⟨b0, b1, b2, b3, b4, b5, b6, b7, lb⟩ := blk4 bn; have BN := Lib.hid bn; have hw := bl_behind (w := W5) hb (by repeat (first | (with_reducible exact Below.refl _ _) | (with_reducible refine Below.drew ?_) | (with_reducible refine bl_alloc ?_ _))); have HW := Lib.hid hw; have HR := Lib.hid (hr.lower (b := W5.heap.size + 1) (by simp)); clear hw hr hb bn))
            all_goals go_wp2_with fail
            all_goals go_meet
            all_goals first | (with_reducible exact crCut_fin HK.out HW.out HR.out) | (with_reducible exact crCut_mk HK.out HW.out HR.out BN.out)
        case rest =>
          obtain ⟨g2, rfl, bk, hr, hk⟩ := hcut
          rename World => W6
          have hE := RowS.empty W6 W6.heap.size (Nat.le_refl _)
          have hF := hk.r3.alloc (.cells #[] 9)
          have HE := Lib.hid hE
          have HK := Lib.hid hk
          have BK := Lib.hid bk
          have HS := Lib.hid hr
          clear bk hr hk HQ RB c0 c1 c2 c3 d0 d1 d2 d3 dl n0 n2' n3 n4 m0 m2 m3 m4 nl
          go_wp2_with (first | (at_builtin; refine wpList_append_rows rfl _ _ rfl rfl rfl hE hF ?c1 ?c2 ?_))
          case c1 => first | omega | (simp; omega)
          case c2 => simp
          intro v6 w6 hr6 hg6
          have hw6 : Below W6.heap.size W6 w6 := Below.grown (bl_alloc (Below.refl _ _) _) hg6 (by simp) (fun k e => (World.ownsRow.lt HE.out k e).1)
          have hG := HS.out.below hw6
          have HR6 := Lib.hid hr6
          have HW6 := Lib.hid hw6
          clear hE hF hg6 hw6
          go_wp2_with (first | (at_builtin; refine wpList_append_rows rfl _ _ rfl rfl rfl hr6 hG ?c1 ?c2 ?_))
          case c1 => first | omega | (simp; omega)
          case c2 => exact HW6.out.size
          intro v7 w7 hr7 hg7
          have hw7 : Below W6.heap.size W6 w7 := Below.grown HW6.out hg7 HW6.out.size (fun k e => (World.ownsRow.lt HR6.out k e).1)
          have hr7' : RowS w7 W6.heap.size v7 A := by first | exact hr7 | simpa [hA] using hr7
          obtain ⟨ao7, cp7, e7, -⟩ := hr7'.open_
          rw [hlA] at e7
          subst e7
          have HK7 := Lib.hid (HK.out.below hw7)
          have R7 := Lib.hid hr7'.rdT
          have R1 := Lib.hid HK7.out.r1.rdT
          have R2 := Lib.hid HK7.out.r2.rdT
          obtain ⟨c0, c1, c2, c3, d0, d1, d2, d3, dl⟩ := blk4 (BK.out.below hw7 BK.out.lt)
          obtain ⟨n0, n2', n3, n4, m0, m2, m3, m4, nl⟩ := blk4 HK7.out.i
          clear hr6 hG HR6 HW6 hr7 hg7 hw7 hr7' HK BK HS HE
          go_wp2_with fail
          go_loopw [15] (fun i wr => ∃ k q : Nat, i = .int .i64 k ∧ k ≤ L.length ∧ wr = w7.drewN q) (fun i _ => L.length - (RowKit.intOf i).toNat)
          case atStart => exact ⟨0, 0, rfl, Nat.zero_le _, rfl⟩
          case round =>
            obtain ⟨k, q, rfl, hk, rfl⟩ := hrel
            rcases Nat.lt_or_ge k L.length with hlt | hge
            · obtain ⟨x1', rfl, -, ca⟩ := R1.out k (by omega)
              obtain ⟨x2', rfl, -, cb⟩ := R2.out k (by omega)
              obtain ⟨x7', rfl, -, cc⟩ := R7.out k (by omega)
              have hki : (k : Int) < (L.length : Int) := by omega
              go_wp2_with fail
              go_quiet (fail)
              go_wp2_with fail
              go_roundw
              case rel => exact ⟨k + 1, q + nq, by go_num, by omega, by first | rfl | exact World.drewN_drewN ..⟩
              case measure => simp [RowKit.intOf]; omega
            · have e : k = L.length := by omega
              subst e
              go_wp2_with fail
              go_ret
              have hb := HK7.out.bel
              exact ⟨rfl, HB0.out.trans (Below.mono (by repeat' (first | (with_reducible exact Below.refl _ _) | (with_reducible assumption) | (with_reducible refine below_drewN ?_ _) | (with_reducible refine Below.drew ?_) | (with_reducible refine bl_alloc ?_ _) | (with_reducible refine bl_set ?_ ?_ _) | go_size | omega)) HB0.out.size)⟩

/-! THE ROW's STEP of FnCalculatorRun: from the contract of the law's walk to the given statement. -/
namespace fnCalculatorRun
set_option maxRecDepth 100000 in
theorem lifted (os : Os) (started : os.Started) (H : Type) (enc : TypeId × Value → H) :
    ReturnsInHanded {} Tryz.checked os 4 .any (fun w args => (Rows.fnCalculatorRunSpec.pre enc Tryz.prog Tryz.f4 [] false w args ∧ laidMetH Tryz.prog laidL w) ∧ sizedMet enc Tryz.prog Tryz.f4 (OpenSpec.ofChange Rows.fnCalculatorRunSpec) false w args) (Rows.fnCalculatorRunSpec.post enc Tryz.prog Tryz.f4 false true false false) := by
  refine card_of_shaped (C := Tryz.checked) (X := fun w _ => laidMetH Tryz.prog laidL w) (fun _ _ _ hh h => h.of_heap hh) own started (by kernel_rfl) Tryz.func4
    (ChangeSpec.witness_shaped (enc := enc) (C := Tryz.checked) (os := os) (X := fun w _ => laidMetH Tryz.prog laidL w) false (World.doorLaid Tryz.prog 400 os) #[.slice none 0 0] 8 rfl (World.shaped_of_RefB (by kernel_rfl) (by kernel_rfl)) (by kernel_rfl) (by kernel_rfl) (by kernel_rfl) (door_met os _)) ?_
  intro W base args ds gs before hval0 hW _ _ hL _
  have hval : ∀ (j : Nat) t v, Tryz.f4.params[j]? = some t → args[j]? = some v → Value.okWide Tryz.prog W .any base t v := hval0
  have hW' := hW
  obtain ⟨p, q, hA0, hV, rfl, hfz, hnd⟩ := hW
  have hA : DataW.TrodAll enc Tryz.prog W 0 (fun _ => true) true Tryz.f4.params.toList args.toList ds p := hA0
  rw [Tryz.params4] at hA hval
  obtain ⟨v0, vs0, d0, ds0, p0, q0, hargs, rfl, rfl, h0, r0⟩ := trodAll_cons hA
  obtain ⟨rfl, rfl, rfl⟩ := trodAll_nil r0
  obtain rfl : args = #[v0] := by cases args; simp_all
  obtain ⟨rfl, rfl⟩ := trodVars_none hV
  have k0 := h0
  have lt0 : ∀ x ∈ p0, x.block < W.heap.size := by obtain ⟨m, hm⟩ := k0; exact DataW.trod_lt m _ _ _ hm
  obtain ⟨a0, len0, cap0, rfl⟩ := okWide_slice Tryz.underlying22 (hval 0 22 v0 rfl rfl)
  obtain ⟨z0, w0⟩ : ∃ zs, IsRow .u8 W a0 len0 cap0 zs := by
    obtain ⟨fuel, hf⟩ := h0
    rcases open_ints Tryz.underlying22 Tryz.underlying5 (by kernel_rfl) hf with ⟨hcs, _⟩ | ⟨x, l, c, zs, hcs, _, hl, hm, hz, _, hcell, hwz⟩
    · simp [Value.cells] at hcs
      obtain ⟨rfl, rfl, rfl⟩ := hcs
      exact ⟨[], .inl ⟨rfl, rfl, rfl, rfl⟩⟩
    · simp [Value.cells] at hcs
      obtain ⟨rfl, rfl, rfl⟩ := hcs
      exact ⟨zs, .inr ⟨_, rfl, hl, hm, by simpa using hz, hcell, hwz, isRow_lt hcell⟩⟩
  clear hA0 hval0
  refine (walk W a0 len0 cap0 z0 w0 hL.1 hL.2).mono fun e W' ⟨he, bel⟩ => ?_
  subst he
  exact ⟨_, rfl, _, _, _, [], _, [], hW', trodAll_mk1 (shut_bool Tryz.underlying4 _), (trodAll_cons_mk (Below.trod laidOut (by kernel_rfl) (of_decide_eq_true (by kernel_rfl)) k0 bel lt0) trodAll_mk0), rfl, bel.frame _, fun h => by cases h⟩
end fnCalculatorRun

theorem fnCalculatorRun_row : Rows.FnCalculatorRunSaid :=
  OpenClaim.holds_of_wide 4 Tryz.f4 rfl rfl rfl rfl rfl rfl rfl ⟨rfl, rfl, rfl, rfl, rfl⟩ rfl rfl rfl rfl rfl (by kernel_rfl) Tryz.func4 (by kernel_rfl)
    (of_decide_eq_true (by kernel_rfl)) (by unfold Func.isWrapper; first | (rw [if_pos (by decide +kernel)]; kernel_rfl) | (rw [if_neg (by decide +kernel)]; exact ⟨rfl, rfl⟩))
    (fun os started H enc _ => fnCalculatorRun.lifted os started H enc)
theorem fnCalculatorRun_holds : Rows.FnCalculatorRunCardSaid :=
  Claim7.holds_tied_plain_at .later [] [.data, .data, .data] true _ false
    fnCalculatorRun_row (fun _ h => by cases h) (by kernel_rfl) (fun _ h => by cases h) fnCalculatorRun_row_tie rfl ⟨rfl, rfl⟩ (by kernel_rfl) rfl
    (fun f fn hf hfn => by
      obtain rfl : f = 4 := Option.some.inj ((show Tryz.prog.funcNamed "loop.example/fixedmath/laws.FnCalculatorRun" = some 4 by kernel_rfl).symm.trans hf) |>.symm
      obtain rfl : fn = Tryz.f4 := (Option.some.inj (Tryz.func4.symm.trans hfn)).symm
      exact ⟨by kernel_rfl, fun j t ht => by
        rw [Tryz.params4] at ht
        have hm : t ∈ [22] := by simpa using Array.mem_of_getElem? ht
        have hall : ([22].all fun u => !Tryz.prog.wantsStandIn u) = true := by kernel_rfl
        exact (show Tryz.prog.wantsStandIn t = false by simpa using List.all_eq_true.1 hall t hm)⟩)
    (by kernel_rfl)
#print axioms fnCalculatorRun_holds

end Go.Proofs.YtidnnnjjpjadlaaGreatDoor
