/- CalculatorLine of the program on a line that adds. No condition: contracts for the walks of the law. -/
import Derived.Test.YtidnnnjjpjadlaaDoorAd
import Derived.Test.YtidnnnjjpjadlaaDoorRs
import Derived.Test.YtidnnnjjpjadlaaDoorPick
import Derived.Maps.OwnSet
import Derived.StringKeys
namespace Go.Proofs.YtidnnnjjpjadlaaDoor
open Go.ChangeShapes Go.WideShapes Go.ChangeAt Go.RowKit

/-- A store of a map literal, at the operation. -/
theorem wpl_insert {H : Type} {P : Program} (w : World) {ops : Array Oper} {rest : List Oper} {o : Oper} {a : Act} {Q : Exit → Act → World → Prop}
    (hg : o.guard = none) (m x v : Operand) (t : TypeId) (hop : o.op = Op.insert t m x v)
    (k e : TypeId) (K : Go.Maps.Keyed P k) (ht : P.underlying t = some (.map k e)) (R : Value → Option (DataW H × List MemPlace)) (b n : Nat) (D : DataW H)
    (hm : a.eval m = .map (some b)) (hown : w.ownsMap P k R b n D) (hn : n < maxLen) (key val : Value) (kl : Lit) (hx : a.eval x = key) (hv : a.eval v = val) (hkey : keyOf P k key = some kl)
    (d : DataW H) (ps : List MemPlace) (hval : R val = some (d, ps))
    (hK : ∀ w', w'.ownsMap P k R b (n + 1) (D.put kl d) → w.grownBy w' (some b) → wpList P ops Q rest (a.put o.dst undef) w') :
    wpList P ops Q (o :: rest) a w := by
  refine wpList_plain hg fun K' hK' => ?_
  obtain ⟨w', hrun, r1, r2⟩ := hown.update K ht hn hkey hval
  unfold Oper.wp
  simp [execOp, hop, hm, hx, hv, hrun, Result.andThen]
  exact hK' _ _ (hK w' r1 r2)
theorem zeroI (w : World) : (zeroValue 3).run Tryd.prog w = .ok (.int .i64 0) w := by kernel_rfl
/-- The five commands. -/
def cmdD : DataW Unit := (((((DataW.map ([] : List (Lit × DataW Unit))).put (.string [115, 101, 116]) (.lit (.int .i64 0))).put (.string [97, 100, 100]) (.lit (.int .i64 1))).put (.string [115, 117, 98]) (.lit (.int .i64 2))).put (.string [109, 117, 108]) (.lit (.int .i64 3))).put (.string [100, 105, 118]) (.lit (.int .i64 4))
theorem look_add {c : Int} (h : cmdD.atKey (.string [97, 100, 100]) (.lit (.int .i64 0)) = .lit (.int .i64 c)) : c = 1 := by
  have e : cmdD.atKey (.string [97, 100, 100]) (.lit (.int .i64 0)) = .lit (.int .i64 1) := by kernel_rfl
  rw [e] at h
  injection h with h
  injection h with _ h
  exact h.symm
theorem has_add : Go.Maps.has cmdD (.string [97, 100, 100]) = true := by kernel_rfl
theorem cut_add (t : ByteArray) (m : Int) (w : World) (hs : t.size ≤ 100) (hm : w.cell? ⟨0, 0, none⟩ = some (.int .i64 m)) : Calls Tryd.prog 29 #[.string ((⟨#[97, 100, 100, 32]⟩ : ByteArray) ++ t), .string ⟨#[32]⟩] w fun e w' => e = .returned (.tuple #[.string ⟨#[97, 100, 100]⟩, .string t, .bool true]) ∧ ∃ n, w' = w.drewN n := by
  have hl : ((⟨#[97, 100, 100, 32]⟩ : ByteArray) ++ t).data.toList = 97 :: 100 :: 100 :: 32 :: t.data.toList := by simp [ByteArray.data_append]
  have k := Tryd.strings_Cut ((⟨#[97, 100, 100, 32]⟩ : ByteArray) ++ t) ⟨#[32]⟩ m w (by rw [ByteArray.size_append]; have : (⟨#[97, 100, 100, 32]⟩ : ByteArray).size = 4 := rfl; omega) hm
  have e : Lib.cut ((⟨#[97, 100, 100, 32]⟩ : ByteArray) ++ t).data.toList (⟨#[32]⟩ : ByteArray).data.toList = ([97, 100, 100], t.data.toList, true) := by
    rw [hl]
    exact (cut_spl 32 _).trans (by simp [spl])
  rw [e] at k
  exact k
theorem blk4c {w : World} {g : Nat} {t : TypeId} {x y z u : Value} (h : Blk w g t #[x, y, z, u]) :
    w.cell? ⟨g, 0, none⟩ = some x ∧ w.cell? ⟨g, 1, none⟩ = some y ∧ w.cell? ⟨g, 2, none⟩ = some z ∧ w.cell? ⟨g, 3, none⟩ = some u := ⟨h.cell 0, h.cell 1, h.cell 2, h.cell 3⟩
def AfCut (w : World) (p q n : Int) (x : Bool) (s : Value) (wx : World) : Prop := s = .bool true ∧ Blk wx (w.heap.size + 1) 32 #[.int .i64 p, .int .i64 q, .int .i64 n, .bool x] ∧ Below w.heap.size w wx
theorem afCut_mk {w w' : World} {p q n : Int} {x : Bool} {c0 c1 c2 c3 : Value} (bt : Blk w' (w.heap.size + 1) 32 #[c0, c1, c2, c3]) (hb : Below w.heap.size w w') : AfCut w p q n x (.bool true) ((((w'.setCell ⟨w.heap.size + 1, 0, none⟩ (.int .i64 p)).setCell ⟨w.heap.size + 1, 1, none⟩ (.int .i64 q)).setCell ⟨w.heap.size + 1, 2, none⟩ (.int .i64 n)).setCell ⟨w.heap.size + 1, 3, none⟩ (.bool x)) :=
  ⟨rfl, (((bt.set 0 _).set 1 _).set 2 _).set 3 _, (((hb.setCell (Nat.le_succ _) _).setCell (Nat.le_succ _) _).setCell (Nat.le_succ _) _).setCell (Nat.le_succ _) _⟩
set_option maxRecDepth 100000 in
set_option maxHeartbeats 8000000 in
theorem after_add (p q a n : Int) (x : Bool) (s t : ByteArray) (m : Int) (w : World) (hT : HT w) (hm : w.cell? ⟨0, 0, none⟩ = some (.int .i64 m)) (hcut : ∀ w', w'.cell? ⟨0, 0, none⟩ = some (.int .i64 m) → Calls Tryd.prog 29 #[.string s, .string ⟨#[32]⟩] w' fun e w'' => e = .returned (.tuple #[.string ⟨#[97, 100, 100]⟩, .string t, .bool true]) ∧ ∃ n, w'' = w'.drewN n) (hread : ∀ w', HT w' → w'.cell? ⟨0, 0, none⟩ = some (.int .i64 m) → Calls Tryd.prog 33 #[.agg #[.int .i64 p, .int .i64 q], .string t] w' fun e w'' => e = .returned (.tuple #[.int .i64 n, .bool true]) ∧ Below w'.heap.size w' w'') :
    Calls Tryd.prog 22 #[.agg #[.int .i64 p, .int .i64 q, .int .i64 a, .bool x], .string s] w fun e w' => e = .returned (.tuple #[.agg #[.int .i64 p, .int .i64 q, .int .i64 (adN p q a n), .bool (x || !(adOk p q a n))], .bool true]) ∧ Below w.heap.size w w' := by
  have hmm := @run_makeMap Tryd.prog
  have HM := Lib.hid hm
  have HTB := Lib.hid hT
  have HCUT := Lib.hid hcut
  have HRD := Lib.hid hread
  have HB := Lib.hid (Below.refl w.heap.size w)
  clear hm hT hcut hread
  go_enter Tryd.func22, Tryd.ntmps22
  go_wp2_with fail
  refine (HCUT.out _ (cell0_below HM.out (by have hb0 := HB.out; repeat (first | (with_reducible exact hb0) | (with_reducible refine below_drewN ?_ _) | (with_reducible refine Below.drew ?_) | (with_reducible refine bl_alloc ?_ _))))).mono ?_
  rintro e w1 ⟨rfl, nq, rfl⟩
  have bx : Blk (((w.alloc (.cells #[.int .i64 p, .int .i64 q, .int .i64 a, .bool x] 32)).alloc (.cells #[.int .i64 0, .int .i64 0, .int .i64 0, .bool false] 32)).drewN nq) w.heap.size 32 #[.int .i64 p, .int .i64 q, .int .i64 a, .bool x] := ((Blk.new _ _ _).alloc _).drewN nq
  have bz : Blk (((w.alloc (.cells #[.int .i64 p, .int .i64 q, .int .i64 a, .bool x] 32)).alloc (.cells #[.int .i64 0, .int .i64 0, .int .i64 0, .bool false] 32)).drewN nq) (w.heap.size + 1) 32 #[.int .i64 0, .int .i64 0, .int .i64 0, .bool false] := (Blk.newAt (by simp)).drewN nq
  have hbl : Below w.heap.size w (((w.alloc (.cells #[.int .i64 p, .int .i64 q, .int .i64 a, .bool x] 32)).alloc (.cells #[.int .i64 0, .int .i64 0, .int .i64 0, .bool false] 32)).drewN nq) := (by repeat' (first | (with_reducible exact Below.refl _ _) | (with_reducible assumption) | (with_reducible refine below_drewN ?_ _) | (with_reducible refine Below.drew ?_) | (with_reducible refine bl_alloc ?_ _) | (with_reducible refine bl_set ?_ ?_ _) | go_size | omega))
  generalize hW : (((w.alloc (.cells #[.int .i64 p, .int .i64 q, .int .i64 a, .bool x] 32)).alloc (.cells #[.int .i64 0, .int .i64 0, .int .i64 0, .bool false] 32)).drewN nq) = W at *
  have o0 : (W.alloc (.map #[] 0)).ownsMap Tryd.prog 9 (plainElem (H := Unit) Tryd.prog 3) W.heap.size 0 (.map []) := World.ownsMap_made _ _ _ _
  obtain ⟨W1, r1, o1, g1⟩ := o0.update (t := 66) (e := 3) (key := .string ⟨#[115, 101, 116]⟩) (val := .int .i64 0) (Go.Maps.string_keyed Tryd.underlying9) Tryd.underlying66 (by unfold maxLen; omega) (Go.WideMaps.keyOf_string_mk Tryd.underlying9 (by decide)) (plainElem_int Tryd.underlying3 (by decide))
  obtain ⟨W2, r2, o2, g2⟩ := o1.update (t := 66) (e := 3) (key := .string ⟨#[97, 100, 100]⟩) (val := .int .i64 1) (Go.Maps.string_keyed Tryd.underlying9) Tryd.underlying66 (by unfold maxLen; omega) (Go.WideMaps.keyOf_string_mk Tryd.underlying9 (by decide)) (plainElem_int Tryd.underlying3 (by decide))
  obtain ⟨W3, r3, o3, g3⟩ := o2.update (t := 66) (e := 3) (key := .string ⟨#[115, 117, 98]⟩) (val := .int .i64 2) (Go.Maps.string_keyed Tryd.underlying9) Tryd.underlying66 (by unfold maxLen; omega) (Go.WideMaps.keyOf_string_mk Tryd.underlying9 (by decide)) (plainElem_int Tryd.underlying3 (by decide))
  obtain ⟨W4, r4, o4, g4⟩ := o3.update (t := 66) (e := 3) (key := .string ⟨#[109, 117, 108]⟩) (val := .int .i64 3) (Go.Maps.string_keyed Tryd.underlying9) Tryd.underlying66 (by unfold maxLen; omega) (Go.WideMaps.keyOf_string_mk Tryd.underlying9 (by decide)) (plainElem_int Tryd.underlying3 (by decide))
  obtain ⟨W5, r5, o5, g5⟩ := o4.update (t := 66) (e := 3) (key := .string ⟨#[100, 105, 118]⟩) (val := .int .i64 4) (Go.Maps.string_keyed Tryd.underlying9) Tryd.underlying66 (by unfold maxLen; omega) (Go.WideMaps.keyOf_string_mk Tryd.underlying9 (by decide)) (plainElem_int Tryd.underlying3 (by decide))
  have o6 : W5.ownsMap Tryd.prog 9 (plainElem (H := Unit) Tryd.prog 3) W.heap.size 5 cmdD := o5
  obtain ⟨vv, pp, rl, hat⟩ := o6.look_ok (t := 66) (e := 3) (key := .string ⟨#[97, 100, 100]⟩) (kl := .string [97, 100, 100]) (Go.Maps.string_keyed Tryd.underlying9) Tryd.underlying66 (zeroI _) (plainElem_int Tryd.underlying3 (by decide)) (Go.WideMaps.keyOf_string_mk Tryd.underlying9 (by decide))
  rw [has_add] at rl
  obtain ⟨c, rfl, hc, -⟩ := plainElem_int_inv Tryd.underlying3 hat
  have hc := look_add (congrArg Prod.fst hc)
  subst hc
  have gg := grownBy_trans (grownBy_trans (grownBy_trans (grownBy_trans g1 g2) g3) g4) g5
  have hl1 := bx.lt
  have hl2 := bz.lt
  have bx := (bx.alloc (.map #[] 0)).grown gg (by intro e; injection e with e; omega)
  have bz := (bz.alloc (.map #[] 0)).grown gg (by intro e; injection e with e; omega)
  have hbl := (bl_alloc hbl (.map #[] 0)).grown gg (bl_alloc hbl (.map #[] 0)).size (fun k hk => by injection hk with hk; omega)
  have Bx := Lib.hid bx
  have Bz := Lib.hid bz
  have HB := Lib.hid hbl
  obtain ⟨kx0, kx1, kx2, kx3⟩ := blk4c bx
  clear bx bz hbl hW o0 o1 o2 o3 o4 o5 o6 g1 g2 g3 g4 g5 gg hat
  go_wp2_with fail
  refine (HRD.out _ (HTB.out.below HB.out) (cell0_below HM.out HB.out)).mono ?_
  rintro e w6 ⟨rfl, hb⟩
  have bx := Bx.out.below hb Bx.out.lt
  have bz := Bz.out.below hb Bz.out.lt
  have hbl := bl_behind hb HB.out
  clear kx0 kx1 kx2 kx3 hb Bx Bz HB r1 r2 r3 r4 r5 rl
  obtain ⟨kx0, kx1, kx2, kx3⟩ := blk4c bx
  obtain ⟨kz0, kz1, kz2, kz3⟩ := blk4c bz
  have fz0 := bz.frozen 0
  have fz1 := bz.frozen 1
  have fz2 := bz.frozen 2
  have fz3 := bz.frozen 3
  have hl1 := bx.lt
  have hl2 := bz.lt
  have Bx := Lib.hid bx
  have Bz := Lib.hid bz
  have HB := Lib.hid hbl
  clear bx bz hbl
  go_wp2_with fail
  go_cut [5] (fun s wx => AfCut w p q (adN p q a n) (x || !(adOk p q a n)) s wx)
  case first =>
    go_region_with
      (first
       | (go_at_call 5; refine (add_impl _ _ _ _ _).mono ?_; rintro e w7 ⟨rfl, hb⟩; (repeat (replace hb := undrew hb)); (repeat (replace hb := undrewN hb)); have bx := Bx.out.below hb Bx.out.lt; have bz := Bz.out.below hb Bz.out.lt; have hbl := bl_behind hb HB.out; clear hb kx0 kx1 kx2 kx3 kz0 kz1 kz2 kz3 fz0 fz1 fz2 fz3 hl1 hl2 Bx Bz HB; obtain ⟨kx0, kx1, kx2, kx3⟩ := blk4c bx; obtain ⟨kz0, kz1, kz2, kz3⟩ := blk4c bz; have fz0 := bz.frozen 0; have fz1 := bz.frozen 1; have fz2 := bz.frozen 2; have fz3 := bz.frozen 3; have hl1 := bx.lt; have hl2 := bz.lt; have Bx := Lib.hid bx; have Bz := Lib.hid bz; have HB := Lib.hid hbl; clear bx bz hbl)
       | (go_at_call 34; refine (show_any _ _ _ _ _ _ _).mono ?_; rintro e w8 ⟨rfl, hb⟩; (repeat (replace hb := undrew hb)); (repeat (replace hb := undrewN hb)); have bx := Bx.out.below hb Bx.out.lt; have bz := Bz.out.below hb Bz.out.lt; have hbl := bl_behind hb HB.out; clear hb kx0 kx1 kx2 kx3 kz0 kz1 kz2 kz3 fz0 fz1 fz2 fz3 hl1 hl2 Bx Bz HB; obtain ⟨kx0, kx1, kx2, kx3⟩ := blk4c bx; obtain ⟨kz0, kz1, kz2, kz3⟩ := blk4c bz; have fz0 := bz.frozen 0; have fz1 := bz.frozen 1; have fz2 := bz.frozen 2; have fz3 := bz.frozen 3; have hl1 := bx.lt; have hl2 := bz.lt; have Bx := Lib.hid bx; have Bz := Lib.hid bz; have HB := Lib.hid hbl; clear bx bz hbl))
    all_goals go_wp2_with fail
    all_goals go_meet
    all_goals exact afCut_mk Bz.out HB.out
  case rest =>
    obtain ⟨rfl, bk, hb⟩ := hcut
    obtain ⟨k0, k1, k2, k3⟩ := blk4c bk
    have HB := Lib.hid hb
    clear bk hb kx0 kx1 kx2 kx3 kz0 kz1 kz2 kz3
    go_wp2_with fail
    refine bodyPost_ret (v := .tuple #[.agg #[.int .i64 p, .int .i64 q, .int .i64 (adN p q a n), .bool (x || !(adOk p q a n))], .bool true]) (by simp [results, Tryd.results22, go_sem, k0, k1, k2, k3]) rfl ?_
    exact ⟨rfl, HB.out⟩
end Go.Proofs.YtidnnnjjpjadlaaDoor
