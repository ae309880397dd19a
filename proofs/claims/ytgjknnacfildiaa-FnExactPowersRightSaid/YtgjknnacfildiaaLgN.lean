/- Long numbers: the reference's product. No condition: contracts for the walks of the laws. -/
import Derived.Test.YtgjknnacfildiaaLgM
namespace Go.Proofs.Ytgjknnacfildiaa
open Go.ChangeShapes Go.WideShapes Go.ChangeAt Go.RowKit


theorem Row.more_all {w0 wr w1 : World} {base : Nat} {v v' : Value} {xs : List Int} (h : Row wr base v []) (h' : w1.ownsRow base 3 1 v' xs.length (xs.map (Value.int .i64))) (hg : wr.grownBy w1 v.ownBlock) (hb : Below base w0 wr) (hw0 : base ≤ w0.heap.size) : Row w1 base v' xs ∧ Below base w0 w1 := by
  refine ⟨?_, hb.grown hg (by have := hb.size; omega) (fun k hk => (World.ownsRow.lt h k hk).1)⟩
  exact h'
set_option maxHeartbeats 4000000 in
theorem cut3_any {w : World} {base g n cap : Nat} {P : List Int} (h : Row w base (.slice (some ⟨g, 0, none⟩) n cap) P) (hd : LgD P) (hl : P.length ≤ 121) (hcp : cap ≤ 121) : Calls Try.prog 23 #[.slice (some ⟨g, 0, none⟩) n cap] w (RowPost w (digs (lgV P))) := by
  obtain ⟨i0, hi, hz0, hz1, hz2⟩ := (info_parts (P := Try.prog) (e := 3) (z := .int .i64 0) (size := 1) (bytes := 8) (by kernel_rfl) : ∃ i, Try.prog.info? 3 = some i ∧ i.zero = some (.int .i64 0) ∧ i.size = 1 ∧ i.bytes = 8)
  obtain ⟨hNP, pc, pf, hgz⟩ := h.at
  have HNP := Lib.hid hNP
  have hni : (n : Int) ≤ 121 := by omega
  have hnc : n ≤ cap := by obtain ⟨ao, c2, e, -, h4, -⟩ := h.open_; simp only [Value.slice.injEq] at e; omega
  have hnci : (n : Int) ≤ (cap : Int) := by omega
  have hci : (cap : Int) ≤ 121 := by omega
  have HR := Lib.hid h
  clear h hNP
  go_enter Try.func23, Try.ntmps23
  go_wp2_with fail
  go_loop [3] (fun i => ∃ e : Nat, i = .int .i64 (e : Int) ∧ e ≤ n ∧ (∀ j, e ≤ j → j < P.length → P.getD j 0 = 0)) (fun i => (RowKit.intOf i).toNat)
  case atStart => exact ⟨n, rfl, Nat.le_refl _, fun j h1 h2 => by have := HNP.out; omega⟩
  case round =>
    obtain ⟨e, rfl, he, hz⟩ := hrel
    by_cases hq : 0 < e ∧ P.getD (e - 1) 0 = 0
    · obtain ⟨i, rfl⟩ : ∃ i, e = i + 1 := ⟨e - 1, by omega⟩
      have hNP := HNP.out
      have cp := pc i (by omega)
      have e1 : ((i + 1 : Nat) : Int) - 1 = (i : Int) := by omega
      have hip : (0 : Int) < ((i + 1 : Nat) : Int) := by omega
      have hiN : ((i + 1 : Nat) : Int) ≤ (n : Int) := by omega
      have hiN2 : (i : Int) < (n : Int) := by omega
      have hp : P.getD i 0 = 0 := hq.2
      have HZ : Hid (∀ j, i ≤ j → j < P.length → P.getD j 0 = 0) := Lib.hid (fun j h1 h2 => by
        rcases Nat.eq_or_lt_of_le h1 with h3 | h3
        · subst h3; exact hp
        · exact hz j h3 h2)
      rw [hp] at cp
      clear hz pc pf hp hNP hq
      generalize hI : ((i + 1 : Nat) : Int) = I at *
      go_wp2_with (first | (rw [e1]) | fail)
      go_round
      case rel => exact ⟨i, (by first | rfl | go_num), by omega, HZ.out⟩
      case measure => simp [RowKit.intOf] <;> omega
    · have hNP := HNP.out
      have hds := digs_cut (l := P) hd (e := e) (by omega) hz (fun h0 hh => hq ⟨h0, hh⟩)
      have HD := Lib.hid hds
      have hlen : (P.take e).length = e := by simp; omega
      have hcells : ∀ j u, ((P.take e).map (Value.int .i64))[j]? = some u → (w.alloc (.cells #[] 3)).cell? ((⟨g, 0, none⟩ : Addr).add j) = some u := fun j u hj => by
        have hj' : j < e := by
          rcases Nat.lt_or_ge j e with h1 | h1
          · exact h1
          · rw [List.getElem?_eq_none (by rw [List.length_map, hlen]; exact h1)] at hj; cases hj
        rw [Addr.add_lit, Nat.zero_add, Below.cell ((Below.refl w.heap.size w).alloc (Nat.le_refl _) _) (p := ⟨g, j, none⟩) hgz, pc j (by omega)]
        rw [List.getElem?_map, List.getElem?_eq_getElem (by rw [hlen]; exact hj')] at hj
        simp only [Option.map_some, Option.some.injEq] at hj
        rw [← hj]
        simp [List.getD_eq_getElem?_getD, show j < P.length by omega]
      have RE : Hid (Row _ w.heap.size (.slice (some ⟨w.heap.size, 0, none⟩) 0 0) []) := Lib.hid (Row.emptyAt (w := w) rfl (Nat.le_refl _))
      have hone : ∀ u ∈ (P.take e).map (Value.int .i64), u.oneCell' = true := fun u hu => by obtain ⟨z, -, rfl⟩ := List.mem_map.1 hu; rfl
      have HL : Hid (((P.take e).map (Value.int .i64)).length = e) := Lib.hid (by rw [List.length_map, hlen])
      have HC := Lib.hid hcells
      have HO := Lib.hid hone
      have HLL := Lib.hid hlen
      have HB := Lib.hid ((Below.refl w.heap.size w).alloc (Nat.le_refl _) (.cells #[] 3))
      have hei : (e : Int) ≤ (n : Int) := by omega
      have htest : (0 < e → ∃ i : Nat, e = i + 1 ∧ (i : Int) < (n : Int) ∧ w.cell? ⟨g, i, none⟩ = some (.int .i64 (P.getD i 0)) ∧ P.getD i 0 ≠ 0) := fun h0 => ⟨e - 1, by omega, by omega, pc (e - 1) (by omega), fun hh => hq ⟨h0, hh⟩⟩
      clear hz pc pf hNP hq hds hcells hone hlen
      have HNW : Hid (∀ v' w1, World.ownsRow w1 w.heap.size 3 1 v' e ((P.take e).map (Value.int .i64)) → World.ownsRow w1 w.heap.size 3 1 v' (P.take e).length ((P.take e).map (Value.int .i64))) := Lib.hid (fun v' w1 h => by rw [HLL.out]; simpa using h)
      generalize hnw : (P.take e).map (Value.int .i64) = news at HL HC HO HNW
      have HNN := Lib.hid hnw
      clear hnw
      rcases Nat.eq_zero_or_pos e with h0 | h0
      · subst h0
        clear htest
        have RE2 : Hid (Row (w.alloc (.cells #[] 3)) w.heap.size (.slice (some ⟨w.heap.size, 0, none⟩) 0 0) (digs (lgV P))) := Lib.hid (by have h1 := RE.out; rw [← HD.out, List.take_zero]; exact h1)
        go_wp2_with fail
        go_ret
        exact ⟨_, rfl, RE2.out, HB.out⟩
      · obtain ⟨i, hei2, hii, cp, hp⟩ := htest h0
        have e1 : (e : Int) - 1 = (i : Int) := by omega
        have hip : (0 : Int) < (e : Int) := by omega
        clear htest
        generalize P.getD i 0 = p at *
        have hpb : (p == 0) = false := beq_eq_false_iff_ne.2 hp
        clear hei2 hp
        go_wp2_with (first | (rw [e1]) | (at_builtin; refine wpList_append_own _ rfl _ _ 23 rfl w.heap.size 3 i0 (.int .i64 0) 1 8 Try.underlying23 hi hz0 hz1 hz2 rfl (by decide) _ _ _ (by rfl) RE.out ⟨g, 0, none⟩ e cap news (by rfl) (by have := HL.out; omega) HC.out HO.out (by simp only [List.length_nil]; unfold maxLen; omega) (by simp only [List.length_nil]; omega) (by simp) ?_))
        intro v' w1 hown' hgrow _
        obtain ⟨r4, b4⟩ := Row.more_all (xs := P.take e) RE.out (HNN.out ▸ HNW.out _ _ hown') hgrow HB.out (Nat.le_refl _)
        have R4 := Lib.hid r4
        have B4 := Lib.hid b4
        clear hown' hgrow r4 b4
        go_wp2_with fail
        go_ret
        exact ⟨_, rfl, HD.out ▸ R4.out, B4.out⟩
set_option maxHeartbeats 8000000 in
theorem l3mul_any {w : World} {b1 b2 : Nat} {v u : Value} {a b : Int} (h : RdR w b1 v (digs a)) (k : RdR w b2 u (digs b)) (a1 : 1 ≤ a) (a2 : a < pB 60) (k1 : 1 ≤ b) (k2 : b < pB 60) : Calls Try.prog 16 #[v, u] w (RowPost w (digs (a * b))) := by
  obtain ⟨i0, hi, hz0, hz1, hz2⟩ := (info_parts (P := Try.prog) (e := 3) (z := .int .i64 0) (size := 1) (bytes := 8) (by kernel_rfl) : ∃ i, Try.prog.info? 3 = some i ∧ i.zero = some (.int .i64 0) ∧ i.size = 1 ∧ i.bytes = 8)
  obtain ⟨ga, cpa, rfl, -, hga, hc, hlc, cA⟩ := h
  obtain ⟨gb, cpb, rfl, -, hgb, hc2, hlc2, cB⟩ := k
  have hla := (digs_len a (by omega) 60).2 a2
  have hlb := (digs_len b (by omega) 60).2 k2
  have hpa := digs_ne (n := a) (by omega)
  have hpb := digs_ne (n := b) (by omega)
  have va := lgV_digs a (by omega)
  have vb := lgV_digs b (by omega)
  have da := digs_dig a (by omega)
  have db := digs_dig b (by omega)
  have hab := mul_lt da db
  rw [va, vb] at hab
  have HV : Hid (lgV (digs a) * lgV (digs b) = a * b) := Lib.hid (by rw [va, vb])
  clear va vb
  generalize a * b = ab at *
  generalize digs a = xs at *
  generalize digs b = ys at *
  clear a1 a2 k1 k2
  have HS := Lib.hid (sum_start xs ys)
  have HAB := Lib.hid hab
  clear hab
  generalize hn : xs.length = n at *
  generalize hm : ys.length = m at *
  obtain ⟨N, hN⟩ : ∃ N, N = n + m + 1 := ⟨_, rfl⟩
  rw [← hN] at HS
  have kmk := made_ints w N (by omega) hi hz0 hz1 hz2
  have HR := Lib.hid (made_row w N (by omega))
  have hni : (n : Int) ≤ 60 := by omega
  have hmi : (m : Int) ≤ 60 := by omega
  have hnm : (n : Int) + (m : Int) + 1 = (N : Int) := by omega
  have HN := Lib.hid hN
  clear hi hz0 hz1 hz2 hN
  generalize madeCells #[.int .i64 0] N = cs at *
  go_enter Try.func16, Try.ntmps16
  go_wp2_with (first | (rw [hnm]) | fail)
  have HB0 : Hid (Below w.heap.size w (w.alloc (.cells cs 3))) := Lib.hid (by repeat' (first | (with_reducible exact Below.refl _ _) | (with_reducible assumption) | (with_reducible refine below_drewN ?_ _) | (with_reducible refine Below.drew ?_) | (with_reducible refine bl_alloc ?_ _) | (with_reducible refine bl_set ?_ ?_ _) | go_size | omega))
  clear kmk
  go_loopw [6] (fun i wr => ∃ (k : Nat) (P : List Int), i = .int .i64 (k : Int) ∧ k ≤ n ∧ Row wr w.heap.size (.slice (some ⟨w.heap.size, 0, none⟩) N N) P ∧ Below w.heap.size w wr ∧ Hid (SumIn xs ys k 0 P)) (fun i _ => n - (RowKit.intOf i).toNat)
  case atStart => exact ⟨0, _, rfl, Nat.zero_le _, HR.out, HB0.out, HS⟩
  case round =>
    obtain ⟨k, P, rfl, hk, hrow, hbl, HO⟩ := hrel
    rcases Nat.lt_or_ge k n with hlt | hge
    · have hki : (k : Int) < (n : Int) := by omega
      have hx := da k (by omega)
      have HROW := Lib.hid hrow
      have HBL := Lib.hid hbl
      generalize hxk : xs.getD k 0 = x at hx
      have HXK := Lib.hid hxk
      clear hrow hbl hxk
      go_wp2_with fail
      go_loopw [7] (fun j wr => ∃ (l : Nat) (P : List Int), j = .int .i64 (l : Int) ∧ l ≤ m ∧ Row wr w.heap.size (.slice (some ⟨w.heap.size, 0, none⟩) N N) P ∧ Below w.heap.size w wr ∧ Hid (SumIn xs ys k l P)) (fun j _ => m - (RowKit.intOf j).toNat)
      case atStart => exact ⟨0, P, rfl, Nat.zero_le _, HROW.out, HBL.out, HO⟩
      case round =>
        obtain ⟨l, P, rfl, hl, hrow, hbl, HJ⟩ := hrel
        obtain ⟨hNP, pc, pf, hgz⟩ := hrow.at
        rcases Nat.lt_or_ge l m with hlt2 | hge2
        · have ca : wr.cell? ⟨ga, k, none⟩ = some (.int .i64 (xs.getD k 0)) := by rw [hbl.cell (p := ⟨ga, k, none⟩) hga]; exact cA k (by omega)
          have cb : wr.cell? ⟨gb, l, none⟩ = some (.int .i64 (ys.getD l 0)) := by rw [hbl.cell (p := ⟨gb, l, none⟩) hgb]; exact cB l (by omega)
          have hli : (l : Int) < (m : Int) := by omega
          have hy := db l (by omega)
          have hxy := mul_bd hx hy
          have hNk := HN.out
          obtain ⟨kl, hkl⟩ : ∃ kl, kl = k + l := ⟨_, rfl⟩
          have hkli : (k : Int) + (l : Int) = (kl : Int) := by omega
          have hklN : (kl : Int) < (N : Int) := by omega
          have cp := pc kl (by omega)
          have fp := pf kl
          have hin := sum_round (a := xs) (b := ys) (i := k) (j := l) da db (by omega) (by omega) HJ.out
          have hpd := sum_bd (a := xs) (b := ys) (i := k) (j := l) HJ.out (by omega) (by omega) (by omega) (k + l) (by omega)
          rw [HXK.out] at hin ca
          rw [← hkl] at hin hpd
          have HIN := Lib.hid hin
          clear hin pc pf HJ hNk hkl
          generalize hss : P.getD kl 0 + x * ys.getD l 0 = s at *
          have hput := hrow.put hNP kl s
          have R1 := Lib.hid hput.1
          have B1 := Lib.hid (hbl.setCell (p := ⟨w.heap.size, kl, none⟩) (Nat.le_refl _) (.int .i64 s))
          clear hput hrow hbl
          generalize P.getD kl 0 = p at *
          generalize ys.getD l 0 = y at *
          have w1 : IntKind.i64.wrap (kl : Int) = kl := by rw [IntKind.wrap_i64]; omega
          have w2 : IntKind.i64.wrap (x * y) = x * y := by rw [IntKind.wrap_i64]; omega
          have w3 : IntKind.i64.wrap s = s := by rw [IntKind.wrap_i64]; omega
          have HNP := Lib.hid hNP
          clear hNP
          go_wp2_with (first | (rw [hkli]) | fail)
          go_still_tail 20, (by kernel_rfl)
          change wpList _ _ _ _ _ wr.drew
          go_wp2_with fail
          go_roundw
          case rel => exact ⟨l + 1, P.set kl s, by go_num, by omega, R1.out, B1.out.drew, HIN⟩
          case measure => simp [RowKit.intOf] <;> omega
        · have e : l = m := by omega
          subst e
          have hin := sum_next (a := xs) (b := ys) (i := k) (P := P) (by omega) (hm.symm ▸ HJ.out)
          have HIN := Lib.hid hin
          have R1 := Lib.hid hrow
          have B1 := Lib.hid hbl
          clear hrow hbl hin pc pf HJ hNP
          go_wp2_with fail
          go_roundw
          case rel => exact ⟨k + 1, P, by go_num, by omega, R1.out, B1.out, HIN⟩
          case measure => simp [RowKit.intOf] <;> omega
    · have e : k = n := by omega
      subst e
      have hc0 := carry_start (a := xs) (b := ys) (P := P) (hn.symm ▸ HO.out) (by omega) (by omega)
      rw [HV.out, hn, hm] at hc0
      have HC0 := Lib.hid hc0
      have HROW := Lib.hid hrow
      have HBL := Lib.hid hbl
      have hNi : (N : Int) ≤ 121 := by omega
      clear hrow hbl HO hc0
      go_wp2_with fail
      go_loopw [8] (fun i wr => ∃ (l : Nat) (P : List Int), i = .int .i64 (l : Int) ∧ l + 1 ≤ N ∧ Row wr w.heap.size (.slice (some ⟨w.heap.size, 0, none⟩) N N) P ∧ Below w.heap.size w wr ∧ Hid (CarryIn (k + m) ab l P)) (fun i _ => N - (RowKit.intOf i).toNat)
      case atStart => exact ⟨0, P, rfl, by have := HN.out; omega, HROW.out, HBL.out, HC0⟩
      case round =>
        obtain ⟨l, P, rfl, hl, hrow, hbl, HJ⟩ := hrel
        obtain ⟨hNP, pc, pf, hgz⟩ := hrow.at
        have hNk := HN.out
        have hll : (l : Int) + 1 = ((l + 1 : Nat) : Int) := by omega
        rcases Nat.lt_or_ge (l + 1) N with hlt2 | hge2
        · have cp := pc l (by omega)
          have cp1 := pc (l + 1) (by omega)
          have fp := pf l
          have fp1 := pf (l + 1)
          have hin := carry_round (n := k + m) (k := l) (V := ab) (P := P) (by omega) HJ.out
          obtain ⟨-, -, hq, -⟩ := HJ.out
          have q1 := hq l (by omega)
          have q2 := hq (l + 1) (by omega)
          rw [if_pos rfl] at q1
          rw [if_neg (by omega)] at q2
          have et := Int.tdiv_eq_ediv_of_nonneg (b := 10000) q1.1
          have em := Int.tmod_eq_emod_of_nonneg (b := 10000) q1.1
          have HIN := Lib.hid hin
          have hput := hrow.put hNP (l + 1) (P.getD (l + 1) 0 + P.getD l 0 / 10000)
          have hput2 := hput.1.put (by simpa using hNP) l (P.getD l 0 % 10000)
          have R1 := Lib.hid hput2.1
          have B1 := Lib.hid ((hbl.setCell (p := ⟨w.heap.size, l + 1, none⟩) (Nat.le_refl _) (.int .i64 (P.getD (l + 1) 0 + P.getD l 0 / 10000))).setCell (p := ⟨w.heap.size, l, none⟩) (Nat.le_refl _) (.int .i64 (P.getD l 0 % 10000)))
          have HNP := Lib.hid hNP
          clear hput hput2 hrow hbl hin pc pf HJ hNP hNk hq
          generalize P.getD l 0 = p at *
          generalize P.getD (l + 1) 0 = p1 at *
          have d0 : 0 ≤ p / 10000 := by omega
          have d1 : p / 10000 ≤ 100000000 := by omega
          have r0 : 0 ≤ p % 10000 := by omega
          have r1 : p % 10000 < 10000 := by omega
          obtain ⟨l1, hl1⟩ : ∃ l1, l1 = l + 1 := ⟨_, rfl⟩
          rw [← hl1] at cp1 fp1 R1 B1 HIN
          have hne : l1 ≠ l := by omega
          have hne' : l ≠ l1 := by omega
          have hlli : (l : Int) + 1 = (l1 : Int) := by omega
          have hltN : (l1 : Int) < (N : Int) := by omega
          have hltN0 : (l : Int) < (N : Int) := by omega
          have HL1 := Lib.hid hl1
          clear hll hl1
          generalize p / 10000 = d at *
          generalize p % 10000 = r at *
          have w1 : IntKind.i64.wrap (l1 : Int) = l1 := by rw [IntKind.wrap_i64]; omega
          have w2 : IntKind.i64.wrap d = d := by rw [IntKind.wrap_i64]; omega
          have w3 : IntKind.i64.wrap (p1 + d) = p1 + d := by rw [IntKind.wrap_i64]; omega
          go_wp2_with (first | (rw [hlli]) | (rw [et]) | (rw [em]) | fail)
          go_still_tail 14, (by kernel_rfl)
          change wpList _ _ _ _ _ wr.drew
          go_wp2_with (first | (rw [hlli]) | (rw [et]) | (rw [em]) | fail)
          go_roundw
          case rel => exact ⟨l1, _, rfl, by have := HL1.out; omega, R1.out, B1.out.drew, HIN⟩
          case measure => simp [RowKit.intOf] <;> omega
        · have e : l = k + m := by omega
          have hce := carry_end HAB.out (e ▸ HJ.out)
          have h3 := cut3_any hrow hce.1 (by omega) (by omega)
          rw [hce.2] at h3
          have H3 := Lib.hid h3
          have HBL := Lib.hid hbl
          have hlN : (N : Int) ≤ (l : Int) + 1 := by omega
          have hlN2 : (l : Int) ≤ 121 := by omega
          clear h3 hce hrow hbl HJ hNP pc pf e hNk hge2 hl hll
          go_wp2_with fail
          refine (H3.out).mono ?_
          rintro e w' ⟨v, rfl, hr, hb⟩
          have R1 := Lib.hid (hr.lower HBL.out.size)
          have B1 := Lib.hid (bl_behind hb HBL.out)
          clear hr hb
          go_wp2_with fail
          go_ret
          exact ⟨_, rfl, R1.out, B1.out⟩
end Go.Proofs.Ytgjknnacfildiaa
