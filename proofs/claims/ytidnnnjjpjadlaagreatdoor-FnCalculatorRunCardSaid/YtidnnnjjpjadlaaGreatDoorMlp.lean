/- What a line does to a calculator. No condition: plain laws. -/
import Derived.Test.YtidnnnjjpjadlaaGreatDoorAf3
import Derived.Test.YtidnnnjjpjadlaaGreatDoorTf
namespace Go.Proofs.YtidnnnjjpjadlaaGreatDoor
open Go.ChangeShapes Go.WideShapes Go.ChangeAt Go.RowKit

structure CV where
  p : Int
  q : Int
  n : Int
  x : Bool
def lnL (s : ByteArray) : List UInt8 := (spl 32 s.data.toList).1
def lnR (s : ByteArray) : ByteArray := sOf (spl 32 s.data.toList).2.1
def lnF (s : ByteArray) : Bool := (spl 32 s.data.toList).2.2
/-- A number that is cut, shown. -/
def shV (p q v : Int) (x : Bool) : CV := ⟨p, q, cutV p q v, x || !(cutV p q v == v)⟩
noncomputable def opO (p q a n : Int) (x : Bool) (L : List UInt8) : Option CV :=
  if L = [115, 101, 116] then some ⟨p, q, n, x⟩
  else if L = [97, 100, 100] then some (shV p q (a + n) x)
  else if L = [115, 117, 98] then some (shV p q (a - n) x)
  else if L = [109, 117, 108] then some (shV p q (rnd (a * n) (2 ^ q.toNat)) x)
  else if L = [100, 105, 118] then (if n = 0 then none else some (shV p q (rnd (dvX q a n) (dvY n)) x))
  else none
/-- The calculator after a line that shows a number. -/
noncomputable def afO (p q a : Int) (x : Bool) (s : ByteArray) : Option CV :=
  if lnF s = false then
    if lnL s = [115, 113, 114, 116] then (if 0 ≤ a then some ⟨p, q, isq (a * 2 ^ q.toNat), x⟩ else none)
    else if lnL s = [112, 111, 119, 101, 114] then some ⟨p, q, pwN p q a, x || !(pwOk p q a)⟩
    else if lnL s = [119, 104, 111, 108, 101] then some (shV p q (rnd a (2 ^ q.toNat) * 2 ^ q.toNat) x)
    else none
  else if lnL s = [102, 111, 114, 109, 97, 116] then (if rfOk (lnR s) = true then some (shV (rfA (lnR s)) (rfB (lnR s)) (tfV q (rfB (lnR s)) a) x) else none)
  else if rsOk p q (lnR s) = true then opO p q a (rsN p q (lnR s)) x (lnL s)
  else none
/-- The calculator behind a line, and the answer. -/
noncomputable def lnO (p q a : Int) (x : Bool) (s : ByteArray) : CV × ByteArray :=
  if fitB p q a = false then (⟨0, 0, 0, false⟩, ⟨#[]⟩)
  else if s.data.toList = [99, 108, 101, 97, 114] then (⟨p, q, 0, false⟩, ⟨#[48]⟩)
  else if s.data.toList = [99, 117, 116] then (⟨p, q, a, x⟩, if x = true then ⟨#[121, 101, 115]⟩ else ⟨#[110, 111]⟩)
  else match afO p q a x s with
    | none => (⟨p, q, a, x⟩, ⟨#[119, 104, 97, 116]⟩)
    | some r => (r, sOf (sText r.p r.q r.n))
theorem spl_len (c : UInt8) : ∀ l, (spl c l).1.length ≤ l.length ∧ (spl c l).2.1.length ≤ l.length
  | [] => by simp [spl]
  | b :: l => by
    have := spl_len c l
    unfold spl
    split <;> simp <;> omega
theorem sOf_size' (l : List UInt8) : (sOf l).size = l.length := by simp [sOf, ByteArray.size]
theorem lnR_size (s : ByteArray) : (lnR s).size ≤ s.size := by
  have := (spl_len 32 s.data.toList).2
  unfold lnR
  rw [sOf_size']
  rw [Array.length_toList] at this
  exact this
theorem lnL_size (s : ByteArray) : (sOf (lnL s)).size ≤ s.size := by
  have := (spl_len 32 s.data.toList).1
  unfold lnL
  rw [sOf_size']
  rw [Array.length_toList] at this
  exact this
theorem rs_fit {p q : Int} {s : ByteArray} (h : rsOk p q s = true) : fitB p q (rsN p q s) = true := by
  have hg : rsGood p q s := by unfold rsOk at h; simpa using h
  obtain ⟨n, h1, h2⟩ := hg
  rw [(rs_yes h1 h2).1]
  exact h1
theorem rf_fmt {s : ByteArray} (h : rfOk s = true) : fmtB (rfA s) (rfB s) = true := by
  have hg : rfGood s := by unfold rfOk at h; simpa using h
  obtain ⟨e1, e2, -⟩ := rf_yes hg
  rw [e1, e2]
  exact hg.2.2.2.2.1
theorem cmd_list : cmdD = .map [(.string [97, 100, 100], .lit (.int .i64 1)), (.string [100, 105, 118], .lit (.int .i64 4)), (.string [109, 117, 108], .lit (.int .i64 3)), (.string [115, 101, 116], .lit (.int .i64 0)), (.string [115, 117, 98], .lit (.int .i64 2))] := by kernel_rfl
theorem cmd_none {L : List UInt8} (h0 : ¬ L = [115, 101, 116]) (h1 : ¬ L = [97, 100, 100]) (h2 : ¬ L = [115, 117, 98]) (h3 : ¬ L = [109, 117, 108]) (h4 : ¬ L = [100, 105, 118]) :
    cmdD.atKey (.string L) (.lit (.int .i64 0)) = .lit (.int .i64 0) ∧ Go.Maps.has cmdD (.string L) = false := by
  have n0 := beq_eq_false_iff_ne.2 (fun e => h0 (Eq.symm e))
  have n1 := beq_eq_false_iff_ne.2 (fun e => h1 (Eq.symm e))
  have n2 := beq_eq_false_iff_ne.2 (fun e => h2 (Eq.symm e))
  have n3 := beq_eq_false_iff_ne.2 (fun e => h3 (Eq.symm e))
  have n4 := beq_eq_false_iff_ne.2 (fun e => h4 (Eq.symm e))
  rw [cmd_list]
  constructor
  · simp only [DataW.atKey, List.find?, Lit.sameKey, n0, n1, n2, n3, n4]
  · simp only [Go.Maps.has_eq, List.any_cons, List.any_nil, Lit.sameKey, n0, n1, n2, n3, n4]; rfl
theorem bl_ne {u : ByteArray} {c : List UInt8} (h : ¬ u.data.toList = c) : (u.toList == c) = false := by
  rw [ByteArray.toList_eq]
  exact beq_eq_false_iff_ne.2 h
theorem sOf_bytes (l : List UInt8) : (sOf l).data.toList = l := rfl
end Go.Proofs.YtidnnnjjpjadlaaGreatDoor

/- Both words of a line, by the reference. No condition: contract for the walks of the laws. -/
namespace Go.Proofs.YtidnnnjjpjadlaaGreatDoor
open Go.ChangeShapes Go.WideShapes Go.ChangeAt Go.RowKit

theorem spl_at (c : UInt8) : ∀ (l : List UInt8) (k : Nat), k ≤ l.length → (∀ j, j < k → ¬ l.getD j 0 = c) → spl c l = (l.take k ++ (spl c (l.drop k)).1, (spl c (l.drop k)).2.1, (spl c (l.drop k)).2.2)
  | l, 0, _, _ => by simp
  | [], k + 1, h, _ => by simp at h
  | b :: l, k + 1, h, hn => by
    have hb : ¬ b = c := by have := hn 0 (by omega); simpa using this
    have := spl_at c l k (by simpa using h) (fun j hj => by have := hn (j + 1) (by omega); simpa using this)
    rw [spl, if_neg hb, this]
    simp
theorem ret_words {a b c d : ByteArray} (h1 : a = c) (h2 : b = d) : Ending.returned (.tuple #[.string a, .string b]) = Ending.returned (.tuple #[.string c, .string d]) := by rw [h1, h2]
theorem ext_take (s : ByteArray) (k : Nat) : s.extract 0 k = sOf (s.data.toList.take k) := by
  rw [← sOf_list (s.extract 0 k)]
  congr 1
  simp [ByteArray.data_extract]
theorem ext_drop (s : ByteArray) (k : Nat) : s.extract k s.size = sOf (s.data.toList.drop k) := by
  rw [← sOf_list (s.extract k s.size)]
  congr 1
  rw [ByteArray.data_extract]
  have hl : s.size = s.data.size := rfl
  rw [hl, Array.toList_extract, List.extract_eq_take_drop, List.take_of_length_le (by simp)]
set_option maxHeartbeats 4000000 in
theorem words_any (s : ByteArray) (w : World) (hs : s.size ≤ 1048576) : Calls Tryz.prog 28 #[.string s] w fun e w' => e = .returned (.tuple #[.string (sOf (lnL s)), .string (lnR s)]) ∧ ∃ n, w' = w.drewN n := by
  have hl : s.data.toList.length = s.size := by rw [Array.length_toList]; rfl
  have hsi : (s.size : Int) ≤ 1048576 := by omega
  go_enter Tryz.func28, Tryz.ntmps28
  go_wp2_with fail
  go_loop [4] (fun i => ∃ k : Nat, i = .int .i64 (k : Int) ∧ k ≤ s.size ∧ ∀ j, j < k → ¬ s.data.toList.getD j 0 = 32) (fun i => s.size - (RowKit.intOf i).toNat)
  case atStart => exact ⟨0, rfl, Nat.zero_le _, fun j h => by omega⟩
  case round =>
    obtain ⟨k, rfl, hk, hn⟩ := hrel
    rcases Nat.lt_or_ge k s.size with hlt | hge
    · have hki : (k : Int) < (s.size : Int) := by omega
      have hg : s.data.toList.getD k 0 = s[k] := by
        rw [List.getD_eq_getElem?_getD, List.getElem?_eq_getElem (by omega), Option.getD_some]; rfl
      by_cases h32 : s[k] = 32
      · have hq : (((s[k].toNat : Nat) : Int) == 32) = true := by rw [h32]; rfl
        have hsp := spl_at 32 s.data.toList k (by omega) hn
        have hd : s.data.toList.drop k = 32 :: s.data.toList.drop (k + 1) := by
          rw [List.drop_eq_getElem_cons (by omega)]
          have : s.data.toList[k]'(by omega) = s[k] := rfl
          rw [this, h32]
        rw [hd, spl, if_pos rfl] at hsp
        have e1 : s.extract 0 k = sOf (lnL s) := by
          unfold lnL; rw [hsp]; rw [ext_take s k]; simp
        have e2 : s.extract (k + 1) s.size = lnR s := by
          unfold lnR; rw [hsp]; exact ext_drop s (k + 1)
        have HE := Lib.hid (ret_words e1 e2)
        clear hsp hd hg hn e1 e2
        go_wp2_with fail
        go_quiet (fail)
        go_wp2_with fail
        go_ret2
        exact ⟨HE.out, nq, rfl⟩
      · have hq : (((s[k].toNat : Nat) : Int) == 32) = false := by
          refine beq_eq_false_iff_ne.2 (fun e => h32 ?_)
          have : s[k].toNat = 32 := by omega
          exact UInt8.toNat_inj.1 this
        have hn2 : ∀ j, j < k + 1 → ¬ s.data.toList.getD j 0 = 32 := fun j hj => by
          rcases Nat.lt_or_ge j k with h | h
          · exact hn j h
          · have : j = k := by omega
            subst this
            rw [hg]; exact h32
        have HN := Lib.hid hn2
        clear hn hn2 hg h32
        go_wp2_with fail
        go_round
        case rel => exact ⟨k + 1, by go_num, by omega, HN.out⟩
        case measure => simp [RowKit.intOf] <;> omega
    · have e : k = s.size := by omega
      subst e
      have hsp := spl_at 32 s.data.toList s.size (by omega) hn
      rw [← hl, List.drop_length, List.take_length, spl] at hsp
      have e1 : s = sOf (lnL s) := by unfold lnL; rw [hsp, List.append_nil, sOf_list]
      have e2 : (⟨#[]⟩ : ByteArray) = lnR s := by unfold lnR; rw [hsp]; rfl
      have HE := Lib.hid (ret_words e1 e2)
      clear hsp hn e1 e2
      go_wp2_with fail
      go_ret2
      exact ⟨HE.out, 0, rfl⟩
end Go.Proofs.YtidnnnjjpjadlaaGreatDoor
