/- A slice of bytes that the call made, by a conversion of a string too, appended to byte by byte. No condition: for the walks of the texts. -/
import Derived.Test.YtidnnnjjpjadlaaGreatDoorTab
import Derived.ArgAppend
import Derived.Lib.ConvBytes
import Derived.Laws.BytesArg
namespace Go.Proofs.YtidnnnjjpjadlaaGreatDoor
open Go.ChangeShapes Go.WideShapes Go.ChangeAt Go.RowKit

/-- v leads to a row of the call's own (in a block from B on) that begins with the bytes l; its spare may be written. -/
def Buf (B : Nat) (w : World) (v : Value) (l : List UInt8) : Prop :=
  ∃ g cap, v = .slice (some ⟨g, 0, none⟩) l.length cap ∧ B ≤ g ∧ l.length ≤ cap ∧ cap ≤ maxLen ∧
    (∀ j, j < l.length → w.cell? ⟨g, j, none⟩ = some (.int .u8 ((l.getD j 0).toNat : Int))) ∧ (∀ j, j < cap → (w.cell? ⟨g, j, none⟩).isSome = true ∧ w.frozen? ⟨g, j, none⟩ = false)
theorem buf_conv (w : World) (s : ByteArray) (hs : s.size ≤ 1000) : Buf w.heap.size (Lib.bytesWorld w 5 s) (.slice (some ⟨w.heap.size, 0, none⟩) s.size (grownCap w s.size 0 5)) s.data.toList := by
  have hl : s.data.toList.length = s.size := by simp
  have hge := grownCap_ge w s.size 0 5
  have hm := grownCap_le_maxLen w s.size 0 5 (by unfold maxLen; omega)
  have hsz : (Lib.bytesCells w 5 s).size = grownCap w s.size 0 5 := by
    simp [Lib.bytesCells]
    omega
  refine ⟨w.heap.size, _, by rw [hl], Nat.le_refl _, by rw [hl]; exact hge, hm, fun j hj => ?_, fun j hj => ⟨?_, ?_⟩⟩
  · exact Lib.bytesWorld_cell w 5 s j (by omega)
  · have := Lib.bytesWorld_at_new w 5 s
    simp [World.cell?, this]
    omega
  · have := Lib.bytesWorld_at_new w 5 s
    simp [World.frozen?, this]
    omega
theorem Buf.step {B : Nat} {w w' : World} {v : Value} {l : List UInt8} (h : Buf B w v l) (hb : Below w.heap.size w w') : Buf B w' v l := by
  obtain ⟨g, cap, e, h1, h2, h3, h4, h5⟩ := h
  have hlt : ∀ j, (w.cell? ⟨g, j, none⟩).isSome = true → g < w.heap.size := by
    intro j hj
    rcases Nat.lt_or_ge g w.heap.size with h | h
    · exact h
    · simp [World.cell?, Array.getElem?_eq_none h] at hj
  refine ⟨g, cap, e, h1, h2, h3, fun j hj => ?_, fun j hj => ?_⟩
  · have k := h4 j hj
    rw [hb.cell (p := ⟨g, j, none⟩) (hlt j (by rw [k]; rfl))]
    exact k
  · have k := h5 j hj
    rw [hb.cell (p := ⟨g, j, none⟩) (hlt j k.1), hb.frozen (p := ⟨g, j, none⟩) (hlt j k.1)]
    exact k
theorem u8_val {c : Int} (h1 : 0 ≤ c) (h2 : c < 256) : ((UInt8.ofNat c.toNat).toNat : Int) = c := by rw [UInt8.toNat_ofNat']; omega
theorem getD_snoc (l : List UInt8) (b : UInt8) {j : Nat} (hj : j < l.length + 1) : (l ++ [b]).getD j 0 = if j < l.length then l.getD j 0 else b := by
  by_cases h : j < l.length
  · rw [if_pos h, List.getD_eq_getElem?_getD, List.getElem?_append_left h, ← List.getD_eq_getElem?_getD]
  · rw [if_neg h]
    have : j = l.length := by omega
    subst this
    simp
section
variable {P : Program}
theorem wpList_append_buf {w0 W : World} {ops : Array Oper} {rest : List Oper} {o : Oper} {a : Act} {Q : Exit → Act → World → Prop} (hgd : o.guard = none) (s x : Operand) (t e : TypeId)
    (ho : o.op = .call { callee := .builtin .append, args := #[s, x], argTypes := #[t, t] })
    (i : TypeInfo) (ht : P.underlying t = some (.slice e)) (hi : P.info? e = some i) (hz : i.zero = some (.int .u8 0)) (hsize : i.size = 1) (hby : i.bytes = 1)
    (v : Value) (l : List UInt8) (hs : a.eval s = v) (c : Int) (hc0 : 0 ≤ c) (hc1 : c < 256) (hb : Buf W.heap.size w0 v l) (hbl : Below W.heap.size W w0) (hlen : l.length + 1 ≤ 1000)
    (hx : a.eval x = .slice (some ⟨w0.heap.size, 0, none⟩) 1 1)
    (h : ∀ v' w', Buf W.heap.size w' v' (l ++ [UInt8.ofNat c.toNat]) → Below W.heap.size W w' → wpList P ops Q rest (a.put o.dst v') w') : wpList P ops Q (o :: rest) a (w0.alloc (.cells #[.int .u8 c] e)) := by
  have hb2 := hb.step (w' := w0.alloc (.cells #[.int .u8 c] e)) ((Below.refl _ _).alloc (Nat.le_refl _) _)
  have hbl2 : Below W.heap.size W (w0.alloc (.cells #[.int .u8 c] e)) := hbl.alloc hbl.size _
  have hnew : (w0.alloc (.cells #[.int .u8 c] e)).cell? ⟨w0.heap.size, 0, none⟩ = some (.int .u8 c) := by rw [World.cell?_alloc_mark]; rfl
  generalize w0.alloc (.cells #[.int .u8 c] e) = w1 at *
  obtain ⟨g, cap, rfl, h1, h2, h3, h4, h5⟩ := hb2
  have hv := u8_val hc0 hc1
  refine wpList_append_arg w1 hgd s x t ho e i (.int .u8 0) 1 1 ht hi hz hsize hby rfl (by decide) g 0 l.length cap (l.map fun b => .int .u8 (b.toNat : Int)) hs (by simp) ?_ ⟨w0.heap.size, 0, none⟩ 1 1 [.int .u8 c] hx rfl ?_ ?_ ?_ (by unfold maxLen; omega) (by omega) ?_ ?_
  · intro j u hj
    have hj2 : j < l.length := by
      rcases Nat.lt_or_ge j l.length with h | h
      · exact h
      · simp [List.getElem?_eq_none h] at hj
    rw [Nat.zero_add, h4 j hj2]
    simp [hj2] at hj ⊢
    exact hj
  · intro j u hj
    match j, hj with
    | 0, hj => simp at hj; subst hj; simpa [Addr.add] using hnew
    | j + 1, hj => simp at hj
  · intro u hu; simp at hu; subst hu; rfl
  · intro hr j hj
    simp at hj
    subst hj
    have := h5 l.length (by omega)
    simpa using this
  · intro hr
    have e1 : w1.setCells g (0 + l.length * 1) [.int .u8 c] = w1.setCell ⟨g, l.length, none⟩ (.int .u8 c) := by simp [World.setCells]
    rw [e1]
    refine h _ _ ⟨g, cap, by simp, h1, by simp; omega, h3, fun j hj => ?_, fun j hj => ?_⟩ (hbl2.setCell h1 _)
    · have hj' : j < l.length + 1 := by simpa using hj
      rw [getD_snoc _ _ hj']
      by_cases hjl : j < l.length
      · rw [if_pos hjl, World.cell?_setCell_other _ _ _ _ (by intro e; injection e with _ e2; omega)]
        exact h4 j hjl
      · rw [if_neg hjl, hv]
        have : j = l.length := by omega
        subst this
        have k := (h5 l.length (by omega)).1
        unfold World.cell? at k ⊢
        simp only [World.setCell] at k ⊢
        rw [Array.getElem?_modify, if_pos rfl]
        cases ho : w1.heap[g]? with
        | none => simp [ho] at k
        | some ob =>
          cases ob <;> simp [ho] at k ⊢
          simp [k]
    · have k := h5 j hj
      by_cases hjl : j = l.length
      · subst hjl
        refine ⟨?_, ?_⟩
        · have k1 := k.1
          unfold World.cell? at k1 ⊢
          simp only [World.setCell] at k1 ⊢
          rw [Array.getElem?_modify, if_pos rfl]
          cases ho : w1.heap[g]? with
          | none => simp [ho] at k1
          | some ob =>
            cases ob <;> simp [ho] at k1 ⊢
            exact k1
        · rw [World.frozen?_setCell]; exact k.2
      · rw [World.cell?_setCell_other _ _ _ _ (by intro e; injection e with _ e2; omega), World.frozen?_setCell]
        exact k
  · intro hr v' w' hown hgrow
    have hbw : Below W.heap.size W w' := hbl2.grown hgrow hbl2.size (fun k hk => by cases hk)
    have hown' := hown
    rcases hown'.2 with ⟨rfl, h0⟩ | ⟨g', cap', cur, rfl, hb', hg', hnc, hcm, hcs, htake⟩
    · omega
    · have hcur : ∀ j, j < cap' → (w'.cell? ⟨g', j, none⟩).isSome = true := fun j hj => by
        simp [World.cell?, hg', hcs]
        omega
      refine h _ _ ⟨g', cap', by simp, by have := hbl2.size; omega, by simp; omega, hcm, fun j hj => ?_, fun j hj => ⟨hcur j hj, World.ownsRow.frozenAt hown j⟩⟩ hbw
      have hj' : j < l.length + 1 := by simpa using hj
      rw [getD_snoc _ _ hj', World.ownsRow.cellAt hown j (by omega)]
      by_cases hjl : j < l.length
      · rw [if_pos hjl, List.getElem?_append_left (by simpa using hjl)]
        simp [hjl]
      · rw [if_neg hjl, hv]
        have : j = l.length := by omega
        subst this
        simp
/-- The buffer as a string. -/
theorem buf_string {B : Nat} {w : World} {v : Value} {l : List UInt8} (hb : Buf B w v l) (src dst e : TypeId) (hs : P.underlying src = some (.slice e)) (he : P.underlying e = some (.int .u8)) (hd : P.underlying dst = some .string) :
    (convert src dst v).run P w = .ok (.string (sOf l)) w := by
  obtain ⟨g, cap, rfl, h1, h2, h3, h4, h5⟩ := hb
  have k := run_convert_bytes_arg (P := P) w src e hs he g 0 l.length cap (l.map fun b => (b.toNat : Int)) (by simp) (fun i hi => by
    rw [Nat.zero_add, h4 i hi]
    simp [hi]) dst hd
  have e1 : strOfNums (l.map fun b => (b.toNat : Int)) = sOf l := by
    unfold strOfNums sOf
    congr 1
    simp [Function.comp_def]
  rw [e1] at k
  exact k
end
end Go.Proofs.YtidnnnjjpjadlaaGreatDoor
