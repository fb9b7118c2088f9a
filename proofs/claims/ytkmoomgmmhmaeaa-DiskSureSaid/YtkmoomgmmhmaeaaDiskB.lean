/- Bounds of a disk under calls (no program), and the disk's contracts for a caller that owns its memory. No condition. -/
import Derived.Test.YtkmoomgmmhmaeaaDiskNm
namespace Go.Dm.Dk

structure Small (m : M) (n N : Nat) : Prop where
  L : m.L.length ≤ n
  S : m.S.length + m.wait.length ≤ n
  is : ∀ f, (m.is.getD f []).length ≤ N
  sure : ∀ f, (m.sure.getD f []).length ≤ N
  wb : ∀ o ∈ m.wait, o.at_ + o.b.length ≤ N ∧ o.frm.length ≤ N ∧ o.to.length ≤ N
  rm : m.room ≤ 9223372036854775807
  ct : m.cut ≤ 9223372036854775807

theorem Small.mono {m : M} {n N n' N' : Nat} (h : Small m n N) (h1 : n ≤ n') (h2 : N ≤ N') : Small m n' N' :=
  ⟨Nat.le_trans h.L h1, Nat.le_trans h.S h1, fun f => Nat.le_trans (h.is f) h2, fun f => Nat.le_trans (h.sure f) h2, fun o ho => ⟨Nat.le_trans (h.wb o ho).1 h2, Nat.le_trans (h.wb o ho).2.1 h2, Nat.le_trans (h.wb o ho).2.2 h2⟩, h.rm, h.ct⟩
theorem Small.new (room : Int) (hr : room ≤ 9223372036854775807) : Small (Dk.new room) 0 0 := by
  refine ⟨Nat.le_refl _, Nat.le_refl _, fun f => by simp [Dk.new], fun f => by simp [Dk.new], fun o ho => (by cases ho), ?_, Nat.zero_le _⟩
  show room.toNat ≤ _
  omega
theorem used_le (m : M) (N : Nat) (h : ∀ f, (m.is.getD f []).length ≤ N) : used m ≤ m.L.length * N := by
  unfold used
  generalize m.L = L
  induction L with
  | nil => simp
  | cons p r ih =>
    have := h p.2
    simp only [List.map_cons, List.sum_cons, List.length_cons, fileLen, Nat.succ_mul] at *
    omega
theorem Small.fit {m : M} {n N : Nat} (h : Small m n N) (h1 : n ≤ 100000) (h2 : N ≤ 1000000) : Fit m := by
  have h3 := h.L
  have h4 := h.S
  refine ⟨by omega, by omega, by omega, fun f => by have := h.is f; omega, fun f => by have := h.sure f; omega, ?_, h.rm, h.ct⟩
  have h5 := used_le m N h.is
  have h6 : m.L.length * N ≤ 100000 * 1000000 := Nat.mul_le_mul (by omega) h2
  omega
theorem Small.fitW {m : M} {n N : Nat} (h : Small m n N) (h1 : n ≤ 100000) (h2 : N ≤ 1000000) : FitW m := by
  have h4 := h.S
  refine ⟨by omega, by omega, fun f => by have := h.sure f; omega, fun o ho => ?_⟩
  obtain ⟨a, b, c⟩ := h.wb o ho
  unfold maxLen
  exact ⟨by omega, by omega, by omega⟩

theorem getD_putF (l : List (List UInt8)) (i f : Nat) (s : List UInt8) : (putF l i s).getD f [] = s ∨ (putF l i s).getD f [] = l.getD f [] := by
  by_cases h : i = f
  · subst h
    by_cases hl : i < l.length
    · exact .inl (by simp [putF, List.getD, hl])
    · exact .inr (by rw [show putF l i s = l from List.set_eq_of_length_le (Nat.not_lt.1 hl)])
  · exact .inr (by simp [putF, List.getD, List.getElem?_set_ne h])
theorem settle1_small {m : M} {n N : Nat} (sel : Bool) (o : Op) (h : Small m n N) (hn : m.S.length + m.wait.length + 1 ≤ n) (ho : o.at_ + o.b.length ≤ N ∧ o.frm.length ≤ N ∧ o.to.length ≤ N) :
    Small (settle1 sel o m) n N ∧ (settle1 sel o m).S.length + (settle1 sel o m).wait.length ≤ m.S.length + m.wait.length + 1 := by
  unfold settle1
  split
  · refine ⟨{ h with S := ?_, wb := ?_ }, ?_⟩
    · simp; omega
    · intro p hp
      rcases List.mem_append.1 hp with hp | hp
      · exact h.wb p hp
      · simp at hp; subst hp; exact ho
    · simp; omega
  · split
    · refine ⟨{ h with sure := fun f => ?_ }, by show m.S.length + m.wait.length ≤ _; omega⟩
      rcases getD_putF m.sure o.file f (laidB (m.sure.getD o.file []) o.at_ o.b) with e | e
      · show ((putF _ _ _).getD f []).length ≤ N
        rw [e, length_laidB]
        have := h.sure o.file
        omega
      · show ((putF _ _ _).getD f []).length ≤ N
        rw [e]; exact h.sure f
    · have h1 := length_namesOp m.S o
      refine ⟨{ h with S := ?_ }, ?_⟩
      · show (namesOp m.S o).length + m.wait.length ≤ n; omega
      · show (namesOp m.S o).length + m.wait.length ≤ _; omega
theorem settleGo_small (sel : Nat → Bool) : ∀ (l : List Op) (i : Nat) (m : M) (n N : Nat), Small m n N → m.S.length + m.wait.length + l.length ≤ n → (∀ o ∈ l, o.at_ + o.b.length ≤ N ∧ o.frm.length ≤ N ∧ o.to.length ≤ N) → Small (settleGo sel i l m) n N
  | [], _, _, _, _, h, _, _ => h
  | o :: r, i, m, n, N, h, hn, hb => by
    simp only [List.length_cons] at hn
    obtain ⟨h1, h2⟩ := settle1_small (sel i) o h (by omega) (hb o (by simp))
    exact settleGo_small sel r (i + 1) _ n N h1 (by omega) fun p hp => hb p (by simp [hp])
theorem Small.settle {m : M} {n N : Nat} (h : Small m n N) (sel : Nat → Bool) : Small (Dk.settle m sel) n N := by
  have hS := h.S
  refine settleGo_small sel m.wait 0 { m with wait := [] } n N { h with S := ?_, wb := fun o ho => (by cases ho) } ?_ h.wb
  · show m.S.length + 0 ≤ n; omega
  · show m.S.length + 0 + m.wait.length ≤ n; omega
theorem Small.crash {m : M} {n N : Nat} (h : Small m n N) (keep : List Bool) : Small (Dk.crash m keep) n N := by
  have h1 := h.settle fun i => keep.getD i false
  have h2 := h1.S
  refine ⟨?_, ?_, h1.sure, h1.sure, fun o ho => (by cases ho), h1.rm, Nat.zero_le _⟩
  · show (Dk.settle m fun i => keep.getD i false).S.length ≤ n; omega
  · show (Dk.settle m fun i => keep.getD i false).S.length + 0 ≤ n; omega
theorem Small.cutD {m : M} {n N : Nat} (h : Small m n N) (steps : Int) (hs : steps ≤ 9223372036854775807) : Small (Dk.cutD m steps) n N := by
  unfold Dk.cutD
  split
  · exact h
  · exact { h with ct := by show steps.toNat ≤ _; omega }
theorem getD_snoc_nil (l : List (List UInt8)) (f : Nat) : (l ++ [[]]).getD f [] = l.getD f [] := by
  rcases Nat.lt_or_ge f l.length with h | h
  · simp [List.getD, List.getElem?_append_left h]
  · rw [List.getD_eq_getElem?_getD, List.getD_eq_getElem?_getD, List.getElem?_append_right h, List.getElem?_eq_none h]
    rcases Nat.eq_zero_or_pos (f - l.length) with e | e
    · simp [e]
    · rw [List.getElem?_eq_none (by simp; omega)]
theorem Small.waitD {m : M} {n N : Nat} (h : Small m n N) (o : Op) (ho : o.at_ + o.b.length ≤ N ∧ o.frm.length ≤ N ∧ o.to.length ≤ N) : Small (Dk.waitD m o) (n + 1) N := by
  have hS := h.S
  have hL := h.L
  have hwb : ∀ p ∈ m.wait ++ [o], p.at_ + p.b.length ≤ N ∧ p.frm.length ≤ N ∧ p.to.length ≤ N := by
    intro p hp
    rcases List.mem_append.1 hp with hp | hp
    · exact h.wb p hp
    · simp at hp; subst hp; exact ho
  unfold Dk.waitD
  split
  · refine ⟨by show m.L.length ≤ _; omega, by simp; omega, fun f => ?_, h.sure, hwb, h.rm, h.ct⟩
    rcases getD_putF m.is o.file f (laidB (m.is.getD o.file []) o.at_ o.b) with e | e
    · show ((putF _ _ _).getD f []).length ≤ N
      rw [e, length_laidB]
      have := h.is o.file
      omega
    · show ((putF _ _ _).getD f []).length ≤ N
      rw [e]; exact h.is f
  · have := length_namesOp m.L o
    exact ⟨by show (namesOp m.L o).length ≤ _; omega, by simp; omega, h.is, h.sure, hwb, h.rm, h.ct⟩
/-- a call, of a body of so many bytes -/
theorem Small.call {m : M} {n N b : Nat} (h : Small m n N) (kind : Nat) (s t : List UInt8) (at_ : Int) (body : List UInt8) (hs : s.length ≤ b) (ht : t.length ≤ b) (hb : body.length ≤ b) : Small (Dk.call m kind s t at_ body).1 (n + 1) (N + b) := by
  have hM : Small m (n + 1) (N + b) := h.mono (by omega) (by omega)
  unfold Dk.call
  split
  · exact hM
  · split
    · exact hM
    · next ho =>
      split
      · exact { hM with ct := Nat.zero_le _ }
      · have hc : Small { m with cut := m.cut - 1 } n (N + b) := { h.mono (Nat.le_refl n) (Nat.le_add_right N b) with ct := by have := h.ct; show m.cut - 1 ≤ _; omega }
        have hown : own m kind s t at_ body = 0 := by simpa using ho
        match kind, hown with
        | 1, _ => exact Small.waitD (m := { m with is := m.is ++ [[]], sure := m.sure ++ [[]], cut := m.cut - 1 }) { hc with is := fun f => by show ((m.is ++ [[]]).getD f []).length ≤ _; rw [getD_snoc_nil]; exact hc.is f, sure := fun f => by show ((m.sure ++ [[]]).getD f []).length ≤ _; rw [getD_snoc_nil]; exact hc.sure f } ⟨2, m.is.length, 0, [], [], s⟩ ⟨Nat.zero_le _, Nat.zero_le _, by show s.length ≤ _; omega⟩
        | 2, hown =>
          refine Small.waitD hc ⟨1, (find m.L s).getD 0, at_.toNat, body, [], []⟩ ⟨?_, Nat.zero_le _, Nat.zero_le _⟩
          show at_.toNat + body.length ≤ N + b
          cases hf : find m.L s with
          | none => simp [own, hf] at hown
          | some f =>
            simp only [own, hf] at hown
            split at hown
            · cases hown
            · next h1 =>
              have := h.is f
              simp only [fileLen] at h1
              omega
        | 3, _ => exact (hc.settle _).mono (by omega) (Nat.le_refl _)
        | 4, _ => exact Small.waitD hc ⟨3, 0, 0, [], s, t⟩ ⟨Nat.zero_le _, by show s.length ≤ _; omega, by show t.length ≤ _; omega⟩
        | 5, _ => exact Small.waitD hc ⟨4, 0, 0, [], s, []⟩ ⟨Nat.zero_le _, by show s.length ≤ _; omega, Nat.zero_le _⟩
        | 0, _ => exact (hc.settle _).mono (by omega) (Nat.le_refl _)
        | k + 6, _ => exact (hc.settle _).mono (by omega) (Nat.le_refl _)
end Go.Dm.Dk
