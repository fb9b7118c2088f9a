/- DiskRoom: the disk as lists, as long as nothing is removed: no program. No condition. -/
import Derived.Test.YtkmoomgmmhmaeaaDiskB
namespace Go.Dm.Dk

theorem sum_sub (f : (List UInt8 × Nat) → Nat) : ∀ (l m : Names), l.Nodup → (∀ x ∈ l, x ∈ m) → (l.map f).sum ≤ (m.map f).sum
  | [], _, _, _ => by simp
  | a :: r, m, hn, hs => by
    have ha := hs a (by simp)
    have hp := List.perm_cons_erase ha
    rw [List.nodup_cons] at hn
    have h2 := sum_sub f r (m.erase a) hn.2 fun x hx => (List.mem_erase_of_ne (by rintro rfl; exact hn.1 hx)).2 (hs x (by simp [hx]))
    have h3 := (hp.map f).sum_nat
    simp only [List.map_cons, List.sum_cons] at h3 ⊢
    omega
theorem sum_le_sum (f g : (List UInt8 × Nat) → Nat) : ∀ (l : Names), (∀ x ∈ l, f x ≤ g x) → (l.map f).sum ≤ (l.map g).sum
  | [], _ => by simp
  | a :: r, h => by
    have h1 := h a (by simp)
    have h2 := sum_le_sum f g r fun x hx => h x (by simp [hx])
    simp only [List.map_cons, List.sum_cons]; omega
theorem sum_one (f g : (List UInt8 × Nat) → Nat) (d : Nat) : ∀ (l : Names), l.Nodup → (∃ a, ∀ x ∈ l, x ≠ a → g x ≤ f x) → (∀ x ∈ l, g x ≤ f x + d) → (l.map g).sum ≤ (l.map f).sum + d
  | [], _, _, _ => by simp
  | b :: r, hn, ⟨a, ha⟩, h => by
    rw [List.nodup_cons] at hn
    simp only [List.map_cons, List.sum_cons]
    by_cases e : b = a
    · have h1 := h b (by simp)
      have h2 := sum_le_sum g f r fun x hx => ha x (by simp [hx]) fun ex => hn.1 (e ▸ ex ▸ hx)
      omega
    · have h1 := ha b (by simp) e
      have h2 := sum_one f g d r hn.2 ⟨a, fun x hx => ha x (by simp [hx])⟩ fun x hx => h x (by simp [hx])
      omega
theorem find_some_mem {L : Names} {s : List UInt8} {f : Nat} (h : find L s = some f) : (s, f) ∈ L := by
  unfold find at h
  cases hq : L.find? (fun p => p.1 == s) with
  | none => rw [hq] at h; cases h
  | some q =>
    rw [hq] at h
    have h1 := List.mem_of_find?_eq_some hq
    have h2 := List.find?_some hq
    simp only [beq_iff_eq] at h2
    cases h
    rw [← h2]; exact h1
theorem find_none_mem {L : Names} {s : List UInt8} (h : find L s = none) : ∀ p ∈ L, p.1 ≠ s := by
  intro p hp e
  unfold find at h
  rw [Option.map_eq_none_iff, List.find?_eq_none] at h
  exact h p hp (by simp [e])
theorem fileLen_put (l : List (List UInt8)) (i f : Nat) (s : List UInt8) : fileLen (putF l i s) f = if i = f ∧ i < l.length then s.length else fileLen l f := by
  unfold fileLen putF
  by_cases h : i = f
  · subst h
    by_cases hl : i < l.length
    · simp [List.getD, hl]
    · rw [List.set_eq_of_length_le (Nat.not_lt.1 hl)]; simp [hl]
  · simp [List.getD, List.getElem?_set_ne h, h]

structure RoomInv (m : M) : Prop where
  off : m.off = false
  cut : m.cut = 0
  ap : m.L.Pairwise (fun p q => p.1 ≠ q.1 ∧ p.2 ≠ q.2)
  sap : m.S.Pairwise (fun p q => p.1 ≠ q.1)
  sub : ∀ p ∈ m.S, p ∈ m.L
  lt : ∀ p ∈ m.L, p.2 < m.is.length
  ln : m.sure.length = m.is.length
  le : ∀ f, fileLen m.sure f ≤ fileLen m.is f
  wt : ∀ o ∈ m.wait, (o.kind = 1 ∧ o.at_ + o.b.length ≤ fileLen m.is o.file) ∨ (o.kind = 2 ∧ (o.to, o.file) ∈ m.L)
  us : used m ≤ m.room

theorem RoomInv.new (room : Int) : RoomInv (Dk.new room) :=
  ⟨rfl, rfl, List.Pairwise.nil, List.Pairwise.nil, fun p h => (by cases h), fun p h => (by cases h), rfl, fun f => Nat.le_refl _, fun o h => (by cases h), Nat.zero_le _⟩
theorem pw_nodup {l : Names} (h : l.Pairwise (fun p q => p.1 ≠ q.1)) : l.Nodup := h.imp fun h e => h (by rw [e])
theorem RoomInv.nodup {m : M} (h : RoomInv m) : m.L.Nodup := pw_nodup (h.ap.imp fun h => h.1)
theorem pw_inj {l : Names} (h : l.Pairwise (fun p q => p.1 ≠ q.1 ∧ p.2 ≠ q.2)) : ∀ p ∈ l, ∀ q ∈ l, (p.1 = q.1 ∨ p.2 = q.2) → p = q := by
  induction l with
  | nil => intro p hp; cases hp
  | cons a r ih =>
    rw [List.pairwise_cons] at h
    intro p hp q hq e
    rcases List.mem_cons.1 hp with hp | hp <;> rcases List.mem_cons.1 hq with hq | hq
    · rw [hp, hq]
    · subst hp
      have := h.1 q ‹q ∈ r›; rcases e with e | e
      · exact absurd e this.1
      · exact absurd e this.2
    · subst hq
      have := h.1 p ‹p ∈ r›; rcases e with e | e
      · exact absurd e.symm this.1
      · exact absurd e.symm this.2
    · exact ih h.2 p hp q hq e

theorem RoomInv.create {m : M} (h : RoomInv m) (s : List UInt8) : RoomInv (call m 1 s [] 0 []).1 ∧ (call m 1 s [] 0 []).2 ≠ 23 ∧ (call m 1 s [] 0 []).1.room = m.room := by
  unfold call
  have hoff := h.off
  have hcut := h.cut
  rw [if_neg (by rw [hoff]; decide)]
  split
  · rename_i h0
    refine ⟨h, ?_, rfl⟩
    unfold own
    simp only
    split
    · decide
    · split <;> decide
  · rename_i h0
    rw [if_neg (by omega)]
    refine ⟨?_, by simp, rfl⟩
    have hn : find m.L s = none := by
      unfold own at h0
      simp only at h0
      split at h0
      · simp at h0
      · split at h0
        · simp at h0
        · rename_i h2
          cases hf : find m.L s with
          | none => rfl
          | some f => rw [hf] at h2; simp at h2
    have hne := find_none_mem hn
    have hw : without m.L s = m.L := List.filter_eq_self.2 fun p hp => by simpa using hne p hp
    have hg : ∀ f, fileLen (m.is ++ [[]]) f = fileLen m.is f := by
      intro f
      unfold fileLen
      rcases Nat.lt_or_ge f m.is.length with hl | hl
      · simp [List.getD, List.getElem?_append_left hl]
      · rcases Nat.eq_or_lt_of_le hl with e | hl
        · simp [List.getD, ← e]
        · simp [List.getD, List.getElem?_append_right (by omega : m.is.length ≤ f), List.getElem?_eq_none (by omega : m.is.length ≤ f), List.getElem?_eq_none (by simp; omega : ([[]] : List (List UInt8)).length ≤ f - m.is.length)]
    have hgs : ∀ f, fileLen (m.sure ++ [[]]) f = fileLen m.sure f := by
      intro f
      unfold fileLen
      rcases Nat.lt_or_ge f m.sure.length with hl | hl
      · simp [List.getD, List.getElem?_append_left hl]
      · rcases Nat.eq_or_lt_of_le hl with e | hl
        · simp [List.getD, ← e]
        · simp [List.getD, List.getElem?_append_right (by omega : m.sure.length ≤ f), List.getElem?_eq_none (by omega : m.sure.length ≤ f), List.getElem?_eq_none (by simp; omega : ([[]] : List (List UInt8)).length ≤ f - m.sure.length)]
    have e : done { m with cut := m.cut - 1 } 1 s [] 0 [] = { m with cut := m.cut - 1, is := m.is ++ [[]], sure := m.sure ++ [[]], L := m.L ++ [(s, m.is.length)], wait := m.wait ++ [⟨2, m.is.length, 0, [], [], s⟩] } := by
      simp [done, waitD, namesOp, withN, hw]
    have e : done { m with cut := m.cut - 1 } 1 s [] 0 [] = { m with cut := m.cut - 1, is := m.is ++ [[]], sure := m.sure ++ [[]], L := m.L ++ [(s, m.is.length)], wait := m.wait ++ [⟨2, m.is.length, 0, [], [], s⟩] } := e
    show RoomInv (done { m with cut := m.cut - 1 } 1 s [] 0 [])
    rw [e]
    refine ⟨h.off, by show m.cut - 1 = 0; omega, ?_, h.sap, fun p hp => List.mem_append_left _ (h.sub p hp), ?_, by simp [h.ln], fun f => by simp only [hg, hgs]; exact h.le f, ?_, ?_⟩
    · rw [List.pairwise_append]
      refine ⟨h.ap, List.pairwise_singleton _ _, fun p hp q hq => ?_⟩
      simp only [List.mem_singleton] at hq
      subst hq
      exact ⟨hne p hp, by have := h.lt p hp; show p.2 ≠ m.is.length; omega⟩
    · intro p hp
      show p.2 < (m.is ++ [[]]).length
      rw [List.length_append]
      rcases List.mem_append.1 hp with hp | hp
      · have := h.lt p hp; omega
      · simp only [List.mem_singleton] at hp; subst hp; simp
    · intro o ho
      rcases List.mem_append.1 ho with ho | ho
      · rcases h.wt o ho with ⟨a, b⟩ | ⟨a, b⟩
        · exact .inl ⟨a, by simp only [hg]; exact b⟩
        · exact .inr ⟨a, List.mem_append_left _ b⟩
      · simp only [List.mem_singleton] at ho; subst ho
        exact .inr ⟨rfl, by simp⟩
    · have h1 := h.us
      unfold used at h1 ⊢
      simp only [hg, List.map_append, List.sum_append, List.map_cons, List.map_nil, List.sum_cons, List.sum_nil]
      have h2 : fileLen m.is m.is.length = 0 := by simp [fileLen, List.getD]
      omega

theorem RoomInv.write {m : M} (h : RoomInv m) (s : List UInt8) (at_ : Int) (b : List UInt8) : RoomInv (call m 2 s [] at_ b).1 ∧ (call m 2 s [] at_ b).1.room = m.room ∧
    ((call m 2 s [] at_ b).2 = 0 → 0 ≤ at_ ∧ ∃ old, at_.toNat ≤ old.length ∧ readB (call m 2 s [] at_ b).1 s = laidB old at_.toNat b ∧ readE (call m 2 s [] at_ b).1 s = 0) := by
  unfold call
  have hoff := h.off
  have hcut := h.cut
  rw [if_neg (by rw [hoff]; decide)]
  split
  · rename_i h0
    exact ⟨h, rfl, fun e => absurd e h0⟩
  · rename_i h0
    rw [if_neg (by omega)]
    cases hf : find m.L s with
    | none => unfold own at h0; simp [hf] at h0
    | some f =>
      have hmem := find_some_mem hf
      have hlt := h.lt _ hmem
      have hlt : f < m.is.length := hlt
      unfold own at h0
      simp only [hf] at h0
      split at h0
      · simp at h0
      rename_i h1
      split at h0
      · simp at h0
      rename_i h2
      have ha : 0 ≤ at_ ∧ at_ ≤ fileLen m.is f := by omega
      obtain ⟨i, rfl⟩ : ∃ i : Nat, at_ = i := ⟨at_.toNat, by omega⟩
      simp only [Int.toNat_natCast] at *
      have e : done { m with cut := m.cut - 1 } 2 s [] i b = { m with cut := m.cut - 1, is := putF m.is f (laidB (m.is.getD f []) i b), wait := m.wait ++ [⟨1, f, i, b, [], []⟩] } := by
        simp [done, waitD, hf]
      have hfl : ∀ g, fileLen (putF m.is f (laidB (m.is.getD f []) i b)) g = if f = g then max (fileLen m.is f) (i + b.length) else fileLen m.is g := by
        intro g
        rw [fileLen_put, length_laidB]
        simp [hlt, fileLen]
      have hge : ∀ g, fileLen m.is g ≤ fileLen (putF m.is f (laidB (m.is.getD f []) i b)) g := by
        intro g; rw [hfl]; split
        · rename_i e; subst e; omega
        · exact Nat.le_refl _
      show RoomInv (done { m with cut := m.cut - 1 } 2 s [] i b) ∧ (done { m with cut := m.cut - 1 } 2 s [] i b).room = m.room ∧ (_ → _ ∧ ∃ old : List UInt8, _ ∧ readB (done { m with cut := m.cut - 1 } 2 s [] i b) s = _ ∧ readE (done { m with cut := m.cut - 1 } 2 s [] i b) s = 0)
      rw [e]
      refine ⟨⟨h.off, by show m.cut - 1 = 0; omega, h.ap, h.sap, h.sub, fun p hp => ?_, ?_, fun g => Nat.le_trans (h.le g) (hge g), ?_, ?_⟩, rfl, fun _ => ⟨by omega, m.is.getD f [], by unfold fileLen at ha; omega, ?_, ?_⟩⟩
      · simp only [putF, List.length_set]; exact h.lt p hp
      · simp only [putF, List.length_set]; exact h.ln
      · intro o ho
        rcases List.mem_append.1 ho with ho | ho
        · rcases h.wt o ho with ⟨a, b⟩ | ⟨a, b⟩
          · exact .inl ⟨a, Nat.le_trans b (hge _)⟩
          · exact .inr ⟨a, b⟩
        · simp only [List.mem_singleton] at ho; subst ho
          refine .inl ⟨rfl, ?_⟩
          simp only [hfl, if_true]; omega
      · have h1 := h.us
        have hd : max (fileLen m.is f) (i + b.length) ≤ fileLen m.is f + (m.room - used m) := by omega
        have h3 := sum_one (fun p => fileLen m.is p.2) (fun p => fileLen (putF m.is f (laidB (m.is.getD f []) i b)) p.2) (m.room - used m) m.L h.nodup ⟨(s, f), fun x hx hne => by
            simp only [hfl]
            rw [if_neg fun e => hne (pw_inj h.ap x hx _ hmem (.inr e.symm))]; exact Nat.le_refl _⟩ fun x hx => by
            simp only [hfl]; split
            · rename_i e; rw [← e]; exact hd
            · omega
        have h4 : used m = (m.L.map fun p => fileLen m.is p.2).sum := rfl
        show (m.L.map fun p => fileLen (putF m.is f (laidB (m.is.getD f []) i b)) p.2).sum ≤ m.room
        omega
      · simp only [readB, h.off, hf]
        simp [putF, List.getD, hlt]
      · simp [readE, h.off, hf]

structure RoomS (m0 m : M) : Prop where
  is : m.is = m0.is
  L : m.L = m0.L
  sap : m.S.Pairwise (fun p q => p.1 ≠ q.1)
  sub : ∀ p ∈ m.S, p ∈ m.L
  ln : m.sure.length = m.is.length
  le : ∀ f, fileLen m.sure f ≤ fileLen m.is f
  rm : m.room = m0.room
theorem RoomS.go {m0 : M} (sel : Nat → Bool) : ∀ (l : List Op) (i : Nat) (m : M), (∀ o ∈ l, (o.kind = 1 ∧ o.at_ + o.b.length ≤ fileLen m0.is o.file) ∨ (o.kind = 2 ∧ (o.to, o.file) ∈ m0.L)) → RoomS m0 m → RoomS m0 (settleGo sel i l m)
  | [], _, _, _, h => h
  | o :: r, i, m, hw, h => by
    refine RoomS.go sel r (i + 1) _ (fun o ho => hw o (by simp [ho])) ?_
    unfold settle1
    split
    · exact ⟨h.is, h.L, h.sap, h.sub, h.ln, h.le, h.rm⟩
    · split
      · rename_i hk
        rcases hw o (by simp) with ⟨_, ho⟩ | ⟨e, _⟩
        · refine ⟨h.is, h.L, h.sap, h.sub, by simp only [putF, List.length_set]; exact h.ln, fun f => ?_, h.rm⟩
          simp only
          rw [fileLen_put]
          split
          · rename_i e
            rw [length_laidB]
            have h1 := h.le o.file
            have h2 := h.is
            unfold fileLen at h1 ho ⊢
            rw [← e.1]
            rw [h2] at h1 ⊢
            exact Nat.max_le.2 ⟨h1, ho⟩
          · exact h.le f
        · rw [hk] at e; cases e
      · rename_i hk
        rcases hw o (by simp) with ⟨e, _⟩ | ⟨e, hm⟩
        · exact absurd e hk
        · refine ⟨h.is, h.L, ?_, ?_, h.ln, h.le, h.rm⟩
          · simp only [namesOp, e, if_true, withN]
            rw [List.pairwise_append]
            refine ⟨h.sap.filter _, List.pairwise_singleton _ _, fun p hp q hq => ?_⟩
            simp only [List.mem_singleton] at hq
            subst hq
            have := (List.mem_filter.1 hp).2
            simpa using this
          · simp only [namesOp, e, if_true, withN]
            intro p hp
            rcases List.mem_append.1 hp with hp | hp
            · exact h.sub p (List.mem_filter.1 hp).1
            · simp only [List.mem_singleton] at hp; subst hp; rw [h.L]; exact hm
theorem RoomInv.crash {m : M} (h : RoomInv m) (keep : List Bool) : RoomInv (Dk.crash m keep) ∧ (Dk.crash m keep).room = m.room := by
  have h1 : RoomS m (settle m fun i => keep.getD i false) := RoomS.go _ m.wait 0 { m with wait := [] } h.wt ⟨rfl, rfl, h.sap, h.sub, h.ln, h.le, rfl⟩
  unfold Dk.crash
  generalize settle m (fun i => keep.getD i false) = s at h1
  have hsL : ∀ p ∈ s.S, p ∈ m.L := fun p hp => by have := h1.sub p hp; rwa [h1.L] at this
  refine ⟨⟨rfl, rfl, ?_, h1.sap, fun p hp => hp, fun p hp => ?_, rfl, fun f => Nat.le_refl _, fun o ho => (by cases ho), ?_⟩, h1.rm⟩
  · have : ∀ l : Names, l.Pairwise (fun p q => p.1 ≠ q.1) → (∀ p ∈ l, p ∈ m.L) → l.Pairwise (fun p q => p.1 ≠ q.1 ∧ p.2 ≠ q.2) := by
      intro l; induction l with
      | nil => intro _ _; exact List.Pairwise.nil
      | cons a r ih =>
        intro hp hs
        rw [List.pairwise_cons] at hp ⊢
        refine ⟨fun q hq => ⟨hp.1 q hq, fun e => hp.1 q hq ?_⟩, ih hp.2 fun p hp => hs p (by simp [hp])⟩
        have := pw_inj h.ap a (hs a (by simp)) q (hs q (by simp [hq])) (.inr e)
        rw [this]
    exact this s.S h1.sap hsL
  · show p.2 < s.sure.length
    rw [h1.ln, h1.is]; exact h.lt p (hsL p hp)
  · have h2 := sum_le_sum (fun p => fileLen s.sure p.2) (fun p => fileLen m.is p.2) s.S fun x _ => by have := h1.le x.2; rw [h1.is] at this; exact this
    have h3 := sum_sub (fun p => fileLen m.is p.2) s.S m.L (pw_nodup h1.sap) hsL
    have h4 := h.us
    show (s.S.map fun p => fileLen s.sure p.2).sum ≤ s.room
    rw [h1.rm]
    have h5 : used m = (m.L.map fun p => fileLen m.is p.2).sum := rfl
    omega
theorem laid_read (old b : List UInt8) (i : Nat) (h : i ≤ old.length) : i + b.length ≤ (laidB old i b).length ∧ ((laidB old i b).drop i).take b.length = b := by
  rw [length_laidB]
  refine ⟨by omega, ?_⟩
  unfold laidB
  have hl : (splice (List.replicate (max old.length (i + b.length)) (0 : UInt8)) 0 old).length = max old.length (i + b.length) := by rw [length_splice _ _ _ (by simp; omega)]; simp
  generalize splice (List.replicate (max old.length (i + b.length)) (0 : UInt8)) 0 old = L at hl
  unfold splice
  rw [List.drop_left' (by rw [List.length_take]; omega), List.take_left' rfl]
end Go.Dm.Dk
