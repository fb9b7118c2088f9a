/- DiskRoom: the disk as lists, as long as nothing is removed: no program. The reference of the disk: its small functions. The reference of the disk: put, laid, Used. No condition. -/
import Derived.Test.YtkmoomgmmhmaeaaFileM
import Derived.Test.YtkmoomgmmhmaeaaFl
import Derived.Test.YtkmoomgmmhmaeaaSig
import Derived.IntWalk
namespace Go.Dm.Dk

theorem sum_sub (f : (List UInt8 × Nat) → Nat) : ∀ (l m : Names), l.Nodup → (∀ x ∈ l, x ∈ m) → (l.map f).sum ≤ (m.map f).sum
  | [], _, _, _ => by simp
  | a :: r, m, hn, hs => by
    have ha := hs a (by simp)
    have hp := List.perm_cons_erase ha
    rw [List.nodup_cons] at hn
    have h2 := sum_sub f r (m.erase a) hn.2 fun x hx => (List.mem_erase_of_ne (by rintro rfl; exact hn.1 hx)).2 (hs x (by simp [hx]))
    have h3 := (hp.map f).sum_nat
    simp only [List.map_cons, List.sum_cons] at h3 ⊢
    omega
theorem sum_le_sum (f g : (List UInt8 × Nat) → Nat) : ∀ (l : Names), (∀ x ∈ l, f x ≤ g x) → (l.map f).sum ≤ (l.map g).sum
  | [], _ => by simp
  | a :: r, h => by
    have h1 := h a (by simp)
    have h2 := sum_le_sum f g r fun x hx => h x (by simp [hx])
    simp only [List.map_cons, List.sum_cons]; omega
theorem sum_one (f g : (List UInt8 × Nat) → Nat) (d : Nat) : ∀ (l : Names), l.Nodup → (∃ a, ∀ x ∈ l, x ≠ a → g x ≤ f x) → (∀ x ∈ l, g x ≤ f x + d) → (l.map g).sum ≤ (l.map f).sum + d
  | [], _, _, _ => by simp
  | b :: r, hn, ⟨a, ha⟩, h => by
    rw [List.nodup_cons] at hn
    simp only [List.map_cons, List.sum_cons]
    by_cases e : b = a
    · have h1 := h b (by simp)
      have h2 := sum_le_sum g f r fun x hx => ha x (by simp [hx]) fun ex => hn.1 (e ▸ ex ▸ hx)
      omega
    · have h1 := ha b (by simp) e
      have h2 := sum_one f g d r hn.2 ⟨a, fun x hx => ha x (by simp [hx])⟩ fun x hx => h x (by simp [hx])
      omega
theorem find_some_mem {L : Names} {s : List UInt8} {f : Nat} (h : find L s = some f) : (s, f) ∈ L := by
  unfold find at h
  cases hq : L.find? (fun p => p.1 == s) with
  | none => rw [hq] at h; cases h
  | some q =>
    rw [hq] at h
    have h1 := List.mem_of_find?_eq_some hq
    have h2 := List.find?_some hq
    simp only [beq_iff_eq] at h2
    cases h
    rw [← h2]; exact h1
theorem find_none_mem {L : Names} {s : List UInt8} (h : find L s = none) : ∀ p ∈ L, p.1 ≠ s := by
  intro p hp e
  unfold find at h
  rw [Option.map_eq_none_iff, List.find?_eq_none] at h
  exact h p hp (by simp [e])
theorem fileLen_put (l : List (List UInt8)) (i f : Nat) (s : List UInt8) : fileLen (putF l i s) f = if i = f ∧ i < l.length then s.length else fileLen l f := by
  unfold fileLen putF
  by_cases h : i = f
  · subst h
    by_cases hl : i < l.length
    · simp [List.getD, hl]
    · rw [List.set_eq_of_length_le (Nat.not_lt.1 hl)]; simp [hl]
  · simp [List.getD, List.getElem?_set_ne h, h]

structure RoomInv (m : M) : Prop where
  off : m.off = false
  cut : m.cut = 0
  ap : m.L.Pairwise (fun p q => p.1 ≠ q.1 ∧ p.2 ≠ q.2)
  sap : m.S.Pairwise (fun p q => p.1 ≠ q.1)
  sub : ∀ p ∈ m.S, p ∈ m.L
  lt : ∀ p ∈ m.L, p.2 < m.is.length
  ln : m.sure.length = m.is.length
  le : ∀ f, fileLen m.sure f ≤ fileLen m.is f
  wt : ∀ o ∈ m.wait, (o.kind = 1 ∧ o.at_ + o.b.length ≤ fileLen m.is o.file) ∨ (o.kind = 2 ∧ (o.to, o.file) ∈ m.L)
  us : used m ≤ m.room

theorem RoomInv.new (room : Int) : RoomInv (Dk.new room) :=
  ⟨rfl, rfl, List.Pairwise.nil, List.Pairwise.nil, fun p h => (by cases h), fun p h => (by cases h), rfl, fun f => Nat.le_refl _, fun o h => (by cases h), Nat.zero_le _⟩
theorem pw_nodup {l : Names} (h : l.Pairwise (fun p q => p.1 ≠ q.1)) : l.Nodup := h.imp fun h e => h (by rw [e])
theorem RoomInv.nodup {m : M} (h : RoomInv m) : m.L.Nodup := pw_nodup (h.ap.imp fun h => h.1)
theorem pw_inj {l : Names} (h : l.Pairwise (fun p q => p.1 ≠ q.1 ∧ p.2 ≠ q.2)) : ∀ p ∈ l, ∀ q ∈ l, (p.1 = q.1 ∨ p.2 = q.2) → p = q := by
  induction l with
  | nil => intro p hp; cases hp
  | cons a r ih =>
    rw [List.pairwise_cons] at h
    intro p hp q hq e
    rcases List.mem_cons.1 hp with hp | hp <;> rcases List.mem_cons.1 hq with hq | hq
    · rw [hp, hq]
    · subst hp
      have := h.1 q ‹q ∈ r›; rcases e with e | e
      · exact absurd e this.1
      · exact absurd e this.2
    · subst hq
      have := h.1 p ‹p ∈ r›; rcases e with e | e
      · exact absurd e.symm this.1
      · exact absurd e.symm this.2
    · exact ih h.2 p hp q hq e

theorem RoomInv.create {m : M} (h : RoomInv m) (s : List UInt8) : RoomInv (call m 1 s [] 0 []).1 ∧ (call m 1 s [] 0 []).2 ≠ 23 ∧ (call m 1 s [] 0 []).1.room = m.room := by
  unfold call
  have hoff := h.off
  have hcut := h.cut
  rw [if_neg (by rw [hoff]; decide)]
  split
  · rename_i h0
    refine ⟨h, ?_, rfl⟩
    unfold own
    simp only
    split
    · decide
    · split <;> decide
  · rename_i h0
    rw [if_neg (by omega)]
    refine ⟨?_, by simp, rfl⟩
    have hn : find m.L s = none := by
      unfold own at h0
      simp only at h0
      split at h0
      · simp at h0
      · split at h0
        · simp at h0
        · rename_i h2
          cases hf : find m.L s with
          | none => rfl
          | some f => rw [hf] at h2; simp at h2
    have hne := find_none_mem hn
    have hw : without m.L s = m.L := List.filter_eq_self.2 fun p hp => by simpa using hne p hp
    have hg : ∀ f, fileLen (m.is ++ [[]]) f = fileLen m.is f := by
      intro f
      unfold fileLen
      rcases Nat.lt_or_ge f m.is.length with hl | hl
      · simp [List.getD, List.getElem?_append_left hl]
      · rcases Nat.eq_or_lt_of_le hl with e | hl
        · simp [List.getD, ← e]
        · simp [List.getD, List.getElem?_append_right (by omega : m.is.length ≤ f), List.getElem?_eq_none (by omega : m.is.length ≤ f), List.getElem?_eq_none (by simp; omega : ([[]] : List (List UInt8)).length ≤ f - m.is.length)]
    have hgs : ∀ f, fileLen (m.sure ++ [[]]) f = fileLen m.sure f := by
      intro f
      unfold fileLen
      rcases Nat.lt_or_ge f m.sure.length with hl | hl
      · simp [List.getD, List.getElem?_append_left hl]
      · rcases Nat.eq_or_lt_of_le hl with e | hl
        · simp [List.getD, ← e]
        · simp [List.getD, List.getElem?_append_right (by omega : m.sure.length ≤ f), List.getElem?_eq_none (by omega : m.sure.length ≤ f), List.getElem?_eq_none (by simp; omega : ([[]] : List (List UInt8)).length ≤ f - m.sure.length)]
    have e : done { m with cut := m.cut - 1 } 1 s [] 0 [] = { m with cut := m.cut - 1, is := m.is ++ [[]], sure := m.sure ++ [[]], L := m.L ++ [(s, m.is.length)], wait := m.wait ++ [⟨2, m.is.length, 0, [], [], s⟩] } := by
      simp [done, waitD, namesOp, withN, hw]
    have e : done { m with cut := m.cut - 1 } 1 s [] 0 [] = { m with cut := m.cut - 1, is := m.is ++ [[]], sure := m.sure ++ [[]], L := m.L ++ [(s, m.is.length)], wait := m.wait ++ [⟨2, m.is.length, 0, [], [], s⟩] } := e
    show RoomInv (done { m with cut := m.cut - 1 } 1 s [] 0 [])
    rw [e]
    refine ⟨h.off, by show m.cut - 1 = 0; omega, ?_, h.sap, fun p hp => List.mem_append_left _ (h.sub p hp), ?_, by simp [h.ln], fun f => by simp only [hg, hgs]; exact h.le f, ?_, ?_⟩
    · rw [List.pairwise_append]
      refine ⟨h.ap, List.pairwise_singleton _ _, fun p hp q hq => ?_⟩
      simp only [List.mem_singleton] at hq
      subst hq
      exact ⟨hne p hp, by have := h.lt p hp; show p.2 ≠ m.is.length; omega⟩
    · intro p hp
      show p.2 < (m.is ++ [[]]).length
      rw [List.length_append]
      rcases List.mem_append.1 hp with hp | hp
      · have := h.lt p hp; omega
      · simp only [List.mem_singleton] at hp; subst hp; simp
    · intro o ho
      rcases List.mem_append.1 ho with ho | ho
      · rcases h.wt o ho with ⟨a, b⟩ | ⟨a, b⟩
        · exact .inl ⟨a, by simp only [hg]; exact b⟩
        · exact .inr ⟨a, List.mem_append_left _ b⟩
      · simp only [List.mem_singleton] at ho; subst ho
        exact .inr ⟨rfl, by simp⟩
    · have h1 := h.us
      unfold used at h1 ⊢
      simp only [hg, List.map_append, List.sum_append, List.map_cons, List.map_nil, List.sum_cons, List.sum_nil]
      have h2 : fileLen m.is m.is.length = 0 := by simp [fileLen, List.getD]
      omega

theorem RoomInv.write {m : M} (h : RoomInv m) (s : List UInt8) (at_ : Int) (b : List UInt8) : RoomInv (call m 2 s [] at_ b).1 ∧ (call m 2 s [] at_ b).1.room = m.room ∧
    ((call m 2 s [] at_ b).2 = 0 → 0 ≤ at_ ∧ ∃ old, at_.toNat ≤ old.length ∧ readB (call m 2 s [] at_ b).1 s = laidB old at_.toNat b ∧ readE (call m 2 s [] at_ b).1 s = 0) := by
  unfold call
  have hoff := h.off
  have hcut := h.cut
  rw [if_neg (by rw [hoff]; decide)]
  split
  · rename_i h0
    exact ⟨h, rfl, fun e => absurd e h0⟩
  · rename_i h0
    rw [if_neg (by omega)]
    cases hf : find m.L s with
    | none => unfold own at h0; simp [hf] at h0
    | some f =>
      have hmem := find_some_mem hf
      have hlt := h.lt _ hmem
      have hlt : f < m.is.length := hlt
      unfold own at h0
      simp only [hf] at h0
      split at h0
      · simp at h0
      rename_i h1
      split at h0
      · simp at h0
      rename_i h2
      have ha : 0 ≤ at_ ∧ at_ ≤ fileLen m.is f := by omega
      obtain ⟨i, rfl⟩ : ∃ i : Nat, at_ = i := ⟨at_.toNat, by omega⟩
      simp only [Int.toNat_natCast] at *
      have e : done { m with cut := m.cut - 1 } 2 s [] i b = { m with cut := m.cut - 1, is := putF m.is f (laidB (m.is.getD f []) i b), wait := m.wait ++ [⟨1, f, i, b, [], []⟩] } := by
        simp [done, waitD, hf]
      have hfl : ∀ g, fileLen (putF m.is f (laidB (m.is.getD f []) i b)) g = if f = g then max (fileLen m.is f) (i + b.length) else fileLen m.is g := by
        intro g
        rw [fileLen_put, length_laidB]
        simp [hlt, fileLen]
      have hge : ∀ g, fileLen m.is g ≤ fileLen (putF m.is f (laidB (m.is.getD f []) i b)) g := by
        intro g; rw [hfl]; split
        · rename_i e; subst e; omega
        · exact Nat.le_refl _
      show RoomInv (done { m with cut := m.cut - 1 } 2 s [] i b) ∧ (done { m with cut := m.cut - 1 } 2 s [] i b).room = m.room ∧ (_ → _ ∧ ∃ old : List UInt8, _ ∧ readB (done { m with cut := m.cut - 1 } 2 s [] i b) s = _ ∧ readE (done { m with cut := m.cut - 1 } 2 s [] i b) s = 0)
      rw [e]
      refine ⟨⟨h.off, by show m.cut - 1 = 0; omega, h.ap, h.sap, h.sub, fun p hp => ?_, ?_, fun g => Nat.le_trans (h.le g) (hge g), ?_, ?_⟩, rfl, fun _ => ⟨by omega, m.is.getD f [], by unfold fileLen at ha; omega, ?_, ?_⟩⟩
      · simp only [putF, List.length_set]; exact h.lt p hp
      · simp only [putF, List.length_set]; exact h.ln
      · intro o ho
        rcases List.mem_append.1 ho with ho | ho
        · rcases h.wt o ho with ⟨a, b⟩ | ⟨a, b⟩
          · exact .inl ⟨a, Nat.le_trans b (hge _)⟩
          · exact .inr ⟨a, b⟩
        · simp only [List.mem_singleton] at ho; subst ho
          refine .inl ⟨rfl, ?_⟩
          simp only [hfl, if_true]; omega
      · have h1 := h.us
        have hd : max (fileLen m.is f) (i + b.length) ≤ fileLen m.is f + (m.room - used m) := by omega
        have h3 := sum_one (fun p => fileLen m.is p.2) (fun p => fileLen (putF m.is f (laidB (m.is.getD f []) i b)) p.2) (m.room - used m) m.L h.nodup ⟨(s, f), fun x hx hne => by
            simp only [hfl]
            rw [if_neg fun e => hne (pw_inj h.ap x hx _ hmem (.inr e.symm))]; exact Nat.le_refl _⟩ fun x hx => by
            simp only [hfl]; split
            · rename_i e; rw [← e]; exact hd
            · omega
        have h4 : used m = (m.L.map fun p => fileLen m.is p.2).sum := rfl
        show (m.L.map fun p => fileLen (putF m.is f (laidB (m.is.getD f []) i b)) p.2).sum ≤ m.room
        omega
      · simp only [readB, h.off, hf]
        simp [putF, List.getD, hlt]
      · simp [readE, h.off, hf]

structure RoomS (m0 m : M) : Prop where
  is : m.is = m0.is
  L : m.L = m0.L
  sap : m.S.Pairwise (fun p q => p.1 ≠ q.1)
  sub : ∀ p ∈ m.S, p ∈ m.L
  ln : m.sure.length = m.is.length
  le : ∀ f, fileLen m.sure f ≤ fileLen m.is f
  rm : m.room = m0.room
theorem RoomS.go {m0 : M} (sel : Nat → Bool) : ∀ (l : List Op) (i : Nat) (m : M), (∀ o ∈ l, (o.kind = 1 ∧ o.at_ + o.b.length ≤ fileLen m0.is o.file) ∨ (o.kind = 2 ∧ (o.to, o.file) ∈ m0.L)) → RoomS m0 m → RoomS m0 (settleGo sel i l m)
  | [], _, _, _, h => h
  | o :: r, i, m, hw, h => by
    refine RoomS.go sel r (i + 1) _ (fun o ho => hw o (by simp [ho])) ?_
    unfold settle1
    split
    · exact ⟨h.is, h.L, h.sap, h.sub, h.ln, h.le, h.rm⟩
    · split
      · rename_i hk
        rcases hw o (by simp) with ⟨_, ho⟩ | ⟨e, _⟩
        · refine ⟨h.is, h.L, h.sap, h.sub, by simp only [putF, List.length_set]; exact h.ln, fun f => ?_, h.rm⟩
          simp only
          rw [fileLen_put]
          split
          · rename_i e
            rw [length_laidB]
            have h1 := h.le o.file
            have h2 := h.is
            unfold fileLen at h1 ho ⊢
            rw [← e.1]
            rw [h2] at h1 ⊢
            exact Nat.max_le.2 ⟨h1, ho⟩
          · exact h.le f
        · rw [hk] at e; cases e
      · rename_i hk
        rcases hw o (by simp) with ⟨e, _⟩ | ⟨e, hm⟩
        · exact absurd e hk
        · refine ⟨h.is, h.L, ?_, ?_, h.ln, h.le, h.rm⟩
          · simp only [namesOp, e, if_true, withN]
            rw [List.pairwise_append]
            refine ⟨h.sap.filter _, List.pairwise_singleton _ _, fun p hp q hq => ?_⟩
            simp only [List.mem_singleton] at hq
            subst hq
            have := (List.mem_filter.1 hp).2
            simpa using this
          · simp only [namesOp, e, if_true, withN]
            intro p hp
            rcases List.mem_append.1 hp with hp | hp
            · exact h.sub p (List.mem_filter.1 hp).1
            · simp only [List.mem_singleton] at hp; subst hp; rw [h.L]; exact hm
theorem RoomInv.crash {m : M} (h : RoomInv m) (keep : List Bool) : RoomInv (Dk.crash m keep) ∧ (Dk.crash m keep).room = m.room := by
  have h1 : RoomS m (settle m fun i => keep.getD i false) := RoomS.go _ m.wait 0 { m with wait := [] } h.wt ⟨rfl, rfl, h.sap, h.sub, h.ln, h.le, rfl⟩
  unfold Dk.crash
  generalize settle m (fun i => keep.getD i false) = s at h1
  have hsL : ∀ p ∈ s.S, p ∈ m.L := fun p hp => by have := h1.sub p hp; rwa [h1.L] at this
  refine ⟨⟨rfl, rfl, ?_, h1.sap, fun p hp => hp, fun p hp => ?_, rfl, fun f => Nat.le_refl _, fun o ho => (by cases ho), ?_⟩, h1.rm⟩
  · have : ∀ l : Names, l.Pairwise (fun p q => p.1 ≠ q.1) → (∀ p ∈ l, p ∈ m.L) → l.Pairwise (fun p q => p.1 ≠ q.1 ∧ p.2 ≠ q.2) := by
      intro l; induction l with
      | nil => intro _ _; exact List.Pairwise.nil
      | cons a r ih =>
        intro hp hs
        rw [List.pairwise_cons] at hp ⊢
        refine ⟨fun q hq => ⟨hp.1 q hq, fun e => hp.1 q hq ?_⟩, ih hp.2 fun p hp => hs p (by simp [hp])⟩
        have := pw_inj h.ap a (hs a (by simp)) q (hs q (by simp [hq])) (.inr e)
        rw [this]
    exact this s.S h1.sap hsL
  · show p.2 < s.sure.length
    rw [h1.ln, h1.is]; exact h.lt p (hsL p hp)
  · have h2 := sum_le_sum (fun p => fileLen s.sure p.2) (fun p => fileLen m.is p.2) s.S fun x _ => by have := h1.le x.2; rw [h1.is] at this; exact this
    have h3 := sum_sub (fun p => fileLen m.is p.2) s.S m.L (pw_nodup h1.sap) hsL
    have h4 := h.us
    show (s.S.map fun p => fileLen s.sure p.2).sum ≤ s.room
    rw [h1.rm]
    have h5 : used m = (m.L.map fun p => fileLen m.is p.2).sum := rfl
    omega
theorem laid_read (old b : List UInt8) (i : Nat) (h : i ≤ old.length) : i + b.length ≤ (laidB old i b).length ∧ ((laidB old i b).drop i).take b.length = b := by
  rw [length_laidB]
  refine ⟨by omega, ?_⟩
  unfold laidB
  have hl : (splice (List.replicate (max old.length (i + b.length)) (0 : UInt8)) 0 old).length = max old.length (i + b.length) := by rw [length_splice _ _ _ (by simp; omega)]; simp
  generalize splice (List.replicate (max old.length (i + b.length)) (0 : UInt8)) 0 old = L at hl
  unfold splice
  rw [List.drop_left' (by rw [List.length_take]; omega), List.take_left' rfl]
end Go.Dm.Dk
namespace Go.Proofs.Ytkmoomgmmhmaeaa
open Go.RowKit Go.Dm Go.Dm.Dk

def encNm (p : List UInt8 × Nat) : List Value := [.string ⟨p.1.toArray⟩, .int .i64 p.2]
def encOp (o : Dk.Op) : List Value := [.int .i64 o.kind, .int .i64 o.file, .int .i64 o.at_, .string ⟨o.b.toArray⟩, .string ⟨o.frm.toArray⟩, .string ⟨o.to.toArray⟩]
def encS (s : List UInt8) : List Value := [.string ⟨s.toArray⟩]
def encB (b : Bool) : List Value := [.bool b]
theorem info_nm : (Try.prog.info? 101).map (fun i => (i.zero, i.size, i.bytes)) = some (some (.agg #[.string ⟨#[]⟩, .int .i64 0]), 2, 24) := by kernel_rfl
theorem info_str : (Try.prog.info? 9).map (fun i => (i.zero, i.size, i.bytes)) = some (some (.string ⟨#[]⟩), 1, 16) := by kernel_rfl
theorem info_op : (Try.prog.info? 108).map (fun i => (i.zero, i.size, i.bytes)) = some (some (.agg #[.int .i64 0, .int .i64 0, .int .i64 0, .string ⟨#[]⟩, .string ⟨#[]⟩, .string ⟨#[]⟩]), 6, 72) := by kernel_rfl
theorem info_bool : (Try.prog.info? 4).map (fun i => (i.zero, i.size, i.bytes)) = some (some (.bool false), 1, 1) := by kernel_rfl
theorem nm_one (p : List UInt8 × Nat) : ∀ u ∈ encNm p, u.oneCell' = true := by simp [encNm, Value.oneCell']
theorem op_one (p : Dk.Op) : ∀ u ∈ encOp p, u.oneCell' = true := by simp [encOp, Value.oneCell']
theorem s_one (p : List UInt8) : ∀ u ∈ encS p, u.oneCell' = true := by simp [encS, Value.oneCell']
theorem b_one (p : Bool) : ∀ u ∈ encB p, u.oneCell' = true := by simp [encB, Value.oneCell']

theorem ret_int {k : IntKind} {a b : Int} (h : a = b) : Ending.returned (.int k a) = .returned (.int k b) := by rw [h]
def findZ (L : Names) (s : List UInt8) : Int := match find L s with | some f => f | none => -1
theorem find_step {L : Names} {s : List UInt8} {k : Nat} (hk : k < L.length) (h : ∀ p ∈ L.take k, p.1 ≠ s) : (L[k].1 = s → find L s = some L[k].2) ∧ (L[k].1 ≠ s → ∀ p ∈ L.take (k + 1), p.1 ≠ s) := by
  constructor
  · intro e
    unfold find
    have e1 : L = L.take k ++ L[k] :: L.drop (k + 1) := by rw [← List.drop_eq_getElem_cons hk]; exact (List.take_append_drop k L).symm
    have e2 : (L.take k).find? (fun p => p.1 == s) = none := List.find?_eq_none.2 fun p hp => by simpa using h p hp
    generalize L[k] = q at *
    rw [e1, List.find?_append, e2]
    simp [e]
  · intro hne p hp
    rw [List.take_succ_eq_append_getElem hk] at hp
    rcases List.mem_append.1 hp with hp | hp
    · exact h p hp
    · simp only [List.mem_singleton] at hp; rw [hp]; exact hne
theorem find_out {L : Names} {s : List UInt8} (h : ∀ p ∈ L.take L.length, p.1 ≠ s) : find L s = none := by
  rw [List.take_length] at h
  unfold find
  rw [List.find?_eq_none.2 fun p hp => by simpa using h p hp]; rfl

set_option maxRecDepth 100000 in
set_option maxHeartbeats 1000000 in
theorem rfind_any {A : Nat → Prop} {w : World} {v : Value} {L : Names} (s : List UInt8) (h : Fl A w 2 encNm v L) :
    Calls Try.prog 80 #[v, .string ⟨s.toArray⟩] w fun e w' => e = .returned (.int .i64 (findZ L s)) ∧ w = w' := by
  obtain ⟨a, c, rfl, hc, hm⟩ := h.shape
  unfold maxLen at hm
  go_enter Try.func80, Try.ntmps80
  go_wp2_with (first | (at_builtin; refine wl_append rfl _ _ _ _ rfl _ _ rfl rfl ?_) | (at_make; refine wl_make rfl _ _ _ rfl _ _ rfl rfl ?_) | (at_mapUpdate; refine wl_mapUpdate rfl _ _ _ _ rfl _ _ _ rfl rfl rfl ?_) | (at_lookup; refine wl_lookup rfl _ _ _ _ rfl _ _ rfl rfl ?_) | (at_delete; refine wl_delete rfl _ _ _ _ rfl _ _ rfl rfl ?_) | (with_reducible refine wl_len rfl _ _ rfl _ rfl ?_) | (with_reducible refine wl_range rfl _ _ rfl _ rfl ?_) | (with_reducible refine wl_next rfl _ rfl _ rfl ?_) | (with_reducible refine wl_copy rfl _ _ _ _ rfl _ _ rfl rfl ?_) | (with_reducible refine wl_max rfl _ _ _ _ rfl _ _ rfl rfl ?_) | (with_reducible refine wl_min rfl _ _ _ _ rfl _ _ rfl rfl ?_))
  go_loop [5] (fun iv => ∃ k : Nat, iv = .int .i64 k ∧ k ≤ L.length ∧ ∀ p ∈ L.take k, p.1 ≠ s) (fun iv => L.length - (intOf iv).toNat)
  case atStart => exact ⟨0, rfl, Nat.zero_le _, by simp⟩
  case round =>
    obtain ⟨k, rfl, hk, hp⟩ := hrel
    rcases Nat.lt_or_ge k L.length with hkl | hkl
    · obtain ⟨g, off, cap, e, _, hg, _, _, hcell⟩ := h.at (fun _ => rfl) hkl
      cases e
      have q0 : w.cell? ⟨g, off + k * 2, none⟩ = _ := hcell 0 _ rfl
      have q1 := hcell 1 _ rfl
      obtain ⟨hf, hn⟩ := find_step hkl hp
      have HF := Lib.hid hf
      have HN := Lib.hid hn
      clear hcell hp hf hn
      by_cases hs : L[k].1 = s
      · rw [hs] at q0
        go_wp2_with (first | (at_builtin; refine wl_append rfl _ _ _ _ rfl _ _ rfl rfl ?_) | (at_make; refine wl_make rfl _ _ _ rfl _ _ rfl rfl ?_) | (at_mapUpdate; refine wl_mapUpdate rfl _ _ _ _ rfl _ _ _ rfl rfl rfl ?_) | (at_lookup; refine wl_lookup rfl _ _ _ _ rfl _ _ rfl rfl ?_) | (at_delete; refine wl_delete rfl _ _ _ _ rfl _ _ rfl rfl ?_) | (with_reducible refine wl_len rfl _ _ rfl _ rfl ?_) | (with_reducible refine wl_range rfl _ _ rfl _ rfl ?_) | (with_reducible refine wl_next rfl _ rfl _ rfl ?_) | (with_reducible refine wl_copy rfl _ _ _ _ rfl _ _ rfl rfl ?_) | (with_reducible refine wl_max rfl _ _ _ _ rfl _ _ rfl rfl ?_) | (with_reducible refine wl_min rfl _ _ _ _ rfl _ _ rfl rfl ?_))
        go_ret
        exact ⟨ret_int (by unfold findZ; rw [HF.out hs]), rfl⟩
      · have hs' : (L[k].1 == s) = false := by simpa using hs
        go_wp2_with (first | (at_builtin; refine wl_append rfl _ _ _ _ rfl _ _ rfl rfl ?_) | (at_make; refine wl_make rfl _ _ _ rfl _ _ rfl rfl ?_) | (at_mapUpdate; refine wl_mapUpdate rfl _ _ _ _ rfl _ _ _ rfl rfl rfl ?_) | (at_lookup; refine wl_lookup rfl _ _ _ _ rfl _ _ rfl rfl ?_) | (at_delete; refine wl_delete rfl _ _ _ _ rfl _ _ rfl rfl ?_) | (with_reducible refine wl_len rfl _ _ rfl _ rfl ?_) | (with_reducible refine wl_range rfl _ _ rfl _ rfl ?_) | (with_reducible refine wl_next rfl _ rfl _ rfl ?_) | (with_reducible refine wl_copy rfl _ _ _ _ rfl _ _ rfl rfl ?_) | (with_reducible refine wl_max rfl _ _ _ _ rfl _ _ rfl rfl ?_) | (with_reducible refine wl_min rfl _ _ _ _ rfl _ _ rfl rfl ?_))
        go_round
        case rel => exact ⟨k + 1, by go_num, by omega, HN.out hs⟩
        case measure => simp [intOf]; omega
    · obtain rfl : k = L.length := by omega
      have hf := find_out hp
      clear hp
      go_wp2_with (first | (at_builtin; refine wl_append rfl _ _ _ _ rfl _ _ rfl rfl ?_) | (at_make; refine wl_make rfl _ _ _ rfl _ _ rfl rfl ?_) | (at_mapUpdate; refine wl_mapUpdate rfl _ _ _ _ rfl _ _ _ rfl rfl rfl ?_) | (at_lookup; refine wl_lookup rfl _ _ _ _ rfl _ _ rfl rfl ?_) | (at_delete; refine wl_delete rfl _ _ _ _ rfl _ _ rfl rfl ?_) | (with_reducible refine wl_len rfl _ _ rfl _ rfl ?_) | (with_reducible refine wl_range rfl _ _ rfl _ rfl ?_) | (with_reducible refine wl_next rfl _ rfl _ rfl ?_) | (with_reducible refine wl_copy rfl _ _ _ _ rfl _ _ rfl rfl ?_) | (with_reducible refine wl_max rfl _ _ _ _ rfl _ _ rfl rfl ?_) | (with_reducible refine wl_min rfl _ _ _ _ rfl _ _ rfl rfl ?_))
      go_ret
      exact ⟨ret_int (by unfold findZ; rw [hf]), rfl⟩

theorem without_step {L : Names} (s : List UInt8) {k : Nat} (hk : k < L.length) : without (L.take (k + 1)) s = if L[k].1 = s then without (L.take k) s else without (L.take k) s ++ [L[k]] := by
  rw [List.take_succ_eq_append_getElem hk]
  unfold without
  rw [List.filter_append]
  split
  · rename_i e; simp [e]
  · rename_i e; simp [e]
theorem without_len (L : Names) (s : List UInt8) : (without L s).length ≤ L.length := List.length_filter_le _ _

set_option maxRecDepth 100000 in
set_option maxHeartbeats 1000000 in
theorem rwithout_any {A : Nat → Prop} {w : World} {v : Value} {L : Names} (s : List UInt8) (h : Fl A w 2 encNm v L) (hL : L.length ≤ 1000000) :
    Calls Try.prog 103 #[v, .string ⟨s.toArray⟩] w fun e w' => ∃ v', e = .returned v' ∧ FlO w' w.heap.size 101 2 encNm v' (without L s) ∧ Keep No w w' := by
  obtain ⟨a, c, rfl, hc, hm⟩ := h.shape
  unfold maxLen at hm
  go_enter Try.func103, Try.ntmps103
  go_wp2_with (first | (at_builtin; refine wl_append rfl _ _ _ _ rfl _ _ rfl rfl ?_) | (at_make; refine wl_make rfl _ _ _ rfl _ _ rfl rfl ?_) | (at_mapUpdate; refine wl_mapUpdate rfl _ _ _ _ rfl _ _ _ rfl rfl rfl ?_) | (at_lookup; refine wl_lookup rfl _ _ _ _ rfl _ _ rfl rfl ?_) | (at_delete; refine wl_delete rfl _ _ _ _ rfl _ _ rfl rfl ?_) | (with_reducible refine wl_len rfl _ _ rfl _ rfl ?_) | (with_reducible refine wl_range rfl _ _ rfl _ rfl ?_) | (with_reducible refine wl_next rfl _ rfl _ rfl ?_) | (with_reducible refine wl_copy rfl _ _ _ _ rfl _ _ rfl rfl ?_) | (with_reducible refine wl_max rfl _ _ _ _ rfl _ _ rfl rfl ?_) | (with_reducible refine wl_min rfl _ _ _ _ rfl _ _ rfl rfl ?_))
  go_loopw [5, 6] (fun ov iv wr => ∃ (k : Nat), iv = .int .i64 k ∧ k ≤ L.length ∧ FlO wr w.heap.size 101 2 encNm ov (without (L.take k) s) ∧ Keep No w wr) (fun _ iv _ => L.length - (intOf iv).toNat)
  case atStart => exact ⟨0, rfl, Nat.zero_le _, FlO.nil, Keep.refl _ _⟩
  case round =>
    obtain ⟨k, rfl, hk, ho, hK⟩ := hrel
    rename_i ov _ _
    rcases Nat.lt_or_ge k L.length with hkl | hkl
    · obtain ⟨g, off, cap, e, _, hg, _, _, hcell⟩ := (h.no hK).at (fun _ => rfl) hkl
      cases e
      have q0 : wr.cell? ⟨g, off + k * 2, none⟩ = _ := hcell 0 _ rfl
      have q1 := hcell 1 _ rfl
      have hst := without_step s hkl
      have hlen := without_len (L.take k) s
      rw [List.length_take] at hlen
      have HS := Lib.hid hst
      clear hcell hst
      by_cases hs : L[k].1 = s
      · rw [hs] at q0
        go_wp2_with (first | (at_builtin; refine wl_append rfl _ _ _ _ rfl _ _ rfl rfl ?_) | (at_make; refine wl_make rfl _ _ _ rfl _ _ rfl rfl ?_) | (at_mapUpdate; refine wl_mapUpdate rfl _ _ _ _ rfl _ _ _ rfl rfl rfl ?_) | (at_lookup; refine wl_lookup rfl _ _ _ _ rfl _ _ rfl rfl ?_) | (at_delete; refine wl_delete rfl _ _ _ _ rfl _ _ rfl rfl ?_) | (with_reducible refine wl_len rfl _ _ rfl _ rfl ?_) | (with_reducible refine wl_range rfl _ _ rfl _ rfl ?_) | (with_reducible refine wl_next rfl _ rfl _ rfl ?_) | (with_reducible refine wl_copy rfl _ _ _ _ rfl _ _ rfl rfl ?_) | (with_reducible refine wl_max rfl _ _ _ _ rfl _ _ rfl rfl ?_) | (with_reducible refine wl_min rfl _ _ _ _ rfl _ _ rfl rfl ?_))
        go_roundw
        case rel => exact ⟨k + 1, by go_num, by omega, by rw [HS.out, if_pos hs]; exact ho, hK⟩
        case measure => simp [intOf]; omega
      · have hs' : (L[k].1 == s) = false := by simpa using hs
        obtain ⟨a2, c2, rfl, _, _⟩ := ho.fl.shape
        go_wp2_with (first | (at_builtin; refine wl_append rfl _ _ _ _ rfl _ _ rfl rfl ?_) | (at_make; refine wl_make rfl _ _ _ rfl _ _ rfl rfl ?_) | (at_mapUpdate; refine wl_mapUpdate rfl _ _ _ _ rfl _ _ _ rfl rfl rfl ?_) | (at_lookup; refine wl_lookup rfl _ _ _ _ rfl _ _ rfl rfl ?_) | (at_delete; refine wl_delete rfl _ _ _ _ rfl _ _ rfl rfl ?_) | (with_reducible refine wl_len rfl _ _ rfl _ rfl ?_) | (with_reducible refine wl_range rfl _ _ rfl _ rfl ?_) | (with_reducible refine wl_next rfl _ rfl _ rfl ?_) | (with_reducible refine wl_copy rfl _ _ _ _ rfl _ _ rfl rfl ?_) | (with_reducible refine wl_max rfl _ _ _ _ rfl _ _ rfl rfl ?_) | (with_reducible refine wl_min rfl _ _ _ _ rfl _ _ rfl rfl ?_))
        refine rg_push _ 24 Try.underlying44 info_nm rfl (by decide) (x := L[k]) rfl rfl (nm_one _) ho (by omega) (by decide) hK.size ?_
        intro v' w2 ho2 hk2 _
        go_wp2_with (first | (at_builtin; refine wl_append rfl _ _ _ _ rfl _ _ rfl rfl ?_) | (at_make; refine wl_make rfl _ _ _ rfl _ _ rfl rfl ?_) | (at_mapUpdate; refine wl_mapUpdate rfl _ _ _ _ rfl _ _ _ rfl rfl rfl ?_) | (at_lookup; refine wl_lookup rfl _ _ _ _ rfl _ _ rfl rfl ?_) | (at_delete; refine wl_delete rfl _ _ _ _ rfl _ _ rfl rfl ?_) | (with_reducible refine wl_len rfl _ _ rfl _ rfl ?_) | (with_reducible refine wl_range rfl _ _ rfl _ rfl ?_) | (with_reducible refine wl_next rfl _ rfl _ rfl ?_) | (with_reducible refine wl_copy rfl _ _ _ _ rfl _ _ rfl rfl ?_) | (with_reducible refine wl_max rfl _ _ _ _ rfl _ _ rfl rfl ?_) | (with_reducible refine wl_min rfl _ _ _ _ rfl _ _ rfl rfl ?_))
        go_roundw
        case rel => exact ⟨k + 1, by go_num, by omega, by rw [HS.out, if_neg hs]; exact ho2, hK.own ho hk2⟩
        case measure => simp [intOf]; omega
    · obtain rfl : k = L.length := by omega
      rw [List.take_length] at ho
      obtain ⟨a2, c2, rfl, _, _⟩ := ho.fl.shape
      go_wp2_with (first | (at_builtin; refine wl_append rfl _ _ _ _ rfl _ _ rfl rfl ?_) | (at_make; refine wl_make rfl _ _ _ rfl _ _ rfl rfl ?_) | (at_mapUpdate; refine wl_mapUpdate rfl _ _ _ _ rfl _ _ _ rfl rfl rfl ?_) | (at_lookup; refine wl_lookup rfl _ _ _ _ rfl _ _ rfl rfl ?_) | (at_delete; refine wl_delete rfl _ _ _ _ rfl _ _ rfl rfl ?_) | (with_reducible refine wl_len rfl _ _ rfl _ rfl ?_) | (with_reducible refine wl_range rfl _ _ rfl _ rfl ?_) | (with_reducible refine wl_next rfl _ rfl _ rfl ?_) | (with_reducible refine wl_copy rfl _ _ _ _ rfl _ _ rfl rfl ?_) | (with_reducible refine wl_max rfl _ _ _ _ rfl _ _ rfl rfl ?_) | (with_reducible refine wl_min rfl _ _ _ _ rfl _ _ rfl rfl ?_))
      go_ret
      exact ⟨_, rfl, ho, hK⟩

set_option maxRecDepth 100000 in
set_option maxHeartbeats 1000000 in
theorem rwith_any {A : Nat → Prop} {w : World} {v : Value} {L : Names} (s : List UInt8) (f : Nat) (h : Fl A w 2 encNm v L) (hL : L.length ≤ 1000000) :
    Calls Try.prog 102 #[v, .string ⟨s.toArray⟩, .int .i64 (f : Int)] w fun e w' => ∃ v', e = .returned v' ∧ FlO w' w.heap.size 101 2 encNm v' (withN L s f) ∧ Keep No w w' := by
  have hlen := without_len L s
  go_enter Try.func102, Try.ntmps102
  go_wp2_with (first | (at_builtin; refine wl_append rfl _ _ _ _ rfl _ _ rfl rfl ?_) | (at_make; refine wl_make rfl _ _ _ rfl _ _ rfl rfl ?_) | (at_mapUpdate; refine wl_mapUpdate rfl _ _ _ _ rfl _ _ _ rfl rfl rfl ?_) | (at_lookup; refine wl_lookup rfl _ _ _ _ rfl _ _ rfl rfl ?_) | (at_delete; refine wl_delete rfl _ _ _ _ rfl _ _ rfl rfl ?_) | (with_reducible refine wl_len rfl _ _ rfl _ rfl ?_) | (with_reducible refine wl_range rfl _ _ rfl _ rfl ?_) | (with_reducible refine wl_next rfl _ rfl _ rfl ?_) | (with_reducible refine wl_copy rfl _ _ _ _ rfl _ _ rfl rfl ?_) | (with_reducible refine wl_max rfl _ _ _ _ rfl _ _ rfl rfl ?_) | (with_reducible refine wl_min rfl _ _ _ _ rfl _ _ rfl rfl ?_))
  refine (rwithout_any s h hL).mono ?_
  rintro e w1 ⟨v1, rfl, ho, hk⟩
  go_wp2_with (first | (at_builtin; refine wl_append rfl _ _ _ _ rfl _ _ rfl rfl ?_) | (at_make; refine wl_make rfl _ _ _ rfl _ _ rfl rfl ?_) | (at_mapUpdate; refine wl_mapUpdate rfl _ _ _ _ rfl _ _ _ rfl rfl rfl ?_) | (at_lookup; refine wl_lookup rfl _ _ _ _ rfl _ _ rfl rfl ?_) | (at_delete; refine wl_delete rfl _ _ _ _ rfl _ _ rfl rfl ?_) | (with_reducible refine wl_len rfl _ _ rfl _ rfl ?_) | (with_reducible refine wl_range rfl _ _ rfl _ rfl ?_) | (with_reducible refine wl_next rfl _ rfl _ rfl ?_) | (with_reducible refine wl_copy rfl _ _ _ _ rfl _ _ rfl rfl ?_) | (with_reducible refine wl_max rfl _ _ _ _ rfl _ _ rfl rfl ?_) | (with_reducible refine wl_min rfl _ _ _ _ rfl _ _ rfl rfl ?_))
  refine rg_push _ 24 Try.underlying44 info_nm rfl (by decide) (x := (s, f)) rfl rfl (nm_one _) ho (by omega) (by decide) hk.size ?_
  intro v' w2 ho2 hk2 _
  go_wp2_with (first | (at_builtin; refine wl_append rfl _ _ _ _ rfl _ _ rfl rfl ?_) | (at_make; refine wl_make rfl _ _ _ rfl _ _ rfl rfl ?_) | (at_mapUpdate; refine wl_mapUpdate rfl _ _ _ _ rfl _ _ _ rfl rfl rfl ?_) | (at_lookup; refine wl_lookup rfl _ _ _ _ rfl _ _ rfl rfl ?_) | (at_delete; refine wl_delete rfl _ _ _ _ rfl _ _ rfl rfl ?_) | (with_reducible refine wl_len rfl _ _ rfl _ rfl ?_) | (with_reducible refine wl_range rfl _ _ rfl _ rfl ?_) | (with_reducible refine wl_next rfl _ rfl _ rfl ?_) | (with_reducible refine wl_copy rfl _ _ _ _ rfl _ _ rfl rfl ?_) | (with_reducible refine wl_max rfl _ _ _ _ rfl _ _ rfl rfl ?_) | (with_reducible refine wl_min rfl _ _ _ _ rfl _ _ rfl rfl ?_))
  go_ret
  exact ⟨_, rfl, ho2, hk.own ho hk2⟩

def opV (o : Dk.Op) : Value := .agg #[.int .i64 o.kind, .int .i64 o.file, .int .i64 o.at_, .string ⟨o.b.toArray⟩, .string ⟨o.frm.toArray⟩, .string ⟨o.to.toArray⟩]
theorem fl_new {α : Type} {w w' w0 : World} {A : Nat → Prop} {e k : Nat} {enc : α → List Value} {v : Value} {l : List α} (h : FlO w' w.heap.size e k enc v l) (hs : w0.heap.size ≤ w.heap.size) : Fl (Plus A w0 w') w' k enc v l :=
  h.fl.mono fun j hj ha => .inr ⟨Nat.le_trans hs ha.1, hj⟩

set_option maxRecDepth 100000 in
set_option maxHeartbeats 1000000 in
theorem rnames_any {A : Nat → Prop} {w : World} {v : Value} {L : Names} (o : Dk.Op) (h : Fl A w 2 encNm v L) (hL : L.length ≤ 1000000) :
    Calls Try.prog 89 #[v, opV o] w fun e w' => ∃ v', e = .returned v' ∧ Fl (Plus A w w') w' 2 encNm v' (namesOp L o) ∧ Keep No w w' := by
  obtain ⟨kind, file, at_, b, frm, to⟩ := o
  have hB : Blk (w.alloc (.cells #[.int .i64 kind, .int .i64 file, .int .i64 at_, .string ⟨b.toArray⟩, .string ⟨frm.toArray⟩, .string ⟨to.toArray⟩] 108)) w.heap.size #[.int .i64 kind, .int .i64 file, .int .i64 at_, .string ⟨b.toArray⟩, .string ⟨frm.toArray⟩, .string ⟨to.toArray⟩] 108 := Blk.new _ _ _
  have hkW : Keep No w (w.alloc (.cells #[.int .i64 kind, .int .i64 file, .int .i64 at_, .string ⟨b.toArray⟩, .string ⟨frm.toArray⟩, .string ⟨to.toArray⟩] 108)) := (Keep.refl _ _).alloc _
  have h' := h.no hkW
  unfold opV
  simp only
  by_cases h2 : kind = 2
  · subst h2
    have e1 : namesOp L ⟨2, file, at_, b, frm, to⟩ = withN L to file := rfl
    rw [e1]
    go_enter Try.func89, Try.ntmps89
    go_wp2_with (first | (at_builtin; refine wl_append rfl _ _ _ _ rfl _ _ rfl rfl ?_) | (at_make; refine wl_make rfl _ _ _ rfl _ _ rfl rfl ?_) | (at_mapUpdate; refine wl_mapUpdate rfl _ _ _ _ rfl _ _ _ rfl rfl rfl ?_) | (at_lookup; refine wl_lookup rfl _ _ _ _ rfl _ _ rfl rfl ?_) | (at_delete; refine wl_delete rfl _ _ _ _ rfl _ _ rfl rfl ?_) | (with_reducible refine wl_len rfl _ _ rfl _ rfl ?_) | (with_reducible refine wl_range rfl _ _ rfl _ rfl ?_) | (with_reducible refine wl_next rfl _ rfl _ rfl ?_) | (with_reducible refine wl_copy rfl _ _ _ _ rfl _ _ rfl rfl ?_) | (with_reducible refine wl_max rfl _ _ _ _ rfl _ _ rfl rfl ?_) | (with_reducible refine wl_min rfl _ _ _ _ rfl _ _ rfl rfl ?_))
    refine (rwith_any to file h' hL).mono ?_
    rintro e w1 ⟨v1, rfl, ho, hk⟩
    go_wp2_with (first | (at_builtin; refine wl_append rfl _ _ _ _ rfl _ _ rfl rfl ?_) | (at_make; refine wl_make rfl _ _ _ rfl _ _ rfl rfl ?_) | (at_mapUpdate; refine wl_mapUpdate rfl _ _ _ _ rfl _ _ _ rfl rfl rfl ?_) | (at_lookup; refine wl_lookup rfl _ _ _ _ rfl _ _ rfl rfl ?_) | (at_delete; refine wl_delete rfl _ _ _ _ rfl _ _ rfl rfl ?_) | (with_reducible refine wl_len rfl _ _ rfl _ rfl ?_) | (with_reducible refine wl_range rfl _ _ rfl _ rfl ?_) | (with_reducible refine wl_next rfl _ rfl _ rfl ?_) | (with_reducible refine wl_copy rfl _ _ _ _ rfl _ _ rfl rfl ?_) | (with_reducible refine wl_max rfl _ _ _ _ rfl _ _ rfl rfl ?_) | (with_reducible refine wl_min rfl _ _ _ _ rfl _ _ rfl rfl ?_))
    go_ret
    exact ⟨_, rfl, fl_new ho hkW.size, hkW.trans' hk⟩
  by_cases h4 : kind = 4
  · subst h4
    have e1 : namesOp L ⟨4, file, at_, b, frm, to⟩ = without L frm := rfl
    rw [e1]
    go_enter Try.func89, Try.ntmps89
    go_wp2_with (first | (at_builtin; refine wl_append rfl _ _ _ _ rfl _ _ rfl rfl ?_) | (at_make; refine wl_make rfl _ _ _ rfl _ _ rfl rfl ?_) | (at_mapUpdate; refine wl_mapUpdate rfl _ _ _ _ rfl _ _ _ rfl rfl rfl ?_) | (at_lookup; refine wl_lookup rfl _ _ _ _ rfl _ _ rfl rfl ?_) | (at_delete; refine wl_delete rfl _ _ _ _ rfl _ _ rfl rfl ?_) | (with_reducible refine wl_len rfl _ _ rfl _ rfl ?_) | (with_reducible refine wl_range rfl _ _ rfl _ rfl ?_) | (with_reducible refine wl_next rfl _ rfl _ rfl ?_) | (with_reducible refine wl_copy rfl _ _ _ _ rfl _ _ rfl rfl ?_) | (with_reducible refine wl_max rfl _ _ _ _ rfl _ _ rfl rfl ?_) | (with_reducible refine wl_min rfl _ _ _ _ rfl _ _ rfl rfl ?_))
    refine (rwithout_any frm h' hL).mono ?_
    rintro e w1 ⟨v1, rfl, ho, hk⟩
    go_wp2_with (first | (at_builtin; refine wl_append rfl _ _ _ _ rfl _ _ rfl rfl ?_) | (at_make; refine wl_make rfl _ _ _ rfl _ _ rfl rfl ?_) | (at_mapUpdate; refine wl_mapUpdate rfl _ _ _ _ rfl _ _ _ rfl rfl rfl ?_) | (at_lookup; refine wl_lookup rfl _ _ _ _ rfl _ _ rfl rfl ?_) | (at_delete; refine wl_delete rfl _ _ _ _ rfl _ _ rfl rfl ?_) | (with_reducible refine wl_len rfl _ _ rfl _ rfl ?_) | (with_reducible refine wl_range rfl _ _ rfl _ rfl ?_) | (with_reducible refine wl_next rfl _ rfl _ rfl ?_) | (with_reducible refine wl_copy rfl _ _ _ _ rfl _ _ rfl rfl ?_) | (with_reducible refine wl_max rfl _ _ _ _ rfl _ _ rfl rfl ?_) | (with_reducible refine wl_min rfl _ _ _ _ rfl _ _ rfl rfl ?_))
    go_ret
    exact ⟨_, rfl, fl_new ho hkW.size, hkW.trans' hk⟩
  have b2 : ((kind : Int) == 2) = false := by simp; omega
  have b4 : ((kind : Int) == 4) = false := by simp; omega
  cases hf : find L frm with
  | none =>
    have e1 : namesOp L ⟨kind, file, at_, b, frm, to⟩ = L := by simp [namesOp, h2, h4, hf]
    have e2 : findZ L frm = -1 := by simp [findZ, hf]
    rw [e1]
    clear e1
    go_enter Try.func89, Try.ntmps89
    go_wp2_with (first | (at_builtin; refine wl_append rfl _ _ _ _ rfl _ _ rfl rfl ?_) | (at_make; refine wl_make rfl _ _ _ rfl _ _ rfl rfl ?_) | (at_mapUpdate; refine wl_mapUpdate rfl _ _ _ _ rfl _ _ _ rfl rfl rfl ?_) | (at_lookup; refine wl_lookup rfl _ _ _ _ rfl _ _ rfl rfl ?_) | (at_delete; refine wl_delete rfl _ _ _ _ rfl _ _ rfl rfl ?_) | (with_reducible refine wl_len rfl _ _ rfl _ rfl ?_) | (with_reducible refine wl_range rfl _ _ rfl _ rfl ?_) | (with_reducible refine wl_next rfl _ rfl _ rfl ?_) | (with_reducible refine wl_copy rfl _ _ _ _ rfl _ _ rfl rfl ?_) | (with_reducible refine wl_max rfl _ _ _ _ rfl _ _ rfl rfl ?_) | (with_reducible refine wl_min rfl _ _ _ _ rfl _ _ rfl rfl ?_))
    refine (rfind_any frm h').mono ?_
    rintro e w1 ⟨rfl, rfl⟩
    rw [e2]
    go_wp2_with (first | (at_builtin; refine wl_append rfl _ _ _ _ rfl _ _ rfl rfl ?_) | (at_make; refine wl_make rfl _ _ _ rfl _ _ rfl rfl ?_) | (at_mapUpdate; refine wl_mapUpdate rfl _ _ _ _ rfl _ _ _ rfl rfl rfl ?_) | (at_lookup; refine wl_lookup rfl _ _ _ _ rfl _ _ rfl rfl ?_) | (at_delete; refine wl_delete rfl _ _ _ _ rfl _ _ rfl rfl ?_) | (with_reducible refine wl_len rfl _ _ rfl _ rfl ?_) | (with_reducible refine wl_range rfl _ _ rfl _ rfl ?_) | (with_reducible refine wl_next rfl _ rfl _ rfl ?_) | (with_reducible refine wl_copy rfl _ _ _ _ rfl _ _ rfl rfl ?_) | (with_reducible refine wl_max rfl _ _ _ _ rfl _ _ rfl rfl ?_) | (with_reducible refine wl_min rfl _ _ _ _ rfl _ _ rfl rfl ?_))
    obtain ⟨a, c, rfl, _, _⟩ := h.shape
    go_ret
    exact ⟨_, rfl, h'.mono fun j _ ha => .inl ha, hkW⟩
  | some f =>
    have e1 : namesOp L ⟨kind, file, at_, b, frm, to⟩ = withN (without L frm) to f := by simp [namesOp, h2, h4, hf]
    have e2 : findZ L frm = (f : Int) := by simp [findZ, hf]
    rw [e1]
    clear e1
    have c4 := hB.cell 4
    have c5 := hB.cell 5
    simp only [List.getElem?_toArray, List.getElem?_cons_succ, List.getElem?_cons_zero] at c4 c5
    have hlen := without_len L frm
    go_enter Try.func89, Try.ntmps89
    go_wp2_with (first | (at_builtin; refine wl_append rfl _ _ _ _ rfl _ _ rfl rfl ?_) | (at_make; refine wl_make rfl _ _ _ rfl _ _ rfl rfl ?_) | (at_mapUpdate; refine wl_mapUpdate rfl _ _ _ _ rfl _ _ _ rfl rfl rfl ?_) | (at_lookup; refine wl_lookup rfl _ _ _ _ rfl _ _ rfl rfl ?_) | (at_delete; refine wl_delete rfl _ _ _ _ rfl _ _ rfl rfl ?_) | (with_reducible refine wl_len rfl _ _ rfl _ rfl ?_) | (with_reducible refine wl_range rfl _ _ rfl _ rfl ?_) | (with_reducible refine wl_next rfl _ rfl _ rfl ?_) | (with_reducible refine wl_copy rfl _ _ _ _ rfl _ _ rfl rfl ?_) | (with_reducible refine wl_max rfl _ _ _ _ rfl _ _ rfl rfl ?_) | (with_reducible refine wl_min rfl _ _ _ _ rfl _ _ rfl rfl ?_))
    refine (rfind_any frm h').mono ?_
    rintro e w1 ⟨rfl, rfl⟩
    rw [e2]
    go_wp2_with (first | (at_builtin; refine wl_append rfl _ _ _ _ rfl _ _ rfl rfl ?_) | (at_make; refine wl_make rfl _ _ _ rfl _ _ rfl rfl ?_) | (at_mapUpdate; refine wl_mapUpdate rfl _ _ _ _ rfl _ _ _ rfl rfl rfl ?_) | (at_lookup; refine wl_lookup rfl _ _ _ _ rfl _ _ rfl rfl ?_) | (at_delete; refine wl_delete rfl _ _ _ _ rfl _ _ rfl rfl ?_) | (with_reducible refine wl_len rfl _ _ rfl _ rfl ?_) | (with_reducible refine wl_range rfl _ _ rfl _ rfl ?_) | (with_reducible refine wl_next rfl _ rfl _ rfl ?_) | (with_reducible refine wl_copy rfl _ _ _ _ rfl _ _ rfl rfl ?_) | (with_reducible refine wl_max rfl _ _ _ _ rfl _ _ rfl rfl ?_) | (with_reducible refine wl_min rfl _ _ _ _ rfl _ _ rfl rfl ?_))
    generalize w.alloc (.cells #[.int .i64 kind, .int .i64 file, .int .i64 at_, .string ⟨b.toArray⟩, .string ⟨frm.toArray⟩, .string ⟨to.toArray⟩] 108) = W at *
    have hWl := hB.lt
    refine wp_region_sig (fun w' => w'.cell? ⟨w.heap.size, 4, none⟩ = some (.string ⟨frm.toArray⟩) ∧ w'.cell? ⟨w.heap.size, 5, none⟩ = some (.string ⟨to.toArray⟩)) (fun j => decide (j ≤ 99)) [(0, true), (1, true), (2, true), (4, true), (5, true), (6, true), (3, false), (7, false), (8, false)] (by kernel_rfl) (by kernel_rfl) (by intro c a d v w h; cases d <;> exact h) ⟨c4, c5⟩ ?_
    apply sig_still (o := ⟨some 29, _, _, _, _, _⟩) rfl rfl
    · intro w' hS
      obtain ⟨q1, q2⟩ := hS
      first | (go_simp; done) | (go_simp; rfl) | rfl
    go_frame
    apply sig_still (o := ⟨some 30, _, _, _, _, _⟩) rfl rfl
    · intro w' hS
      obtain ⟨q1, q2⟩ := hS
      first | (go_simp; done) | (go_simp; rfl) | rfl
    go_frame
    apply sig_still (o := ⟨some 31, _, _, _, _, _⟩) rfl rfl
    · intro w' hS
      obtain ⟨q1, q2⟩ := hS
      first | (go_simp; done) | (go_simp; rfl) | rfl
    go_frame
    apply sig_still (o := ⟨some 33, _, _, _, _, _⟩) rfl rfl
    · intro w' hS
      obtain ⟨q1, q2⟩ := hS
      first | (go_simp; done) | (go_simp; rfl) | rfl
    go_frame
    apply sig_still (o := ⟨some 34, _, _, _, _, _⟩) rfl rfl
    · intro w' hS
      obtain ⟨q1, q2⟩ := hS
      first | (go_simp; done) | (go_simp; rfl) | rfl
    go_frame
    apply sig_still (o := ⟨some 35, _, _, _, _, _⟩) rfl rfl
    · intro w' hS
      obtain ⟨q1, q2⟩ := hS
      first | (go_simp; done) | (go_simp; rfl) | rfl
    go_frame
    refine sig_eff (o := ⟨some 32, _, _, _, _, _⟩) rfl rfl (fun K hKe => ?_)
    go_wp2_with (first | (at_builtin; refine wl_append rfl _ _ _ _ rfl _ _ rfl rfl ?_) | (at_make; refine wl_make rfl _ _ _ rfl _ _ rfl rfl ?_) | (at_mapUpdate; refine wl_mapUpdate rfl _ _ _ _ rfl _ _ _ rfl rfl rfl ?_) | (at_lookup; refine wl_lookup rfl _ _ _ _ rfl _ _ rfl rfl ?_) | (at_delete; refine wl_delete rfl _ _ _ _ rfl _ _ rfl rfl ?_) | (with_reducible refine wl_len rfl _ _ rfl _ rfl ?_) | (with_reducible refine wl_range rfl _ _ rfl _ rfl ?_) | (with_reducible refine wl_next rfl _ rfl _ rfl ?_) | (with_reducible refine wl_copy rfl _ _ _ _ rfl _ _ rfl rfl ?_) | (with_reducible refine wl_max rfl _ _ _ _ rfl _ _ rfl rfl ?_) | (with_reducible refine wl_min rfl _ _ _ _ rfl _ _ rfl rfl ?_))
    refine (rwithout_any frm (by exact h') hL).mono ?_
    rintro e w1 ⟨v1, rfl, ho, hk⟩
    replace ho : FlO w1 W.heap.size 101 2 encNm v1 (without L frm) := ho
    replace hk : Keep No W w1 := ⟨hk.os, hk.tape, hk.output, hk.size, hk.block⟩
    have r4 : w1.cell? ⟨w.heap.size, 4, none⟩ = _ := (hk.cell (p := ⟨w.heap.size, 4, none⟩) hWl (fun h => h)).trans c4
    have r5 : w1.cell? ⟨w.heap.size, 5, none⟩ = _ := (hk.cell (p := ⟨w.heap.size, 5, none⟩) hWl (fun h => h)).trans c5
    go_wp2_with (first | (at_builtin; refine wl_append rfl _ _ _ _ rfl _ _ rfl rfl ?_) | (at_make; refine wl_make rfl _ _ _ rfl _ _ rfl rfl ?_) | (at_mapUpdate; refine wl_mapUpdate rfl _ _ _ _ rfl _ _ _ rfl rfl rfl ?_) | (at_lookup; refine wl_lookup rfl _ _ _ _ rfl _ _ rfl rfl ?_) | (at_delete; refine wl_delete rfl _ _ _ _ rfl _ _ rfl rfl ?_) | (with_reducible refine wl_len rfl _ _ rfl _ rfl ?_) | (with_reducible refine wl_range rfl _ _ rfl _ rfl ?_) | (with_reducible refine wl_next rfl _ rfl _ rfl ?_) | (with_reducible refine wl_copy rfl _ _ _ _ rfl _ _ rfl rfl ?_) | (with_reducible refine wl_max rfl _ _ _ _ rfl _ _ rfl rfl ?_) | (with_reducible refine wl_min rfl _ _ _ _ rfl _ _ rfl rfl ?_))
    refine ⟨fun _ => ⟨r4, r5⟩, ?_⟩
    refine sig_eff (o := ⟨some 36, _, _, _, _, _⟩) rfl rfl (fun K hKe => ?_)
    go_wp2_with (first | (at_builtin; refine wl_append rfl _ _ _ _ rfl _ _ rfl rfl ?_) | (at_make; refine wl_make rfl _ _ _ rfl _ _ rfl rfl ?_) | (at_mapUpdate; refine wl_mapUpdate rfl _ _ _ _ rfl _ _ _ rfl rfl rfl ?_) | (at_lookup; refine wl_lookup rfl _ _ _ _ rfl _ _ rfl rfl ?_) | (at_delete; refine wl_delete rfl _ _ _ _ rfl _ _ rfl rfl ?_) | (with_reducible refine wl_len rfl _ _ rfl _ rfl ?_) | (with_reducible refine wl_range rfl _ _ rfl _ rfl ?_) | (with_reducible refine wl_next rfl _ rfl _ rfl ?_) | (with_reducible refine wl_copy rfl _ _ _ _ rfl _ _ rfl rfl ?_) | (with_reducible refine wl_max rfl _ _ _ _ rfl _ _ rfl rfl ?_) | (with_reducible refine wl_min rfl _ _ _ _ rfl _ _ rfl rfl ?_))
    refine (rwith_any to f ho.fl (by omega)).mono ?_
    rintro e w2 ⟨v2, rfl, ho2, hk2⟩
    have hw1 : w.heap.size < w1.heap.size := Nat.lt_of_lt_of_le hWl hk.size
    have s4 : w2.cell? ⟨w.heap.size, 4, none⟩ = _ := (hk2.cell (p := ⟨w.heap.size, 4, none⟩) hw1 (fun h => h)).trans r4
    have s5 : w2.cell? ⟨w.heap.size, 5, none⟩ = _ := (hk2.cell (p := ⟨w.heap.size, 5, none⟩) hw1 (fun h => h)).trans r5
    go_wp2_with (first | (at_builtin; refine wl_append rfl _ _ _ _ rfl _ _ rfl rfl ?_) | (at_make; refine wl_make rfl _ _ _ rfl _ _ rfl rfl ?_) | (at_mapUpdate; refine wl_mapUpdate rfl _ _ _ _ rfl _ _ _ rfl rfl rfl ?_) | (at_lookup; refine wl_lookup rfl _ _ _ _ rfl _ _ rfl rfl ?_) | (at_delete; refine wl_delete rfl _ _ _ _ rfl _ _ rfl rfl ?_) | (with_reducible refine wl_len rfl _ _ rfl _ rfl ?_) | (with_reducible refine wl_range rfl _ _ rfl _ rfl ?_) | (with_reducible refine wl_next rfl _ rfl _ rfl ?_) | (with_reducible refine wl_copy rfl _ _ _ _ rfl _ _ rfl rfl ?_) | (with_reducible refine wl_max rfl _ _ _ _ rfl _ _ rfl rfl ?_) | (with_reducible refine wl_min rfl _ _ _ _ rfl _ _ rfl rfl ?_))
    refine ⟨fun _ => ⟨s4, s5⟩, ?_⟩
    refine sig_eff (o := ⟨some 4, _, _, _, _, _⟩) rfl rfl (fun K hKe => ?_)
    go_wp2_with (first | (at_builtin; refine wl_append rfl _ _ _ _ rfl _ _ rfl rfl ?_) | (at_make; refine wl_make rfl _ _ _ rfl _ _ rfl rfl ?_) | (at_mapUpdate; refine wl_mapUpdate rfl _ _ _ _ rfl _ _ _ rfl rfl rfl ?_) | (at_lookup; refine wl_lookup rfl _ _ _ _ rfl _ _ rfl rfl ?_) | (at_delete; refine wl_delete rfl _ _ _ _ rfl _ _ rfl rfl ?_) | (with_reducible refine wl_len rfl _ _ rfl _ rfl ?_) | (with_reducible refine wl_range rfl _ _ rfl _ rfl ?_) | (with_reducible refine wl_next rfl _ rfl _ rfl ?_) | (with_reducible refine wl_copy rfl _ _ _ _ rfl _ _ rfl rfl ?_) | (with_reducible refine wl_max rfl _ _ _ _ rfl _ _ rfl rfl ?_) | (with_reducible refine wl_min rfl _ _ _ _ rfl _ _ rfl rfl ?_))
    refine ⟨fun _ => ⟨s4, s5⟩, sig_nil ?_⟩
    go_wp2_with (first | (at_builtin; refine wl_append rfl _ _ _ _ rfl _ _ rfl rfl ?_) | (at_make; refine wl_make rfl _ _ _ rfl _ _ rfl rfl ?_) | (at_mapUpdate; refine wl_mapUpdate rfl _ _ _ _ rfl _ _ _ rfl rfl rfl ?_) | (at_lookup; refine wl_lookup rfl _ _ _ _ rfl _ _ rfl rfl ?_) | (at_delete; refine wl_delete rfl _ _ _ _ rfl _ _ rfl rfl ?_) | (with_reducible refine wl_len rfl _ _ rfl _ rfl ?_) | (with_reducible refine wl_range rfl _ _ rfl _ rfl ?_) | (with_reducible refine wl_next rfl _ rfl _ rfl ?_) | (with_reducible refine wl_copy rfl _ _ _ _ rfl _ _ rfl rfl ?_) | (with_reducible refine wl_max rfl _ _ _ _ rfl _ _ rfl rfl ?_) | (with_reducible refine wl_min rfl _ _ _ _ rfl _ _ rfl rfl ?_))
    go_ret
    exact ⟨_, rfl, fl_new ho2 (Nat.le_trans hkW.size hk.size), (hkW.trans' hk).trans' hk2⟩
end Go.Proofs.Ytkmoomgmmhmaeaa
namespace Go.Proofs.Ytkmoomgmmhmaeaa
open Go.RowKit Go.Dm Go.Dm.Dk

theorem encS_map (l : List (List UInt8)) : l.flatMap encS = l.map fun s => .string ⟨s.toArray⟩ := List.map_eq_flatMap.symm

set_option maxRecDepth 100000 in
set_option maxHeartbeats 1000000 in
theorem rput_any {A : Nat → Prop} {w : World} {v : Value} {l : List (List UInt8)} (i : Nat) (s : List UInt8) (h : Fl A w 1 encS v l) (hl : l.length ≤ 1000000) (hi : i < l.length) :
    Calls Try.prog 87 #[v, .int .i64 (i : Int), .string ⟨s.toArray⟩] w fun e w' => ∃ v', e = .returned v' ∧ FlO w' w.heap.size 9 1 encS v' (putF l i s) ∧ Keep No w w' := by
  obtain ⟨a, c, rfl, hc, hm⟩ := h.shape
  go_enter Try.func87, Try.ntmps87
  go_wp2_with (first | (at_builtin; refine wl_append rfl _ _ _ _ rfl _ _ rfl rfl ?_) | (at_make; refine wl_make rfl _ _ _ rfl _ _ rfl rfl ?_) | (at_mapUpdate; refine wl_mapUpdate rfl _ _ _ _ rfl _ _ _ rfl rfl rfl ?_) | (at_lookup; refine wl_lookup rfl _ _ _ _ rfl _ _ rfl rfl ?_) | (at_delete; refine wl_delete rfl _ _ _ _ rfl _ _ rfl rfl ?_) | (with_reducible refine wl_len rfl _ _ rfl _ rfl ?_) | (with_reducible refine wl_range rfl _ _ rfl _ rfl ?_) | (with_reducible refine wl_next rfl _ rfl _ rfl ?_) | (with_reducible refine wl_copy rfl _ _ _ _ rfl _ _ rfl rfl ?_) | (with_reducible refine wl_max rfl _ _ _ _ rfl _ _ rfl rfl ?_) | (with_reducible refine wl_min rfl _ _ _ _ rfl _ _ rfl rfl ?_))
  refine rg_cat _ 16 Try.underlying35 info_str rfl (by decide) h (fun x => s_one x) (FlO.nil (base := w.heap.size)) (by simpa using Nat.le_trans hl (by decide)) (by decide) (Nat.le_refl _) ?_
  intro v' w1 ho hk _
  rw [List.nil_append] at ho
  replace hk : Keep No w w1 := hk.mono fun j _ h => by cases h
  obtain ⟨g, cap, rfl⟩ : ∃ g cap, v' = .slice (some ⟨g, 0, none⟩) l.length cap := by
    rcases ho.2 with ⟨_, h⟩ | ⟨g, cap, _, e, _⟩
    · omega
    · exact ⟨g, cap, e⟩
  have ho' : w1.ownsRow w.heap.size 9 1 (.slice (some ⟨g, 0, none⟩) l.length cap) l.length (l.flatMap encS) := ho
  have f1 := ho'.frozenAt i
  have hst := (ho'.stored i (.string ⟨s.toArray⟩)).1
  have c1 := ho'.cellAt i (by omega)
  rw [encS_map, List.getElem?_map, List.getElem?_eq_getElem hi, Option.map_some] at c1
  go_wp2_with (first | (at_builtin; refine wl_append rfl _ _ _ _ rfl _ _ rfl rfl ?_) | (at_make; refine wl_make rfl _ _ _ rfl _ _ rfl rfl ?_) | (at_mapUpdate; refine wl_mapUpdate rfl _ _ _ _ rfl _ _ _ rfl rfl rfl ?_) | (at_lookup; refine wl_lookup rfl _ _ _ _ rfl _ _ rfl rfl ?_) | (at_delete; refine wl_delete rfl _ _ _ _ rfl _ _ rfl rfl ?_) | (with_reducible refine wl_len rfl _ _ rfl _ rfl ?_) | (with_reducible refine wl_range rfl _ _ rfl _ rfl ?_) | (with_reducible refine wl_next rfl _ rfl _ rfl ?_) | (with_reducible refine wl_copy rfl _ _ _ _ rfl _ _ rfl rfl ?_) | (with_reducible refine wl_max rfl _ _ _ _ rfl _ _ rfl rfl ?_) | (with_reducible refine wl_min rfl _ _ _ _ rfl _ _ rfl rfl ?_))
  go_ret
  refine ⟨_, rfl, ?_, hk.setCell (p := ⟨g, i, none⟩) (fun h => absurd (ho'.lt g rfl).1 (Nat.not_le.2 h)) _⟩
  unfold FlO putF
  rw [List.length_set]
  rw [encS_map, ← List.map_set, ← encS_map] at hst
  exact hst

theorem used_step {L : Names} (is : List (List UInt8)) {k : Nat} (hk : k < L.length) : ((L.take (k + 1)).map fun p => fileLen is p.2).sum = ((L.take k).map fun p => fileLen is p.2).sum + fileLen is L[k].2 := by
  rw [List.take_succ_eq_append_getElem hk, List.map_append, List.sum_append]; simp only [List.map_cons, List.map_nil, List.sum_cons, List.sum_nil, Nat.add_zero]
theorem used_take {L : Names} (is : List (List UInt8)) {N : Nat} (h : ∀ f, fileLen is f ≤ N) : ∀ k, ((L.take k).map fun p => fileLen is p.2).sum ≤ k * N
  | 0 => by simp
  | k + 1 => by
    have ih := used_take (L := L) is h k
    rcases Nat.lt_or_ge k L.length with hk | hk
    · rw [used_step is hk, Nat.succ_mul]; have := h L[k].2; omega
    · rw [List.take_of_length_le (by omega)]; rw [List.take_of_length_le hk] at ih; rw [Nat.succ_mul]; omega

def dv (m : M) (v1 v2 v3 v4 v5 : Value) : Value := .agg #[.int .i64 m.room, v1, v2, v3, v4, v5, .bool m.off, .int .i64 m.cut]
structure DV (A : Nat → Prop) (w : World) (v1 v2 v3 v4 v5 : Value) (m : M) : Prop where
  is : Fl A w 1 encS v1 m.is
  sure : Fl A w 1 encS v2 m.sure
  L : Fl A w 2 encNm v3 m.L
  S : Fl A w 2 encNm v4 m.S
  W : Fl A w 6 encOp v5 m.wait
/-- files that are named are there -/
structure Files (m : M) (n : Nat) : Prop where
  L : ∀ p ∈ m.L, p.2 < m.is.length
  S : ∀ p ∈ m.S, p.2 < m.is.length
  W : ∀ o ∈ m.wait, o.kind = 1 ∨ o.kind = 2 → o.file < m.is.length
  ln : m.sure.length = m.is.length
  il : m.is.length ≤ n

set_option maxRecDepth 100000 in
set_option maxHeartbeats 1000000 in
theorem rused_any {A : Nat → Prop} {w : World} {v1 v2 v3 v4 v5 : Value} {m : M} {n N n2 : Nat} (h : DV A w v1 v2 v3 v4 v5 m) (hs : Small m n N) (hf : Files m n2) (hn : n ≤ 100000) (hN : N ≤ 1000000) :
    Calls Try.prog 64 #[dv m v1 v2 v3 v4 v5] w fun e w' => e = .returned (.int .i64 (used m)) ∧ Keep No w w' := by
  obtain ⟨a1, c1, rfl, hc1, hm1⟩ := h.is.shape
  obtain ⟨a3, c3, rfl, hc3, hm3⟩ := h.L.shape
  have hN2 : ∀ f, fileLen m.is f ≤ N := hs.is
  have hLn := hs.L
  unfold dv
  go_enter Try.func64, Try.ntmps64
  go_wp2_with (first | (at_builtin; refine wl_append rfl _ _ _ _ rfl _ _ rfl rfl ?_) | (at_make; refine wl_make rfl _ _ _ rfl _ _ rfl rfl ?_) | (at_mapUpdate; refine wl_mapUpdate rfl _ _ _ _ rfl _ _ _ rfl rfl rfl ?_) | (at_lookup; refine wl_lookup rfl _ _ _ _ rfl _ _ rfl rfl ?_) | (at_delete; refine wl_delete rfl _ _ _ _ rfl _ _ rfl rfl ?_) | (with_reducible refine wl_len rfl _ _ rfl _ rfl ?_) | (with_reducible refine wl_range rfl _ _ rfl _ rfl ?_) | (with_reducible refine wl_next rfl _ rfl _ rfl ?_) | (with_reducible refine wl_copy rfl _ _ _ _ rfl _ _ rfl rfl ?_) | (with_reducible refine wl_max rfl _ _ _ _ rfl _ _ rfl rfl ?_) | (with_reducible refine wl_min rfl _ _ _ _ rfl _ _ rfl rfl ?_))
  have hkW : Keep No w (w.alloc (.cells #[.int .i64 m.room, .slice a1 m.is.length c1, v2, .slice a3 m.L.length c3, v4, v5, .bool m.off, .int .i64 m.cut] 47)) := (Keep.refl _ _).alloc _
  have hB : Blk (w.alloc (.cells #[.int .i64 m.room, .slice a1 m.is.length c1, v2, .slice a3 m.L.length c3, v4, v5, .bool m.off, .int .i64 m.cut] 47)) w.heap.size #[.int .i64 m.room, .slice a1 m.is.length c1, v2, .slice a3 m.L.length c3, v4, v5, .bool m.off, .int .i64 m.cut] 47 := Blk.new _ _ _
  generalize w.alloc (.cells #[.int .i64 m.room, .slice a1 m.is.length c1, v2, .slice a3 m.L.length c3, v4, v5, .bool m.off, .int .i64 m.cut] 47) = W at *
  have q1 := hB.cell 1
  have q3 := hB.cell 3
  simp only [List.getElem?_toArray, List.getElem?_cons_succ, List.getElem?_cons_zero] at q1 q3
  have hWl := hB.lt
  go_loopw [3, 4] (fun nv iv wr => ∃ (k : Nat), iv = .int .i64 k ∧ k ≤ m.L.length ∧ nv = .int .i64 ((((m.L.take k).map fun p => fileLen m.is p.2).sum : Nat) : Int) ∧ Keep No W wr) (fun _ iv _ => m.L.length - (intOf iv).toNat)
  case atStart => exact ⟨0, rfl, Nat.zero_le _, rfl, Keep.refl _ _⟩
  case round =>
    obtain ⟨k, rfl, hk, rfl, hK⟩ := hrel
    have r1 : wr.cell? ⟨w.heap.size, 1, none⟩ = _ := (hK.cell (p := ⟨w.heap.size, 1, none⟩) hWl (fun h => h)).trans q1
    have r3 : wr.cell? ⟨w.heap.size, 3, none⟩ = _ := (hK.cell (p := ⟨w.heap.size, 3, none⟩) hWl (fun h => h)).trans q3
    rcases Nat.lt_or_ge k m.L.length with hkl | hkl
    · obtain ⟨g, off, cap, e, _, hg, _, _, hcell⟩ := (h.L.no (hkW.trans' hK)).at (fun _ => rfl) hkl
      cases e
      have hfl := hf.L _ (List.getElem_mem hkl)
      have x1 := hcell 1 _ rfl
      obtain ⟨g2, off2, cap2, e, _, hg2, _, _, hcell2⟩ := (h.is.no (hkW.trans' hK)).at (fun _ => rfl) hfl
      cases e
      have x2 := hcell2 0 _ rfl
      simp only [Nat.mul_one, Nat.add_zero] at x2
      have hst := used_step m.is hkl
      have hb := used_take (L := m.L) m.is hN2 k
      have hfe : fileLen m.is m.L[k].2 = m.is[m.L[k].2].length := by unfold fileLen; rw [List.getD_eq_getElem?_getD, List.getElem?_eq_getElem hfl, Option.getD_some]
      have hfN := hN2 m.L[k].2
      have hkN : k * N ≤ 100000 * 1000000 := Nat.mul_le_mul (by omega) hN
      rw [hfe] at hst hfN
      have HS := Lib.hid hst
      clear hcell hcell2 hst hfe hN2
      generalize ((m.L.take k).map fun p => fileLen m.is p.2).sum = U at *
      generalize m.is[m.L[k].2] = S at *
      generalize m.L[k].2 = F at *
      have hkl' : (k : Int) < (m.L.length : Int) := by omega
      have hfl' : (F : Int) < (m.is.length : Int) := by omega
      go_wp2_with (first | (at_builtin; refine wl_append rfl _ _ _ _ rfl _ _ rfl rfl ?_) | (at_make; refine wl_make rfl _ _ _ rfl _ _ rfl rfl ?_) | (at_mapUpdate; refine wl_mapUpdate rfl _ _ _ _ rfl _ _ _ rfl rfl rfl ?_) | (at_lookup; refine wl_lookup rfl _ _ _ _ rfl _ _ rfl rfl ?_) | (at_delete; refine wl_delete rfl _ _ _ _ rfl _ _ rfl rfl ?_) | (with_reducible refine wl_len rfl _ _ rfl _ rfl ?_) | (with_reducible refine wl_range rfl _ _ rfl _ rfl ?_) | (with_reducible refine wl_next rfl _ rfl _ rfl ?_) | (with_reducible refine wl_copy rfl _ _ _ _ rfl _ _ rfl rfl ?_) | (with_reducible refine wl_max rfl _ _ _ _ rfl _ _ rfl rfl ?_) | (with_reducible refine wl_min rfl _ _ _ _ rfl _ _ rfl rfl ?_))
      go_quiet (fail)
      go_wp2_with (first | (at_builtin; refine wl_append rfl _ _ _ _ rfl _ _ rfl rfl ?_) | (at_make; refine wl_make rfl _ _ _ rfl _ _ rfl rfl ?_) | (at_mapUpdate; refine wl_mapUpdate rfl _ _ _ _ rfl _ _ _ rfl rfl rfl ?_) | (at_lookup; refine wl_lookup rfl _ _ _ _ rfl _ _ rfl rfl ?_) | (at_delete; refine wl_delete rfl _ _ _ _ rfl _ _ rfl rfl ?_) | (with_reducible refine wl_len rfl _ _ rfl _ rfl ?_) | (with_reducible refine wl_range rfl _ _ rfl _ rfl ?_) | (with_reducible refine wl_next rfl _ rfl _ rfl ?_) | (with_reducible refine wl_copy rfl _ _ _ _ rfl _ _ rfl rfl ?_) | (with_reducible refine wl_max rfl _ _ _ _ rfl _ _ rfl rfl ?_) | (with_reducible refine wl_min rfl _ _ _ _ rfl _ _ rfl rfl ?_))
      go_roundw
      case rel => exact ⟨k + 1, by go_num, by omega, by rw [HS.out]; go_num, hK.drewN _⟩
      case measure => simp [intOf]; omega
    · obtain rfl : k = m.L.length := by omega
      go_wp2_with (first | (at_builtin; refine wl_append rfl _ _ _ _ rfl _ _ rfl rfl ?_) | (at_make; refine wl_make rfl _ _ _ rfl _ _ rfl rfl ?_) | (at_mapUpdate; refine wl_mapUpdate rfl _ _ _ _ rfl _ _ _ rfl rfl rfl ?_) | (at_lookup; refine wl_lookup rfl _ _ _ _ rfl _ _ rfl rfl ?_) | (at_delete; refine wl_delete rfl _ _ _ _ rfl _ _ rfl rfl ?_) | (with_reducible refine wl_len rfl _ _ rfl _ rfl ?_) | (with_reducible refine wl_range rfl _ _ rfl _ rfl ?_) | (with_reducible refine wl_next rfl _ rfl _ rfl ?_) | (with_reducible refine wl_copy rfl _ _ _ _ rfl _ _ rfl rfl ?_) | (with_reducible refine wl_max rfl _ _ _ _ rfl _ _ rfl rfl ?_) | (with_reducible refine wl_min rfl _ _ _ _ rfl _ _ rfl rfl ?_))
      go_ret
      exact ⟨by rw [List.take_length]; rfl, hkW.trans' hK⟩
end Go.Proofs.Ytkmoomgmmhmaeaa
