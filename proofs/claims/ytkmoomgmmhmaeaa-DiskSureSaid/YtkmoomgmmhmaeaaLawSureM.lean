/- DiskSure: the disk as lists: no program. No condition. -/
import Derived.Test.YtkmoomgmmhmaeaaLawRoomM
import Derived.Test.YtkmoomgmmhmaeaaLawDid
namespace Go.Dm.Dk

def mine : List UInt8 := [109, 105, 110, 101]
def OpOk (o : Op) : Prop := (o.kind = 1 → o.file ≠ 0) ∧ (o.kind = 2 → o.file ≠ 0) ∧ (o.kind ≠ 1 → o.frm ≠ mine ∧ o.to ≠ mine)
def Uniq (L : Names) : Prop := ∀ p ∈ L, p.2 = 0 → p.1 = mine
structure SureInv (m : M) (body : List UInt8) : Prop where
  fS : find m.S mine = some 0
  s0 : m.sure.getD 0 [] = body
  uS : Uniq m.S
  uL : Uniq m.L
  wt : ∀ o ∈ m.wait, OpOk o
  len : 0 < m.is.length
  ln : m.sure.length = m.is.length

theorem find_without {L : Names} {s t : List UInt8} (h : t ≠ s) : find (without L t) s = find L s := by
  unfold find without
  congr 1
  rw [List.find?_filter]
  congr 1
  funext p
  by_cases e : p.1 = s
  · subst e; simp [Ne.symm h]
  · simp [e]
theorem find_withN {L : Names} {s t : List UInt8} {i : Nat} (h : t ≠ s) : find (withN L t i) s = find L s := by
  unfold withN
  have h1 : find (without L t ++ [(t, i)]) s = find (without L t) s := by
    unfold find
    rw [List.find?_append]
    cases (without L t).find? (fun p => p.1 == s) with
    | some q => rfl
    | none => simp [h]
  rw [h1, find_without h]
theorem find_namesOp {L : Names} {o : Op} (h : o.frm ≠ mine ∧ o.to ≠ mine) : find (namesOp L o) mine = find L mine := by
  unfold namesOp
  split
  · exact find_withN h.2
  · split
    · exact find_without h.1
    · split
      · rfl
      · rw [find_withN h.2, find_without h.1]
theorem uniq_without {L : Names} (h : Uniq L) (s : List UInt8) : Uniq (without L s) := fun p hp => h p (List.mem_filter.1 hp).1
theorem uniq_withN {L : Names} (h : Uniq L) {s : List UInt8} {i : Nat} (hi : i ≠ 0) : Uniq (withN L s i) := by
  intro p hp
  rcases List.mem_append.1 hp with hp | hp
  · exact uniq_without h s p hp
  · simp only [List.mem_singleton] at hp; subst hp; exact fun e => absurd e hi
theorem uniq_namesOp {L : Names} {o : Op} (h : Uniq L) (ho : OpOk o) (hk : o.kind ≠ 1) : Uniq (namesOp L o) := by
  unfold namesOp
  split
  · rename_i e; exact uniq_withN h (ho.2.1 e)
  · split
    · exact uniq_without h _
    · split
      · exact h
      · rename_i f hf
        exact uniq_withN (uniq_without h _) fun e => (ho.2.2 hk).1 (h _ (find_some_mem hf) e)

theorem wt_snoc {l : List Op} {o : Op} (h : ∀ o ∈ l, OpOk o) (ho : OpOk o) : ∀ p ∈ l ++ [o], OpOk p := by
  intro p hp
  rcases List.mem_append.1 hp with hp | hp
  · exact h p hp
  · simp only [List.mem_singleton] at hp; subst hp; exact ho
theorem SureInv.settle1 {m : M} {body : List UInt8} (h : SureInv m body) {o : Op} (ho : OpOk o) (sel : Bool) : SureInv (Dk.settle1 sel o m) body := by
  unfold Dk.settle1
  split
  · exact { h with wt := wt_snoc h.wt ho }
  · split
    · rename_i hk
      refine { h with s0 := ?_, ln := by simp only [putF, List.length_set]; exact h.ln }
      have hne := ho.1 hk
      show (putF m.sure o.file _).getD 0 [] = body
      rw [putF, List.getD_eq_getElem?_getD, List.getElem?_set_ne hne, ← List.getD_eq_getElem?_getD]
      exact h.s0
    · rename_i hk
      exact { h with fS := by show find (namesOp m.S o) mine = some 0; rw [find_namesOp (ho.2.2 hk)]; exact h.fS, uS := uniq_namesOp h.uS ho hk }
theorem SureInv.go {body : List UInt8} (sel : Nat → Bool) : ∀ (l : List Op) (i : Nat) (m : M), (∀ o ∈ l, OpOk o) → SureInv m body → SureInv (settleGo sel i l m) body
  | [], _, _, _, h => h
  | o :: r, i, m, hw, h => SureInv.go sel r (i + 1) _ (fun p hp => hw p (by simp [hp])) (h.settle1 (hw o (by simp)) (sel i))
theorem SureInv.settle {m : M} {body : List UInt8} (h : SureInv m body) (sel : Nat → Bool) : SureInv (Dk.settle m sel) body :=
  SureInv.go sel m.wait 0 { m with wait := [] } h.wt { h with wt := (fun o ho => by cases ho) }
theorem SureInv.crash {m : M} {body : List UInt8} (h : SureInv m body) (keep : List Bool) : SureInv (Dk.crash m keep) body := by
  have h1 := h.settle fun i => keep.getD i false
  exact ⟨h1.fS, h1.s0, h1.uS, h1.uS, (fun o ho => by cases ho), by have := h1.len; have := h1.ln; show 0 < (Dk.settle m fun i => keep.getD i false).sure.length; omega, rfl⟩
theorem SureInv.cutD {m : M} {body : List UInt8} (h : SureInv m body) (s : Int) : SureInv (Dk.cutD m s) body := by
  unfold Dk.cutD
  split
  · exact h
  · exact ⟨h.fS, h.s0, h.uS, h.uL, h.wt, h.len, h.ln⟩
theorem SureInv.waitN {m : M} {body : List UInt8} (h : SureInv m body) {o : Op} (ho : OpOk o) (hk : o.kind ≠ 1) : SureInv (waitD m o) body := by
  unfold waitD
  rw [if_neg hk]
  exact { h with uL := uniq_namesOp h.uL ho hk, wt := wt_snoc h.wt ho }
theorem SureInv.waitW {m : M} {body : List UInt8} (h : SureInv m body) {o : Op} (ho : OpOk o) (hk : o.kind = 1) : SureInv (waitD m o) body := by
  unfold waitD
  rw [if_pos hk]
  exact { h with len := by simp only [putF, List.length_set]; exact h.len, ln := by simp only [putF, List.length_set]; exact h.ln, wt := wt_snoc h.wt ho }
theorem SureInv.done {m : M} {body : List UInt8} (h : SureInv m body) {k : Nat} {a b : List UInt8} (at_ : Int) (bd : List UInt8) (ha : a ≠ mine) (hb : b ≠ mine) (hk : 1 ≤ k ∧ k ≤ 6) (hf : k = 2 → (find m.L a).isSome = true) : SureInv (Dk.done m k a b at_ bd) body := by
  have hn : ([] : List UInt8) ≠ mine := by decide
  have hk6 : k = 1 ∨ k = 2 ∨ k = 3 ∨ k = 4 ∨ k = 5 ∨ k = 6 := by omega
  rcases hk6 with rfl | rfl | rfl | rfl | rfl | rfl
  · refine SureInv.waitN (m := { m with is := m.is ++ [[]], sure := m.sure ++ [[]] }) { h with s0 := ?_, len := by simp, ln := by simp [h.ln] } ⟨(fun e => by cases e), (fun _ => by have := h.len; show m.is.length ≠ 0; omega), fun _ => ⟨hn, ha⟩⟩ (by simp)
    have hl : 0 < m.sure.length := by have := h.len; have := h.ln; omega
    show (m.sure ++ [[]]).getD 0 [] = body
    rw [List.getD_eq_getElem?_getD, List.getElem?_append_left hl, ← List.getD_eq_getElem?_getD]; exact h.s0
  · have hs := hf rfl
    cases hfd : find m.L a with
    | none => rw [hfd] at hs; cases hs
    | some f =>
      have hne : f ≠ 0 := fun e => ha (h.uL _ (find_some_mem hfd) e)
      show SureInv (waitD m ⟨1, (find m.L a).getD 0, at_.toNat, bd, [], []⟩) body
      rw [hfd]
      exact SureInv.waitW h ⟨fun _ => hne, (fun e => by cases e), fun e => absurd rfl e⟩ rfl
  · exact h.settle _
  · exact SureInv.waitN h ⟨(fun e => by cases e), (fun e => by cases e), fun _ => ⟨ha, hb⟩⟩ (by simp)
  · exact SureInv.waitN h ⟨(fun e => by cases e), (fun e => by cases e), fun _ => ⟨ha, hn⟩⟩ (by simp)
  · exact h.settle _
theorem SureInv.call {m : M} {body : List UInt8} (h : SureInv m body) {k : Nat} {a b : List UInt8} (at_ : Int) (bd : List UInt8) (ha : a ≠ mine) (hb : b ≠ mine) (hk : 1 ≤ k ∧ k ≤ 6) : SureInv (Dk.call m k a b at_ bd).1 body := by
  unfold Dk.call
  split
  · exact h
  · split
    · exact h
    · rename_i h0
      split
      · exact ⟨h.fS, h.s0, h.uS, h.uL, h.wt, h.len, h.ln⟩
      · refine SureInv.done (m := { m with cut := m.cut - 1 }) ⟨h.fS, h.s0, h.uS, h.uL, h.wt, h.len, h.ln⟩ at_ bd ha hb hk fun e => ?_
        subst e
        unfold own at h0
        simp only at h0
        cases hfd : find m.L a with
        | none => rw [hfd] at h0; simp at h0
        | some f => rfl
theorem SureInv.read {m : M} {body : List UInt8} (h : SureInv m body) (keep : List Bool) : readB (Dk.crash m keep) mine = body ∧ readE (Dk.crash m keep) mine = 0 := by
  have h1 := h.settle fun i => keep.getD i false
  have hf : find (Dk.crash m keep).L mine = some 0 := h1.fS
  have ho : (Dk.crash m keep).off = false := rfl
  constructor
  · simp only [readB, ho, hf]; exact h1.s0
  · simp [readE, ho, hf]

def ds1 : M := ⟨1048576, [[]], [[]], [(mine, 0)], [], [⟨2, 0, 0, [], [], mine⟩], false, 0⟩
def ds2 (b : List UInt8) : M := { ds1 with is := [b], wait := ds1.wait ++ [⟨1, 0, 0, b, [], []⟩] }
def ds3 (b : List UInt8) : M := ⟨1048576, [b], [b], [(mine, 0)], [], [⟨2, 0, 0, [], [], mine⟩], false, 0⟩
def ds4 (b : List UInt8) : M := ⟨1048576, [b], [b], [(mine, 0)], [(mine, 0)], [], false, 0⟩
theorem lay_nil (a : List UInt8) : laidB [] 0 a = a := by simp [laidB, splice]
theorem ds_1 : Dk.call (Dk.new 1048576) 1 mine [] 0 [] = (ds1, 0) := by kernel_rfl
theorem ds_f : find ds1.L mine = some 0 := by kernel_rfl
theorem ds_2 (b : List UInt8) (hb : b.length ≤ 500) : Dk.call ds1 2 mine [] 0 b = (ds2 b, 0) := by
  have hu : used ds1 = 0 := by kernel_rfl
  have hfl : fileLen ds1.is 0 = 0 := by kernel_rfl
  have hown : own ds1 2 mine [] 0 b = 0 := by
    simp only [own, ds_f, hfl, hu]
    rw [if_neg (by omega), if_neg (by simp [ds1]; omega)]
  have e : Dk.done { ds1 with cut := ds1.cut - 1 } 2 mine [] 0 b = ds2 b := by
    simp only [Dk.done, waitD]
    rw [show find ({ ds1 with cut := ds1.cut - 1 } : M).L mine = some 0 from ds_f]
    simp [ds1, ds2, putF, lay_nil]
  unfold Dk.call
  rw [hown]
  rw [if_neg (by decide), if_neg (by decide), if_neg (by decide), e]
theorem ds_3 (b : List UInt8) : Dk.call (ds2 b) 3 mine [] 0 [] = (ds3 b, 0) := by
  have e : Dk.call (ds2 b) 3 mine [] 0 [] = ({ ds3 b with sure := [laidB [] 0 b] }, 0) := by rfl
  rw [e, lay_nil]; rfl
theorem ds_4 (b : List UInt8) : Dk.call (ds3 b) 6 [] [] 0 [] = (ds4 b, 0) := by rfl
theorem ds_inv (b : List UInt8) : SureInv (ds4 b) b := ⟨by kernel_rfl, rfl, (fun p hp _ => by simp [ds4] at hp; rw [hp]), (fun p hp _ => by simp [ds4] at hp; rw [hp]), (fun o ho => by cases ho), by simp [ds4], rfl⟩
theorem nm_mine (i : Int) : Go.Proofs.Ytkmoomgmmhmaeaa.nm i ≠ mine := fun e => by
  have := Go.Proofs.Ytkmoomgmmhmaeaa.nm_len i
  rw [e] at this; simp [mine] at this
end Go.Dm.Dk
