/- The disk's contracts for a caller that owns all its memory. No condition. -/
import Derived.Test.YtkmoomgmmhmaeaaDiskB
namespace Go.Proofs.Ytkmoomgmmhmaeaa
open Go.RowKit Go.Dm Go.Dm.Dk Go.Maps

/-- a disk whose memory lies in P -/
def Own (P : Nat → Prop) (w : World) (d : Nat) (m : M) : Prop := DR (fun k => P k ∧ k < w.heap.size) w d m
theorem Own.of {P : Nat → Prop} {w w' : World} {d : Nat} {m : M} {A : Nat → Prop} (h : DR (Plus A w w') w' d m) (hA : ∀ k, A k → P k) (hP : ∀ k, w.heap.size ≤ k → P k) : Own P w' d m :=
  h.mono fun k hk ha => by
    rcases ha with ha | ha
    · exact ⟨hA k ha, hk⟩
    · exact ⟨hP k ha.1, hk⟩
theorem Own.same {P : Nat → Prop} {w w' : World} {d : Nat} {m : M} (h : Own P w d m) (hs : w.heap.size ≤ w'.heap.size) (e : ∀ k, k < w.heap.size → P k → w'.heap[k]? = w.heap[k]?) : Own P w' d m :=
  (DR.same h hs fun k hk => e k hk.2 hk.1).mono fun _ hk ha => ⟨ha.1, hk⟩
theorem Own.keep {P S : Nat → Prop} {w w' : World} {d : Nat} {m : M} (h : Own P w d m) (hk : Keep S w w') (hS : ∀ k, P k → ¬ S k) : Own P w' d m :=
  h.same hk.size fun k hl hp => hk.block k hl (hS k hp)

section
variable {P : Nat → Prop} {d n N : Nat} {m : M} {w : World}

theorem create_own (s : List UInt8) (h : Own P w d m) (hP : ∀ k, w.heap.size ≤ k → P k) (hm : Small m n N) (hn : n ≤ 100000) (hN : N ≤ 1000000) (hs : s.length ≤ 1000) :
    Calls Try.prog 11 #[ptrTo d, .string ⟨s.toArray⟩] w fun e w' => e = .returned (.int .i64 ((call m 1 s [] 0 []).2 : Nat)) ∧ Own P w' d (call m 1 s [] 0 []).1 ∧ Keep P w w' := by
  have hf := hm.fit hn hN
  refine (create_any s w h (fun k hk => hk.2) (by unfold maxLen; omega) hf.wl hf.ll hf.ct).mono ?_
  rintro e w' ⟨rfl, h2, hk⟩
  exact ⟨rfl, Own.of h2 (fun k hk => hk.1) hP, hk.mono fun k _ hk => hk.1⟩
theorem sync_own (s : List UInt8) (h : Own P w d m) (hP : ∀ k, w.heap.size ≤ k → P k) (hm : Small m n N) (hn : n ≤ 100000) (hN : N ≤ 1000000) (hs : s.length ≤ 1000) :
    Calls Try.prog 23 #[ptrTo d, .string ⟨s.toArray⟩] w fun e w' => e = .returned (.int .i64 ((call m 3 s [] 0 []).2 : Nat)) ∧ Own P w' d (call m 3 s [] 0 []).1 ∧ Keep P w w' := by
  refine (sync_any s w h (fun k hk => hk.2) (by unfold maxLen; omega) (hm.fitW hn hN) hm.ct).mono ?_
  rintro e w' ⟨rfl, h2, hk⟩
  exact ⟨rfl, Own.of h2 (fun k hk => hk.1) hP, hk.mono fun k _ hk => hk.1⟩
theorem rename_own (s t : List UInt8) (h : Own P w d m) (hP : ∀ k, w.heap.size ≤ k → P k) (hm : Small m n N) (hn : n ≤ 100000) (hN : N ≤ 1000000) (hs : s.length ≤ 1000) (ht : t.length ≤ 1000) :
    Calls Try.prog 21 #[ptrTo d, .string ⟨s.toArray⟩, .string ⟨t.toArray⟩] w fun e w' => e = .returned (.int .i64 ((call m 4 s t 0 []).2 : Nat)) ∧ Own P w' d (call m 4 s t 0 []).1 ∧ Keep P w w' := by
  have hf := hm.fit hn hN
  refine (rename_any s t w h (fun k hk => hk.2) (by unfold maxLen; omega) (by unfold maxLen; omega) hf.wl hf.ll hf.ct).mono ?_
  rintro e w' ⟨rfl, h2, hk⟩
  exact ⟨rfl, Own.of h2 (fun k hk => hk.1) hP, hk.mono fun k _ hk => hk.1⟩
theorem remove_own (s : List UInt8) (h : Own P w d m) (hP : ∀ k, w.heap.size ≤ k → P k) (hm : Small m n N) (hn : n ≤ 100000) (hN : N ≤ 1000000) (hs : s.length ≤ 1000) :
    Calls Try.prog 22 #[ptrTo d, .string ⟨s.toArray⟩] w fun e w' => e = .returned (.int .i64 ((call m 5 s [] 0 []).2 : Nat)) ∧ Own P w' d (call m 5 s [] 0 []).1 ∧ Keep P w w' := by
  have hf := hm.fit hn hN
  refine (remove_any s w h (fun k hk => hk.2) (by unfold maxLen; omega) hf.wl hf.ct).mono ?_
  rintro e w' ⟨rfl, h2, hk⟩
  exact ⟨rfl, Own.of h2 (fun k hk => hk.1) hP, hk.mono fun k _ hk => hk.1⟩
theorem syncnames_own (h : Own P w d m) (hP : ∀ k, w.heap.size ≤ k → P k) (hm : Small m n N) (hn : n ≤ 100000) (hN : N ≤ 1000000) :
    Calls Try.prog 16 #[ptrTo d] w fun e w' => e = .returned (.int .i64 ((call m 6 [] [] 0 []).2 : Nat)) ∧ Own P w' d (call m 6 [] [] 0 []).1 ∧ Keep P w w' := by
  refine (syncnames_any w h (fun k hk => hk.2) (hm.fitW hn hN) hm.ct).mono ?_
  rintro e w' ⟨rfl, h2, hk⟩
  exact ⟨rfl, Own.of h2 (fun k hk => hk.1) hP, hk.mono fun k _ hk => hk.1⟩
theorem write_own {A B : Nat → Prop} {vb : Value} (s body : List UInt8) (i : Int) (h : DR A w d m) (hA : ∀ k, A k → P k ∧ k < w.heap.size) (hP : ∀ k, w.heap.size ≤ k → P k) (hm : Small m n N) (hn : n ≤ 100000) (hN : N ≤ 1000000) (hs : s.length ≤ 1000) (hl : body.length ≤ 1000)
    (hvb : Bts B w vb body) (hBA : ∀ k, B k → ¬ A k) :
    Calls Try.prog 13 #[ptrTo d, .string ⟨s.toArray⟩, .int .i64 i, vb] w fun e w' => e = .returned (.int .i64 ((call m 2 s [] i body).2 : Nat)) ∧ Own P w' d (call m 2 s [] i body).1 ∧ Keep A w w' := by
  refine (write_any s body i w h (fun k hk => (hA k hk).2) (hm.fit hn hN) (by unfold maxLen; omega) hvb hBA (by omega)).mono ?_
  rintro e w' ⟨rfl, h2, hk⟩
  exact ⟨rfl, Own.of h2 (fun k hk => (hA k hk).1) hP, hk⟩
theorem crash_own {A B : Nat → Prop} {v : Value} (keep : List Bool) (h : DR A w d m) (hA : ∀ k, A k → P k ∧ k < w.heap.size) (hP : ∀ k, w.heap.size ≤ k → P k) (hm : Small m n N) (hn : n ≤ 100000) (hN : N ≤ 1000000) (hv : Bls B w v keep) (hB : ∀ k, B k → ¬ A k) :
    Calls Try.prog 19 #[ptrTo d, v] w fun e w' => e = .returned (.tuple #[]) ∧ Own P w' d (Dk.crash m keep) ∧ Keep A w w' := by
  refine (crash_any keep w h (fun k hk => (hA k hk).2) (hm.fitW hn hN) hv hB).mono ?_
  rintro e w' ⟨rfl, h2, hk⟩
  exact ⟨rfl, Own.of h2 (fun k hk => (hA k hk).1) hP, hk⟩
theorem cut_own (steps : Int) (h : Own P w d m) :
    Calls Try.prog 12 #[ptrTo d, .int .i64 steps] w fun e w' => e = .returned (.tuple #[]) ∧ Own P w' d (cutD m steps) ∧ Keep P w w' := by
  refine (cut_any steps w h).mono ?_
  rintro e w' ⟨rfl, h2, hk⟩
  exact ⟨rfl, h2.mono fun k hk ha => ⟨ha.1, hk⟩, hk.mono fun k _ hk => hk.1⟩
theorem read_own (s : List UInt8) (h : Own P w d m) (hm : Small m n N) (hN : N ≤ 1000000) (hs : s.length ≤ 1000) :
    Calls Try.prog 15 #[ptrTo d, .string ⟨s.toArray⟩] w fun e w' => ∃ v', e = .returned (.tuple #[v', .int .i64 (readE m s : Nat)]) ∧ w'.ownsRow w.heap.size 5 1 v' (readB m s).length ((readB m s).map bv) ∧ Keep No w w' :=
  read_any s w h (by unfold maxLen; omega) fun f => by have := hm.is f; omega
theorem used_own (h : Own P w d m) (hm : Small m n N) (hn : n ≤ 100000) (hN : N ≤ 1000000) :
    Calls Try.prog 17 #[ptrTo d] w fun e w' => e = .returned (.int .i64 (used m)) ∧ Keep No w w' := used_any w h (hm.fit hn hN).us
theorem names_own (h : Own P w d m) (hm : Small m n N) (hn : n ≤ 100000) :
    Calls Try.prog 20 #[ptrTo d] w fun e w' => ∃ v, e = .returned v ∧ w'.ownsRow w.heap.size 9 1 v (namesOf m).length ((namesOf m).map encStr) ∧ Keep No w w' :=
  names_any w h (by have := hm.L; omega)
theorem new_own (room : Int) (w : World) (P : Nat → Prop) (hP : ∀ k, w.heap.size ≤ k → P k) :
    Calls Try.prog 10 #[.int .i64 room] w fun e w' => ∃ d, e = .returned (ptrTo d) ∧ Own P w' d (Dk.new room) ∧ Keep No w w' := by
  refine (new_any room w).mono ?_
  rintro e w' ⟨d, rfl, h2, hk⟩
  exact ⟨d, rfl, h2.mono fun k hk ha => ⟨hP k ha.1, hk⟩, hk⟩
end
end Go.Proofs.Ytkmoomgmmhmaeaa
