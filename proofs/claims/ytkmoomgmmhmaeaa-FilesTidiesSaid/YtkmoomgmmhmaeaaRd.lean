/- The disk's contracts for a caller that owns all its memory. awake: the document's example on the disk. Data that can be read: shapes (Sh), how cells read as them (Rd), and that every argument whose type fits a shape reads so. No condition. -/
import Derived.Test.YtkmoomgmmhmaeaaFileM
import Derived.Lib.SmallJoins
import Derived.Lib.SlBytesConst
import Derived.Laws.BytesArg
import Derived.Test.YtkmoomgmmhmaeaaDiskM
import Derived.Deep.Slices
import Derived.OpenShut
import Derived.WideShapes
namespace Go.Proofs.Ytkmoomgmmhmaeaa
open Go.RowKit Go.Dm Go.Dm.Dk Go.Maps

/-- a disk whose memory lies in P -/
def Own (P : Nat → Prop) (w : World) (d : Nat) (m : M) : Prop := DR (fun k => P k ∧ k < w.heap.size) w d m
theorem Own.of {P : Nat → Prop} {w w' : World} {d : Nat} {m : M} {A : Nat → Prop} (h : DR (Plus A w w') w' d m) (hA : ∀ k, A k → P k) (hP : ∀ k, w.heap.size ≤ k → P k) : Own P w' d m :=
  h.mono fun k hk ha => by
    rcases ha with ha | ha
    · exact ⟨hA k ha, hk⟩
    · exact ⟨hP k ha.1, hk⟩
theorem Own.same {P : Nat → Prop} {w w' : World} {d : Nat} {m : M} (h : Own P w d m) (hs : w.heap.size ≤ w'.heap.size) (e : ∀ k, k < w.heap.size → P k → w'.heap[k]? = w.heap[k]?) : Own P w' d m :=
  (DR.same h hs fun k hk => e k hk.2 hk.1).mono fun _ hk ha => ⟨ha.1, hk⟩
theorem Own.keep {P S : Nat → Prop} {w w' : World} {d : Nat} {m : M} (h : Own P w d m) (hk : Keep S w w') (hS : ∀ k, P k → ¬ S k) : Own P w' d m :=
  h.same hk.size fun k hl hp => hk.block k hl (hS k hp)

section
variable {P : Nat → Prop} {d n N : Nat} {m : M} {w : World}

theorem create_own (s : List UInt8) (h : Own P w d m) (hP : ∀ k, w.heap.size ≤ k → P k) (hm : Small m n N) (hn : n ≤ 100000) (hN : N ≤ 1000000) (hs : s.length ≤ 1000) :
    Calls Try.prog 11 #[ptrTo d, .string ⟨s.toArray⟩] w fun e w' => e = .returned (.int .i64 ((call m 1 s [] 0 []).2 : Nat)) ∧ Own P w' d (call m 1 s [] 0 []).1 ∧ Keep P w w' := by
  have hf := hm.fit hn hN
  refine (create_any s w h (fun k hk => hk.2) (by unfold maxLen; omega) hf.wl hf.ll hf.ct).mono ?_
  rintro e w' ⟨rfl, h2, hk⟩
  exact ⟨rfl, Own.of h2 (fun k hk => hk.1) hP, hk.mono fun k _ hk => hk.1⟩
theorem sync_own (s : List UInt8) (h : Own P w d m) (hP : ∀ k, w.heap.size ≤ k → P k) (hm : Small m n N) (hn : n ≤ 100000) (hN : N ≤ 1000000) (hs : s.length ≤ 1000) :
    Calls Try.prog 23 #[ptrTo d, .string ⟨s.toArray⟩] w fun e w' => e = .returned (.int .i64 ((call m 3 s [] 0 []).2 : Nat)) ∧ Own P w' d (call m 3 s [] 0 []).1 ∧ Keep P w w' := by
  refine (sync_any s w h (fun k hk => hk.2) (by unfold maxLen; omega) (hm.fitW hn hN) hm.ct).mono ?_
  rintro e w' ⟨rfl, h2, hk⟩
  exact ⟨rfl, Own.of h2 (fun k hk => hk.1) hP, hk.mono fun k _ hk => hk.1⟩
theorem rename_own (s t : List UInt8) (h : Own P w d m) (hP : ∀ k, w.heap.size ≤ k → P k) (hm : Small m n N) (hn : n ≤ 100000) (hN : N ≤ 1000000) (hs : s.length ≤ 1000) (ht : t.length ≤ 1000) :
    Calls Try.prog 21 #[ptrTo d, .string ⟨s.toArray⟩, .string ⟨t.toArray⟩] w fun e w' => e = .returned (.int .i64 ((call m 4 s t 0 []).2 : Nat)) ∧ Own P w' d (call m 4 s t 0 []).1 ∧ Keep P w w' := by
  have hf := hm.fit hn hN
  refine (rename_any s t w h (fun k hk => hk.2) (by unfold maxLen; omega) (by unfold maxLen; omega) hf.wl hf.ll hf.ct).mono ?_
  rintro e w' ⟨rfl, h2, hk⟩
  exact ⟨rfl, Own.of h2 (fun k hk => hk.1) hP, hk.mono fun k _ hk => hk.1⟩
theorem remove_own (s : List UInt8) (h : Own P w d m) (hP : ∀ k, w.heap.size ≤ k → P k) (hm : Small m n N) (hn : n ≤ 100000) (hN : N ≤ 1000000) (hs : s.length ≤ 1000) :
    Calls Try.prog 22 #[ptrTo d, .string ⟨s.toArray⟩] w fun e w' => e = .returned (.int .i64 ((call m 5 s [] 0 []).2 : Nat)) ∧ Own P w' d (call m 5 s [] 0 []).1 ∧ Keep P w w' := by
  have hf := hm.fit hn hN
  refine (remove_any s w h (fun k hk => hk.2) (by unfold maxLen; omega) hf.wl hf.ct).mono ?_
  rintro e w' ⟨rfl, h2, hk⟩
  exact ⟨rfl, Own.of h2 (fun k hk => hk.1) hP, hk.mono fun k _ hk => hk.1⟩
theorem syncnames_own (h : Own P w d m) (hP : ∀ k, w.heap.size ≤ k → P k) (hm : Small m n N) (hn : n ≤ 100000) (hN : N ≤ 1000000) :
    Calls Try.prog 16 #[ptrTo d] w fun e w' => e = .returned (.int .i64 ((call m 6 [] [] 0 []).2 : Nat)) ∧ Own P w' d (call m 6 [] [] 0 []).1 ∧ Keep P w w' := by
  refine (syncnames_any w h (fun k hk => hk.2) (hm.fitW hn hN) hm.ct).mono ?_
  rintro e w' ⟨rfl, h2, hk⟩
  exact ⟨rfl, Own.of h2 (fun k hk => hk.1) hP, hk.mono fun k _ hk => hk.1⟩
theorem write_own {A B : Nat → Prop} {vb : Value} (s body : List UInt8) (i : Int) (h : DR A w d m) (hA : ∀ k, A k → P k ∧ k < w.heap.size) (hP : ∀ k, w.heap.size ≤ k → P k) (hm : Small m n N) (hn : n ≤ 100000) (hN : N ≤ 1000000) (hs : s.length ≤ 1000) (hl : body.length ≤ 1000)
    (hvb : Bts B w vb body) (hBA : ∀ k, B k → ¬ A k) :
    Calls Try.prog 13 #[ptrTo d, .string ⟨s.toArray⟩, .int .i64 i, vb] w fun e w' => e = .returned (.int .i64 ((call m 2 s [] i body).2 : Nat)) ∧ Own P w' d (call m 2 s [] i body).1 ∧ Keep A w w' := by
  refine (write_any s body i w h (fun k hk => (hA k hk).2) (hm.fit hn hN) (by unfold maxLen; omega) hvb hBA (by omega)).mono ?_
  rintro e w' ⟨rfl, h2, hk⟩
  exact ⟨rfl, Own.of h2 (fun k hk => (hA k hk).1) hP, hk⟩
theorem crash_own {A B : Nat → Prop} {v : Value} (keep : List Bool) (h : DR A w d m) (hA : ∀ k, A k → P k ∧ k < w.heap.size) (hP : ∀ k, w.heap.size ≤ k → P k) (hm : Small m n N) (hn : n ≤ 100000) (hN : N ≤ 1000000) (hv : Bls B w v keep) (hB : ∀ k, B k → ¬ A k) :
    Calls Try.prog 19 #[ptrTo d, v] w fun e w' => e = .returned (.tuple #[]) ∧ Own P w' d (Dk.crash m keep) ∧ Keep A w w' := by
  refine (crash_any keep w h (fun k hk => (hA k hk).2) (hm.fitW hn hN) hv hB).mono ?_
  rintro e w' ⟨rfl, h2, hk⟩
  exact ⟨rfl, Own.of h2 (fun k hk => (hA k hk).1) hP, hk⟩
theorem cut_own (steps : Int) (h : Own P w d m) :
    Calls Try.prog 12 #[ptrTo d, .int .i64 steps] w fun e w' => e = .returned (.tuple #[]) ∧ Own P w' d (cutD m steps) ∧ Keep P w w' := by
  refine (cut_any steps w h).mono ?_
  rintro e w' ⟨rfl, h2, hk⟩
  exact ⟨rfl, h2.mono fun k hk ha => ⟨ha.1, hk⟩, hk.mono fun k _ hk => hk.1⟩
theorem read_own (s : List UInt8) (h : Own P w d m) (hm : Small m n N) (hN : N ≤ 1000000) (hs : s.length ≤ 1000) :
    Calls Try.prog 15 #[ptrTo d, .string ⟨s.toArray⟩] w fun e w' => ∃ v', e = .returned (.tuple #[v', .int .i64 (readE m s : Nat)]) ∧ w'.ownsRow w.heap.size 5 1 v' (readB m s).length ((readB m s).map bv) ∧ Keep No w w' :=
  read_any s w h (by unfold maxLen; omega) fun f => by have := hm.is f; omega
theorem used_own (h : Own P w d m) (hm : Small m n N) (hn : n ≤ 100000) (hN : N ≤ 1000000) :
    Calls Try.prog 17 #[ptrTo d] w fun e w' => e = .returned (.int .i64 (used m)) ∧ Keep No w w' := used_any w h (hm.fit hn hN).us
theorem names_own (h : Own P w d m) (hm : Small m n N) (hn : n ≤ 100000) :
    Calls Try.prog 20 #[ptrTo d] w fun e w' => ∃ v, e = .returned v ∧ w'.ownsRow w.heap.size 9 1 v (namesOf m).length ((namesOf m).map encStr) ∧ Keep No w w' :=
  names_any w h (by have := hm.L; omega)
theorem new_own (room : Int) (w : World) (P : Nat → Prop) (hP : ∀ k, w.heap.size ≤ k → P k) :
    Calls Try.prog 10 #[.int .i64 room] w fun e w' => ∃ d, e = .returned (ptrTo d) ∧ Own P w' d (Dk.new room) ∧ Keep No w w' := by
  refine (new_any room w).mono ?_
  rintro e w' ⟨d, rfl, h2, hk⟩
  exact ⟨d, rfl, h2.mono fun k hk ha => ⟨hP k ha.1, hk⟩, hk⟩
end
end Go.Proofs.Ytkmoomgmmhmaeaa
namespace Go.Proofs.Ytkmoomgmmhmaeaa
open Go.RowKit Go.Dm Go.Dm.Dk Go.Maps

def aw1 : M := ⟨100, [[]], [[]], [([97], 0)], [], [⟨2, 0, 0, [], [], [97]⟩], false, 0⟩
def aw2 : M := ⟨100, [[120]], [[]], [([97], 0)], [], [⟨2, 0, 0, [], [], [97]⟩, ⟨1, 0, 0, [120], [], []⟩], false, 0⟩
def aw3 : M := ⟨100, [[120]], [[120]], [([97], 0)], [], [⟨2, 0, 0, [], [], [97]⟩], false, 0⟩
def aw4 : M := ⟨100, [[120]], [[120]], [([97], 0)], [([97], 0)], [], false, 0⟩
theorem aw_1 : call (Dk.new 100) 1 [97] [] 0 [] = (aw1, 0) := by kernel_rfl
theorem aw_2 : call aw1 2 [97] [] 0 [120] = (aw2, 0) := by kernel_rfl
theorem aw_3 : call aw2 3 [97] [] 0 [] = (aw3, 0) := by kernel_rfl
theorem aw_4 : call aw3 6 [] [] 0 [] = (aw4, 0) := by kernel_rfl
theorem aw_5 : Dk.crash aw4 [] = aw4 := by kernel_rfl
theorem aw_w : aw2.wait.length = 2 := rfl
theorem aw_e : readE aw4 [97] = 0 := by kernel_rfl
theorem aw_b : readB aw4 [97] = [120] := by kernel_rfl
theorem aw_u : used aw4 = 1 := by kernel_rfl
theorem aw_n : (namesOf aw4).length = 1 := by unfold namesOf; rw [List.length_mergeSort]; rfl
theorem aw_s1 : Small aw1 1 1 := by have := (Small.new 100 (by omega)).call (b := 1) 1 [97] [] 0 [] (by simp) (by simp) (by simp); rw [aw_1] at this; exact this
theorem aw_s2 : Small aw2 2 2 := by have := aw_s1.call (b := 1) 2 [97] [] 0 [120] (by simp) (by simp) (by simp); rw [aw_2] at this; exact this
theorem aw_s3 : Small aw3 3 3 := by have := aw_s2.call (b := 1) 3 [97] [] 0 [] (by simp) (by simp) (by simp); rw [aw_3] at this; exact this
theorem aw_s4 : Small aw4 4 4 := by have := aw_s3.call (b := 1) 6 [] [] 0 [] (by simp) (by simp) (by simp); rw [aw_4] at this; exact this

theorem under_u8 : Try.prog.underlying 5 = some (.int .u8) := Try.underlying5
/-- string(b) -/
theorem conv_str {A : Nat → Prop} {w : World} {v : Value} {l : List UInt8} (h : Bts A w v l) : (convert 29 9 v).run Try.prog w = .ok (.string ⟨l.toArray⟩) w := by
  obtain ⟨_, a, cap, rfl, hn, _, h0, hr⟩ := h
  cases a with
  | none =>
    obtain rfl := h0 rfl
    obtain rfl : l = [] := List.eq_nil_of_length_eq_zero (by omega)
    exact run_convert_bytes_nil (P := Try.prog) (w := w) 29 5 Try.underlying29 under_u8 0 0 9 Try.underlying9
  | some a =>
    refine run_convert_bytes_back (P := Try.prog) w 29 9 5 a cap l Try.underlying29 under_u8 Try.underlying9 fun j hj => ?_
    obtain ⟨g, off, e2, _, _, hc⟩ := hr (by omega)
    cases e2
    rw [Addr.add_lit]
    exact hc j (bv l[j]) (by simp [hj])
/-- a literal of bytes -/
theorem bts_lit (w : World) (l : List UInt8) (fr : Nat × Nat) (hl : l.length ≤ maxLen) : Bts (fun k => k = w.heap.size) (w.alloc (.cells (l.map bv).toArray 5 fr)) (.slice (some ⟨w.heap.size, 0, none⟩) l.length l.length) l :=
  Sl.mk (by simp) rfl (by simp) (Nat.le_refl _) hl fun j u hu => by
    rw [World.cell?_alloc_mark]; simpa using hu

set_option maxRecDepth 100000 in
set_option maxHeartbeats 1000000 in
theorem awake_any (w : World) : Calls Try.prog 9 #[] w fun e w' => e = .returned (.bool true) ∧ Keep No w w' := by
  go_enter Try.func9, Try.ntmps9
  go_wp2_with (first | (at_builtin; refine wl_append rfl _ _ _ _ rfl _ _ rfl rfl ?_) | (at_make; refine wl_make rfl _ _ _ rfl _ _ rfl rfl ?_) | (at_mapUpdate; refine wl_mapUpdate rfl _ _ _ _ rfl _ _ _ rfl rfl rfl ?_) | (at_lookup; refine wl_lookup rfl _ _ _ _ rfl _ _ rfl rfl ?_) | (at_delete; refine wl_delete rfl _ _ _ _ rfl _ _ rfl rfl ?_) | (with_reducible refine wl_len rfl _ _ rfl _ rfl ?_) | (with_reducible refine wl_range rfl _ _ rfl _ rfl ?_) | (with_reducible refine wl_next rfl _ rfl _ rfl ?_) | (with_reducible refine wl_copy rfl _ _ _ _ rfl _ _ rfl rfl ?_) | (with_reducible refine wl_max rfl _ _ _ _ rfl _ _ rfl rfl ?_) | (with_reducible refine wl_min rfl _ _ _ _ rfl _ _ rfl rfl ?_))
  refine (new_own 100 w (fun k => w.heap.size ≤ k) (fun _ h => h)).mono ?_
  rintro e w1 ⟨d, rfl, h1, k1⟩
  have z1 := k1.size
  have k1' : Keep (fun k => w.heap.size ≤ k) w w1 := k1.mono fun _ _ h => h.elim
  clear k1
  unfold ptrTo
  go_wp2_with (first | (at_builtin; refine wl_append rfl _ _ _ _ rfl _ _ rfl rfl ?_) | (at_make; refine wl_make rfl _ _ _ rfl _ _ rfl rfl ?_) | (at_mapUpdate; refine wl_mapUpdate rfl _ _ _ _ rfl _ _ _ rfl rfl rfl ?_) | (at_lookup; refine wl_lookup rfl _ _ _ _ rfl _ _ rfl rfl ?_) | (at_delete; refine wl_delete rfl _ _ _ _ rfl _ _ rfl rfl ?_) | (with_reducible refine wl_len rfl _ _ rfl _ rfl ?_) | (with_reducible refine wl_range rfl _ _ rfl _ rfl ?_) | (with_reducible refine wl_next rfl _ rfl _ rfl ?_) | (with_reducible refine wl_copy rfl _ _ _ _ rfl _ _ rfl rfl ?_) | (with_reducible refine wl_max rfl _ _ _ _ rfl _ _ rfl rfl ?_) | (with_reducible refine wl_min rfl _ _ _ _ rfl _ _ rfl rfl ?_))
  refine (create_own [97] h1 (fun k hk => by omega) (Small.new 100 (by omega)) (by omega) (by omega) (by simp)).mono ?_
  rintro e w2 ⟨rfl, h2, k2⟩
  rw [aw_1] at h2 ⊢
  have k2' := k1'.trans' k2
  have z2 := k2.size
  clear h1 k2 k1'
  have hcv := Lib.run_convert_bytes_const (P := Try.prog) w2 29 5 #[.int .u8 120] 1 1 Try.underlying29 under_u8
  go_wp2_with (first | (at_builtin; refine wl_append rfl _ _ _ _ rfl _ _ rfl rfl ?_) | (at_make; refine wl_make rfl _ _ _ rfl _ _ rfl rfl ?_) | (at_mapUpdate; refine wl_mapUpdate rfl _ _ _ _ rfl _ _ _ rfl rfl rfl ?_) | (at_lookup; refine wl_lookup rfl _ _ _ _ rfl _ _ rfl rfl ?_) | (at_delete; refine wl_delete rfl _ _ _ _ rfl _ _ rfl rfl ?_) | (with_reducible refine wl_len rfl _ _ rfl _ rfl ?_) | (with_reducible refine wl_range rfl _ _ rfl _ rfl ?_) | (with_reducible refine wl_next rfl _ rfl _ rfl ?_) | (with_reducible refine wl_copy rfl _ _ _ _ rfl _ _ rfl rfl ?_) | (with_reducible refine wl_max rfl _ _ _ _ rfl _ _ rfl rfl ?_) | (with_reducible refine wl_min rfl _ _ _ _ rfl _ _ rfl rfl ?_))
  have hbt := bts_lit w2 [120] (1, 2) (by unfold maxLen; simp)
  generalize hW : w2.alloc (Obj.cells #[Value.int IntKind.u8 120] 5 (1, 2)) = W at *
  have hbt' : Bts (fun k => k = w2.heap.size) W (.slice (some ⟨w2.heap.size, 0, none⟩) 1 1) [120] := by
    have e : w2.alloc (Obj.cells (([120] : List UInt8).map bv).toArray 5 (1, 2)) = W := hW
    rw [e] at hbt; exact hbt
  have hkW : Keep No w2 W := by rw [← hW]; exact (Keep.refl _ _).alloc _
  have hWs : W.heap.size = w2.heap.size + 1 := by rw [← hW]; simp
  clear hW hcv hbt
  refine (write_own (P := fun k => w.heap.size ≤ k) [97] [120] 0 (DR.keep h2 (fun k hk => hk.2) hkW fun _ _ h => h) (fun k hk => ⟨hk.1, by have := hk.2; omega⟩) (fun k hk => by omega) aw_s1 (by omega) (by omega) (by simp) (by simp) hbt' (fun k hk ha => by have := ha.2; omega)).mono ?_
  rintro e w3 ⟨rfl, h3, k3⟩
  rw [aw_2] at h3 ⊢
  have k3' : Keep (fun k => w.heap.size ≤ k) w w3 := (k2'.trans' (hkW.mono fun _ _ h => h.elim)).trans k3 fun k _ ha => ha.1
  have z3 := k3.size
  clear h2 k2' k3 hkW hbt'
  go_wp2_with (first | (at_builtin; refine wl_append rfl _ _ _ _ rfl _ _ rfl rfl ?_) | (at_make; refine wl_make rfl _ _ _ rfl _ _ rfl rfl ?_) | (at_mapUpdate; refine wl_mapUpdate rfl _ _ _ _ rfl _ _ _ rfl rfl rfl ?_) | (at_lookup; refine wl_lookup rfl _ _ _ _ rfl _ _ rfl rfl ?_) | (at_delete; refine wl_delete rfl _ _ _ _ rfl _ _ rfl rfl ?_) | (with_reducible refine wl_len rfl _ _ rfl _ rfl ?_) | (with_reducible refine wl_range rfl _ _ rfl _ rfl ?_) | (with_reducible refine wl_next rfl _ rfl _ rfl ?_) | (with_reducible refine wl_copy rfl _ _ _ _ rfl _ _ rfl rfl ?_) | (with_reducible refine wl_max rfl _ _ _ _ rfl _ _ rfl rfl ?_) | (with_reducible refine wl_min rfl _ _ _ _ rfl _ _ rfl rfl ?_))
  refine (pending_any _ h3).mono ?_
  rintro e w4 ⟨rfl, rfl⟩
  rw [aw_w]
  go_wp2_with (first | (at_builtin; refine wl_append rfl _ _ _ _ rfl _ _ rfl rfl ?_) | (at_make; refine wl_make rfl _ _ _ rfl _ _ rfl rfl ?_) | (at_mapUpdate; refine wl_mapUpdate rfl _ _ _ _ rfl _ _ _ rfl rfl rfl ?_) | (at_lookup; refine wl_lookup rfl _ _ _ _ rfl _ _ rfl rfl ?_) | (at_delete; refine wl_delete rfl _ _ _ _ rfl _ _ rfl rfl ?_) | (with_reducible refine wl_len rfl _ _ rfl _ rfl ?_) | (with_reducible refine wl_range rfl _ _ rfl _ rfl ?_) | (with_reducible refine wl_next rfl _ rfl _ rfl ?_) | (with_reducible refine wl_copy rfl _ _ _ _ rfl _ _ rfl rfl ?_) | (with_reducible refine wl_max rfl _ _ _ _ rfl _ _ rfl rfl ?_) | (with_reducible refine wl_min rfl _ _ _ _ rfl _ _ rfl rfl ?_))
  refine (sync_own [97] h3 (fun k hk => by omega) aw_s2 (by omega) (by omega) (by simp)).mono ?_
  rintro e w4 ⟨rfl, h4, k4⟩
  rw [aw_3] at h4 ⊢
  have k4' := k3'.trans' k4
  have z4 := k4.size
  clear h3 k3' k4
  go_wp2_with (first | (at_builtin; refine wl_append rfl _ _ _ _ rfl _ _ rfl rfl ?_) | (at_make; refine wl_make rfl _ _ _ rfl _ _ rfl rfl ?_) | (at_mapUpdate; refine wl_mapUpdate rfl _ _ _ _ rfl _ _ _ rfl rfl rfl ?_) | (at_lookup; refine wl_lookup rfl _ _ _ _ rfl _ _ rfl rfl ?_) | (at_delete; refine wl_delete rfl _ _ _ _ rfl _ _ rfl rfl ?_) | (with_reducible refine wl_len rfl _ _ rfl _ rfl ?_) | (with_reducible refine wl_range rfl _ _ rfl _ rfl ?_) | (with_reducible refine wl_next rfl _ rfl _ rfl ?_) | (with_reducible refine wl_copy rfl _ _ _ _ rfl _ _ rfl rfl ?_) | (with_reducible refine wl_max rfl _ _ _ _ rfl _ _ rfl rfl ?_) | (with_reducible refine wl_min rfl _ _ _ _ rfl _ _ rfl rfl ?_))
  refine (syncnames_own h4 (fun k hk => by omega) aw_s3 (by omega) (by omega)).mono ?_
  rintro e w5 ⟨rfl, h5, k5⟩
  rw [aw_4] at h5 ⊢
  have k5' := k4'.trans' k5
  have z5 := k5.size
  clear h4 k4' k5
  go_wp2_with (first | (at_builtin; refine wl_append rfl _ _ _ _ rfl _ _ rfl rfl ?_) | (at_make; refine wl_make rfl _ _ _ rfl _ _ rfl rfl ?_) | (at_mapUpdate; refine wl_mapUpdate rfl _ _ _ _ rfl _ _ _ rfl rfl rfl ?_) | (at_lookup; refine wl_lookup rfl _ _ _ _ rfl _ _ rfl rfl ?_) | (at_delete; refine wl_delete rfl _ _ _ _ rfl _ _ rfl rfl ?_) | (with_reducible refine wl_len rfl _ _ rfl _ rfl ?_) | (with_reducible refine wl_range rfl _ _ rfl _ rfl ?_) | (with_reducible refine wl_next rfl _ rfl _ rfl ?_) | (with_reducible refine wl_copy rfl _ _ _ _ rfl _ _ rfl rfl ?_) | (with_reducible refine wl_max rfl _ _ _ _ rfl _ _ rfl rfl ?_) | (with_reducible refine wl_min rfl _ _ _ _ rfl _ _ rfl rfl ?_))
  refine (crash_own (B := No) [] h5 (fun k hk => hk) (fun k hk => by omega) aw_s4 (by omega) (by omega) (Sl.nil _ _ _) (fun _ h => h.elim)).mono ?_
  rintro e w6 ⟨rfl, h6, k6⟩
  rw [aw_5] at h6
  have k6' : Keep (fun k => w.heap.size ≤ k) w w6 := k5'.trans k6 fun k _ ha => ha.1
  have z6 := k6.size
  clear h5 k5' k6
  go_wp2_with (first | (at_builtin; refine wl_append rfl _ _ _ _ rfl _ _ rfl rfl ?_) | (at_make; refine wl_make rfl _ _ _ rfl _ _ rfl rfl ?_) | (at_mapUpdate; refine wl_mapUpdate rfl _ _ _ _ rfl _ _ _ rfl rfl rfl ?_) | (at_lookup; refine wl_lookup rfl _ _ _ _ rfl _ _ rfl rfl ?_) | (at_delete; refine wl_delete rfl _ _ _ _ rfl _ _ rfl rfl ?_) | (with_reducible refine wl_len rfl _ _ rfl _ rfl ?_) | (with_reducible refine wl_range rfl _ _ rfl _ rfl ?_) | (with_reducible refine wl_next rfl _ rfl _ rfl ?_) | (with_reducible refine wl_copy rfl _ _ _ _ rfl _ _ rfl rfl ?_) | (with_reducible refine wl_max rfl _ _ _ _ rfl _ _ rfl rfl ?_) | (with_reducible refine wl_min rfl _ _ _ _ rfl _ _ rfl rfl ?_))
  refine (read_own [97] h6 aw_s4 (by omega) (by simp)).mono ?_
  rintro e w7 ⟨v, rfl, hv, k7⟩
  rw [aw_e]
  rw [aw_b] at hv
  have h7 := h6.keep k7 fun _ _ h => h
  have k7' := k6'.trans' (k7.mono fun _ _ h => h.elim)
  obtain ⟨av, cv, rfl, _, _⟩ := (Sl.of_own hv).shape
  have hcv : (convert 29 9 (.slice av 1 cv)).run Try.prog w7 = .ok (.string ⟨#[120]⟩) w7 := conv_str (Sl.of_own hv)
  clear h6 k6' k7 hv
  go_wp2_with (first | (at_builtin; refine wl_append rfl _ _ _ _ rfl _ _ rfl rfl ?_) | (at_make; refine wl_make rfl _ _ _ rfl _ _ rfl rfl ?_) | (at_mapUpdate; refine wl_mapUpdate rfl _ _ _ _ rfl _ _ _ rfl rfl rfl ?_) | (at_lookup; refine wl_lookup rfl _ _ _ _ rfl _ _ rfl rfl ?_) | (at_delete; refine wl_delete rfl _ _ _ _ rfl _ _ rfl rfl ?_) | (with_reducible refine wl_len rfl _ _ rfl _ rfl ?_) | (with_reducible refine wl_range rfl _ _ rfl _ rfl ?_) | (with_reducible refine wl_next rfl _ rfl _ rfl ?_) | (with_reducible refine wl_copy rfl _ _ _ _ rfl _ _ rfl rfl ?_) | (with_reducible refine wl_max rfl _ _ _ _ rfl _ _ rfl rfl ?_) | (with_reducible refine wl_min rfl _ _ _ _ rfl _ _ rfl rfl ?_))
  refine (used_own h7 aw_s4 (by omega) (by omega)).mono ?_
  rintro e w8 ⟨rfl, k8⟩
  rw [aw_u]
  have h8 := h7.keep k8 fun _ _ h => h
  have k8' := k7'.trans' (k8.mono fun _ _ h => h.elim)
  clear h7 k7' k8 hcv
  go_wp2_with (first | (at_builtin; refine wl_append rfl _ _ _ _ rfl _ _ rfl rfl ?_) | (at_make; refine wl_make rfl _ _ _ rfl _ _ rfl rfl ?_) | (at_mapUpdate; refine wl_mapUpdate rfl _ _ _ _ rfl _ _ _ rfl rfl rfl ?_) | (at_lookup; refine wl_lookup rfl _ _ _ _ rfl _ _ rfl rfl ?_) | (at_delete; refine wl_delete rfl _ _ _ _ rfl _ _ rfl rfl ?_) | (with_reducible refine wl_len rfl _ _ rfl _ rfl ?_) | (with_reducible refine wl_range rfl _ _ rfl _ rfl ?_) | (with_reducible refine wl_next rfl _ rfl _ rfl ?_) | (with_reducible refine wl_copy rfl _ _ _ _ rfl _ _ rfl rfl ?_) | (with_reducible refine wl_max rfl _ _ _ _ rfl _ _ rfl rfl ?_) | (with_reducible refine wl_min rfl _ _ _ _ rfl _ _ rfl rfl ?_))
  refine (names_own h8 aw_s4 (by omega)).mono ?_
  rintro e w9 ⟨v, rfl, hv, k9⟩
  have k9' := k8'.trans' (k9.mono fun _ _ h => h.elim)
  obtain ⟨av2, cv2, rfl, _, _⟩ := (Sl.of_own hv).shape
  rw [aw_n]
  clear h8 k8' k9 hv
  go_wp2_with (first | (at_builtin; refine wl_append rfl _ _ _ _ rfl _ _ rfl rfl ?_) | (at_make; refine wl_make rfl _ _ _ rfl _ _ rfl rfl ?_) | (at_mapUpdate; refine wl_mapUpdate rfl _ _ _ _ rfl _ _ _ rfl rfl rfl ?_) | (at_lookup; refine wl_lookup rfl _ _ _ _ rfl _ _ rfl rfl ?_) | (at_delete; refine wl_delete rfl _ _ _ _ rfl _ _ rfl rfl ?_) | (with_reducible refine wl_len rfl _ _ rfl _ rfl ?_) | (with_reducible refine wl_range rfl _ _ rfl _ rfl ?_) | (with_reducible refine wl_next rfl _ rfl _ rfl ?_) | (with_reducible refine wl_copy rfl _ _ _ _ rfl _ _ rfl rfl ?_) | (with_reducible refine wl_max rfl _ _ _ _ rfl _ _ rfl rfl ?_) | (with_reducible refine wl_min rfl _ _ _ _ rfl _ _ rfl rfl ?_))
  go_ret
  exact ⟨rfl, k9'.os, k9'.tape, k9'.output, k9'.size, fun k hk _ => k9'.block k hk (by omega)⟩
end Go.Proofs.Ytkmoomgmmhmaeaa
namespace Go.Dm
open Go Go.RowKit Go.ChangeShapes Go.WideShapes

inductive Sh where
  | int (k : IntKind) | u8 | bool | str | unit
  | pair (a b : Sh)
  | slice (e : Sh)
  | arr (n : Nat) (e : Sh)

@[reducible] def Sh.Ty : Sh → Type
  | .int _ => Int | .u8 => UInt8 | .bool => Bool | .str => List UInt8 | .unit => Unit
  | .pair a b => a.Ty × b.Ty | .slice e => List e.Ty | .arr _ e => List e.Ty
def Sh.n : Sh → Nat
  | .unit => 0 | .pair a b => a.n + b.n | .arr n e => n * e.n | .int _ => 1 | .u8 => 1 | .bool => 1 | .str => 1 | .slice _ => 1

/-- the cells cs read as x; memory beyond them lies in A -/
def Rd (A : Nat → Prop) (w : World) : (s : Sh) → List Value → s.Ty → Prop
  | .int k, cs, x => cs = [.int k x] ∧ (Lit.int k x).wf = true
  | .u8, cs, x => cs = [bv x]
  | .bool, cs, x => cs = [.bool x]
  | .str, cs, x => cs = [.string ⟨x.toArray⟩] ∧ x.length ≤ maxLen
  | .unit, cs, _ => cs = []
  | .pair a b, cs, x => ∃ c1 c2, cs = c1 ++ c2 ∧ Rd A w a c1 x.1 ∧ Rd A w b c2 x.2
  | .slice e, cs, x => ∃ (v : Value) (css : List (List Value)), cs = [v] ∧ Sl A w e.n v x.length css.flatten ∧ css.length = x.length ∧ ∀ (i : Nat) (c : List Value) (y : e.Ty), css[i]? = some c → x[i]? = some y → Rd A w e c y
  | .arr n e, cs, x => ∃ css : List (List Value), cs = css.flatten ∧ css.length = n ∧ x.length = n ∧ ∀ (i : Nat) (c : List Value) (y : e.Ty), css[i]? = some c → x[i]? = some y → Rd A w e c y

theorem flatten_len {n : Nat} : ∀ {css : List (List Value)}, (∀ c ∈ css, c.length = n) → css.flatten.length = css.length * n
  | [], _ => by simp
  | c :: r, h => by
    rw [List.flatten_cons, List.length_append, flatten_len (fun c hc => h c (by simp [hc])), h c (by simp), List.length_cons, Nat.succ_mul]; omega
theorem flatten_get {n : Nat} : ∀ {css : List (List Value)} (_ : ∀ c ∈ css, c.length = n) (i r : Nat) (_ : r < n), css.flatten[i * n + r]? = (css[i]?).bind (·[r]?)
  | [], _, i, r, _ => by simp
  | c :: t, h, 0, r, hr => by
    have := h c (by simp)
    rw [List.flatten_cons, Nat.zero_mul, Nat.zero_add, List.getElem?_append_left (by omega)]; simp
  | c :: t, h, i + 1, r, hr => by
    have := h c (by simp)
    rw [List.flatten_cons, List.getElem?_append_right (by rw [Nat.succ_mul]; omega), this, Nat.succ_mul, show i * n + n + r - n = i * n + r by omega, flatten_get (fun c hc => h c (by simp [hc])) i r hr]; simp
theorem flatten_get_some {n : Nat} {css : List (List Value)} (h : ∀ c ∈ css, c.length = n) (hn : 0 < n) {j : Nat} {u : Value} (hj : css.flatten[j]? = some u) : ∃ i r c, j = i * n + r ∧ r < n ∧ css[i]? = some c ∧ c[r]? = some u := by
  have e : j = j / n * n + j % n := by rw [Nat.mul_comm]; exact (Nat.div_add_mod j n).symm
  rw [e, flatten_get h _ _ (Nat.mod_lt _ hn)] at hj
  cases hc : css[j / n]? with
  | none => rw [hc] at hj; cases hj
  | some c => rw [hc] at hj; exact ⟨j / n, j % n, c, e, Nat.mod_lt _ hn, hc, hj⟩

section
variable {A : Nat → Prop} {w : World}
theorem Rd.len : ∀ {s : Sh} {cs : List Value} {x : s.Ty}, Rd A w s cs x → cs.length = s.n
  | .int k, _, _, h => by rw [h.1]; rfl
  | .u8, _, _, h => by have h : _ = _ := h; rw [h]; rfl
  | .bool, _, _, h => by have h : _ = _ := h; rw [h]; rfl
  | .str, _, _, h => by rw [h.1]; rfl
  | .unit, _, _, h => by have h : _ = _ := h; rw [h]; rfl
  | .pair a b, _, _, ⟨c1, c2, e, h1, h2⟩ => by rw [e, List.length_append, h1.len, h2.len]; rfl
  | .slice e, _, _, ⟨v, css, e1, _⟩ => by rw [e1]; rfl
  | .arr n e, _, x, ⟨css, e1, h1, h2, h3⟩ => by
    rw [e1, flatten_len (n := e.n) fun c hc => ?_, h1]; rfl
    obtain ⟨i, hi⟩ := List.mem_iff_getElem?.1 hc
    have hl : i < css.length := (List.getElem?_eq_some_iff.1 hi).1
    exact (h3 i c x[i] hi (List.getElem?_eq_getElem (by omega))).len
theorem Rd.elems {e : Sh} {css : List (List Value)} {x : List e.Ty} (h1 : css.length = x.length) (h2 : ∀ (i : Nat) (c : List Value) (y : e.Ty), css[i]? = some c → x[i]? = some y → Rd A w e c y) : ∀ c ∈ css, c.length = e.n := by
  intro c hc
  obtain ⟨i, hi⟩ := List.mem_iff_getElem?.1 hc
  have hl : i < css.length := (List.getElem?_eq_some_iff.1 hi).1
  exact (h2 i c x[i] hi (List.getElem?_eq_getElem (by omega))).len
theorem Rd.same {w' : World} (hs : w.heap.size ≤ w'.heap.size) (e : ∀ k, k < w.heap.size → A k → w'.heap[k]? = w.heap[k]?) : ∀ {s : Sh} {cs : List Value} {x : s.Ty}, Rd A w s cs x → Rd A w' s cs x
  | .int k, _, _, h => h
  | .u8, _, _, h => h
  | .bool, _, _, h => h
  | .str, _, _, h => h
  | .unit, _, _, h => h
  | .pair a b, _, _, ⟨c1, c2, e1, h1, h2⟩ => ⟨c1, c2, e1, Rd.same hs e h1, Rd.same hs e h2⟩
  | .slice s, _, _, ⟨v, css, e1, h1, h2, h3⟩ => ⟨v, css, e1, h1.same hs e, h2, fun i c y hc hy => Rd.same hs e (h3 i c y hc hy)⟩
  | .arr n s, _, _, ⟨css, e1, h1, h2, h3⟩ => ⟨css, e1, h1, h2, fun i c y hc hy => Rd.same hs e (h3 i c y hc hy)⟩
theorem Rd.mono {B : Nat → Prop} (e : ∀ k, k < w.heap.size → A k → B k) : ∀ {s : Sh} {cs : List Value} {x : s.Ty}, Rd A w s cs x → Rd B w s cs x
  | .int k, _, _, h => h
  | .u8, _, _, h => h
  | .bool, _, _, h => h
  | .str, _, _, h => h
  | .unit, _, _, h => h
  | .pair a b, _, _, ⟨c1, c2, e1, h1, h2⟩ => ⟨c1, c2, e1, Rd.mono e h1, Rd.mono e h2⟩
  | .slice s, _, _, ⟨v, css, e1, h1, h2, h3⟩ => ⟨v, css, e1, h1.mono e, h2, fun i c y hc hy => Rd.mono e (h3 i c y hc hy)⟩
  | .arr n s, _, _, ⟨css, e1, h1, h2, h3⟩ => ⟨css, e1, h1, h2, fun i c y hc hy => Rd.mono e (h3 i c y hc hy)⟩
theorem Rd.keep {S : Nat → Prop} {w' : World} {s : Sh} {cs : List Value} {x : s.Ty} (h : Rd A w s cs x) (k : Keep S w w') (hS : ∀ j, j < w.heap.size → A j → ¬ S j) : Rd A w' s cs x :=
  Rd.same k.size (fun j hj ha => k.block j hj (hS j hj ha)) h
/-- what is read stays, where only new memory is made -/
theorem Rd.no {w' : World} {s : Sh} {cs : List Value} {x : s.Ty} (h : Rd A w s cs x) (k : Keep No w w') : Rd A w' s cs x := h.keep k fun _ _ _ h => h

/-- a slice of bytes -/
theorem Rd.bts {v : Value} {l : List UInt8} (h : Rd A w (.slice .u8) [v] l) : Bts A w v l := by
  obtain ⟨v', css, e, h1, h2, h3⟩ := h
  cases e
  have e : css.flatten = l.map bv := by
    have hc : css = l.map fun b => [bv b] := by
      apply List.ext_getElem (by simpa using h2)
      intro i hi hj
      rw [List.getElem_map]
      have h2 : css.length = List.length l := h2
      exact h3 i css[i] (l[i]'(by omega)) (List.getElem?_eq_getElem hi) (List.getElem?_eq_getElem (by omega))
    rw [hc]
    clear hc h1 h2 h3
    induction l with
    | nil => rfl
    | cons b r ih => simp only [List.map_cons, List.flatten_cons, ih]; rfl
  rw [e] at h1
  exact h1
theorem Rd.of_bts {v : Value} {l : List UInt8} (h : Bts A w v l) : Rd A w (.slice .u8) [v] l := by
  have e : ∀ l : List UInt8, (l.map fun b => [bv b]).flatten = l.map bv := by
    intro l; induction l with
    | nil => rfl
    | cons b r ih => simp only [List.map_cons, List.flatten_cons, ih]; rfl
  refine ⟨v, l.map fun b => [bv b], rfl, by rw [e]; exact h, by simp, fun i c y hc hy => ?_⟩
  rw [List.getElem?_map, hy] at hc
  cases hc
  rfl
/-- a slice whose elements are flat: each is its cells -/
theorem Rd.flat {e : Sh} (enc : e.Ty → List Value) {v : Value} {l : List e.Ty} (h : Rd A w (.slice e) [v] l) (hd : ∀ c y, Rd A w e c y → c = enc y) : Sl A w e.n v l.length (l.flatMap enc) := by
  obtain ⟨v', css, e1, h1, h2, h3⟩ := h
  cases e1
  have hc : css = l.map enc := by
    apply List.ext_getElem (by simpa using h2)
    intro i hi hj
    rw [List.getElem_map]
    have h2 : css.length = List.length l := h2
    exact hd _ _ (h3 i css[i] (l[i]'(by omega)) (List.getElem?_eq_getElem hi) (List.getElem?_eq_getElem (by omega)))
  rw [List.flatMap_def, ← hc]
  exact h1
theorem Rd.of_flat {e : Sh} (enc : e.Ty → List Value) {v : Value} {l : List e.Ty} (h : Sl A w e.n v l.length (l.flatMap enc)) (hd : ∀ y ∈ l, Rd A w e (enc y) y) : Rd A w (.slice e) [v] l := by
  refine ⟨v, l.map enc, rfl, by rw [← List.flatMap_def]; exact h, by simp, fun i c y hc hy => ?_⟩
  rw [List.getElem?_map, hy] at hc
  cases hc
  exact hd y (List.mem_of_getElem? hy)
theorem Rd.bools {v : Value} {l : List Bool} (h : Rd A w (.slice .bool) [v] l) : Sl A w 1 v l.length (l.map .bool) := by
  have := h.flat (e := .bool) (fun b : Bool => [.bool b]) fun c y h => h
  rwa [← List.map_eq_flatMap] at this
theorem Rd.strs {v : Value} {l : List (List UInt8)} (h : Rd A w (.slice .str) [v] l) : Sl A w 1 v l.length (l.map fun s => .string ⟨s.toArray⟩) := by
  have := h.flat (e := .str) (fun s : List UInt8 => [.string ⟨s.toArray⟩]) fun c y h => h.1
  rwa [← List.map_eq_flatMap] at this
/-- one element of a slice -/
theorem Rd.at {e : Sh} {v : Value} {l : List e.Ty} (h : Rd A w (.slice e) [v] l) {n : Nat} (hn : e.n = n) {i : Nat} (hi : i < l.length) :
    ∃ g off cap, v = .slice (some ⟨g, off, none⟩) l.length cap ∧ A g ∧ g < w.heap.size ∧ l.length ≤ cap ∧ cap ≤ maxLen ∧ ∃ c, Rd A w e c l[i] ∧ ∀ r u, c[r]? = some u → w.cell? ⟨g, off + i * n + r, none⟩ = some u := by
  obtain ⟨v', css, e1, h1, h2, h3⟩ := h
  cases e1
  obtain ⟨g, off, cap, rfl, ha, hb, hc, hd, hr⟩ := h1.at (by omega)
  have hic : i < css.length := by omega
  refine ⟨g, off, cap, rfl, ha, hb, hc, hd, css[i], h3 i _ _ (List.getElem?_eq_getElem hic) (List.getElem?_eq_getElem hi), fun r u hu => ?_⟩
  rw [Nat.add_assoc, ← hn]
  refine hr _ _ ?_
  have hel := Rd.elems h2 h3
  have hrn : r < e.n := by rw [← hel css[i] (List.getElem_mem hic)]; exact (List.getElem?_eq_some_iff.1 hu).1
  rw [flatten_get hel i r hrn, List.getElem?_eq_getElem hic]
  exact hu
theorem Rd.shape {e : Sh} {v : Value} {l : List e.Ty} (h : Rd A w (.slice e) [v] l) : ∃ a cap, v = .slice a l.length cap ∧ l.length ≤ cap ∧ cap ≤ maxLen := by
  obtain ⟨v', css, e1, h1, _⟩ := h
  cases e1
  exact h1.shape
end

/-! a part of a slice -/
theorem Sl.sub {P : Program} {A : Nat → Prop} {w : World} {size n lo hi : Nat} {v : Value} {cs : List Value} (t : TypeId) (ht : P.underlying t = some (.slice (P.elem t))) (hsz : ∀ W, (sizeOf (P.elem t)).run P W = .ok size W)
    (h : Sl A w size v n cs) (h1 : lo ≤ hi) (h2 : hi ≤ n) :
    ∃ a' cap', (∀ W, (Instr.slice t v (some (.int .i64 (lo : Int))) (some (.int .i64 (hi : Int))) none).run P W = .ok (.slice a' (hi - lo) cap') W) ∧ Sl A w size (.slice a' (hi - lo) cap') (hi - lo) ((cs.drop (lo * size)).take ((hi - lo) * size)) := by
  obtain ⟨hl, a, cap, rfl, hn, hm, h0, hr⟩ := h
  refine ⟨if cap = lo then a else a.map (·.add (lo * size)), cap - lo, fun W => ?_, ?_, ?_⟩
  · rw [run_slice_lh (P := P) W t a n cap ht .i64 .i64 lo hi (by omega) (by omega) (by omega), hsz W]
    simp [Result.andThen, sliced]
  · rw [List.length_take, List.length_drop, hl]
    have : hi * size ≤ n * size := Nat.mul_le_mul_right _ h2
    rw [Nat.sub_mul]
    omega
  · refine ⟨_, _, rfl, by omega, by omega, ?_, fun hpos => ?_⟩
    · intro e
      cases a with
      | none => have := h0 rfl; omega
      | some a => split at e <;> cases e
    · obtain ⟨g, off, rfl, hA, hg, hc⟩ := hr (by omega)
      refine ⟨g, off + lo * size, ?_, hA, hg, fun j u hu => ?_⟩
      · rw [if_neg (by omega), Option.map_some, Addr.add_lit]
      · rw [Nat.add_assoc]
        refine hc _ _ ?_
        rw [List.getElem?_take] at hu
        split at hu
        · rw [List.getElem?_drop] at hu; exact hu
        · cases hu
theorem Bts.sub {P : Program} {A : Nat → Prop} {w : World} {lo hi : Nat} {v : Value} {l : List UInt8} (t : TypeId) (ht : P.underlying t = some (.slice (P.elem t))) (hsz : ∀ W, (sizeOf (P.elem t)).run P W = .ok 1 W)
    (h : Bts A w v l) (h1 : lo ≤ hi) (h2 : hi ≤ l.length) :
    ∃ a' cap', (∀ W, (Instr.slice t v (some (.int .i64 (lo : Int))) (some (.int .i64 (hi : Int))) none).run P W = .ok (.slice a' (hi - lo) cap') W) ∧ Bts A w (.slice a' (hi - lo) cap') ((l.drop lo).take (hi - lo)) := by
  obtain ⟨a', cap', hr, hs⟩ := Sl.sub t ht hsz h h1 h2
  refine ⟨a', cap', hr, ?_⟩
  have e : ((l.drop lo).take (hi - lo)).length = hi - lo := by rw [List.length_take, List.length_drop]; omega
  unfold Bts
  rw [e, List.map_take, List.map_drop]
  simpa using hs

/-! an argument that fits a shape -/
def fitX (P : Program) : Sh → TypeId ⊕ (List Field × Nat) → Bool
  | .int k, .inl t => match P.underlying t with | some (.int k') => decide (k' = k) && P.cellsOf t == 1 | _ => false
  | .u8, .inl t => match P.underlying t with | some (.int .u8) => P.cellsOf t == 1 | _ => false
  | .bool, .inl t => match P.underlying t with | some .bool => P.cellsOf t == 1 | _ => false
  | .str, .inl t => match P.underlying t with | some .string => P.cellsOf t == 1 | _ => false
  | .slice e, .inl t => match P.underlying t with | some (.slice te) => P.cellsOf t == 1 && P.cellsOf te == e.n && fitX P e (.inl te) && decide (0 < e.n) | _ => false
  | .arr n e, .inl t => match P.underlying t with | some (.array n' te) => decide (n' = n) && P.cellsOf t == n * e.n && P.cellsOf te == e.n && fitX P e (.inl te) | _ => false
  | .pair a b, .inl t => match P.underlying t with
    | some (.struct ⟨f :: r⟩) => P.cellsOf t == a.n + b.n && f.offset == 0 && P.cellsOf f.type == a.n && fitX P a (.inl f.type) && fitX P b (.inr (r, a.n))
    | _ => false
  | .pair a b, .inr (f :: r, off) => f.offset == off && P.cellsOf f.type == a.n && fitX P a (.inl f.type) && fitX P b (.inr (r, off + a.n))
  | .unit, .inr ([], _) => true
  | _, _ => false

section
variable {H : Type} {enc : TypeId × Value → H} {P : Program} {w : World} {base : Nat} {spare : Nat → Bool} {held : Bool}
theorem chunks (cs : List Value) (k : Nat) : ∀ n, n * k ≤ cs.length → ((List.range n).map fun i => (cs.drop (i * k)).take k).flatten = cs.take (n * k)
  | 0, _ => by simp
  | n + 1, h => by
    rw [Nat.succ_mul] at h ⊢
    rw [List.range_succ, List.map_append, List.flatten_append, chunks cs k n (by omega), List.take_add]; simp
theorem choose_list {α : Type} {n : Nat} {p : Nat → α → Prop} (h : ∀ i, i < n → ∃ x, p i x) : ∃ l : List α, l.length = n ∧ ∀ (i : Nat) x, l[i]? = some x → p i x := by
  induction n with
  | zero => exact ⟨[], rfl, fun i x h => by simp at h⟩
  | succ n ih =>
    obtain ⟨l, hl, hp⟩ := ih fun i hi => h i (by omega)
    obtain ⟨x, hx⟩ := h n (by omega)
    refine ⟨l ++ [x], by simp [hl], fun i y hy => ?_⟩
    rcases Nat.lt_or_ge i n with hi | hi
    · rw [List.getElem?_append_left (by omega)] at hy; exact hp i y hy
    · rw [List.getElem?_append_right (by omega)] at hy
      have : i = n := by
        have := (List.getElem?_eq_some_iff.1 hy).1
        simp at this; omega
      subst this
      simp [hl] at hy; subst hy; exact hx
theorem wf_u8 {n : Int} (h : (Lit.int .u8 n).wf = true) : Value.int .u8 n = bv (UInt8.ofNat n.toNat) := by
  have := bounds_u8 h
  unfold bv
  congr 1
  simp only [UInt8.toNat_ofNat']
  omega

theorem open_x : ∀ (s : Sh),
    (∀ (t : TypeId) (fuel : Nat) (cs : List Value) x, fitX P s (.inl t) = true → DataW.trod enc P w base spare held fuel t cs = some x → ∃ y, Rd (fun k => k < w.heap.size) w s cs y) ∧
    (∀ (fs : List Field) (off n : Nat) (cs : List Value), fitX P s (.inr (fs, off)) = true → cs.length = off + s.n → (∀ f ∈ fs, ∃ x, DataW.trod enc P w base spare held n f.type ((cs.drop f.offset).take (P.cellsOf f.type)) = some x) → ∃ y, Rd (fun k => k < w.heap.size) w s (cs.drop off) y)
  | .int k => ⟨fun t fuel cs x hf h => by
      unfold fitX at hf
      split at hf
      · rename_i k' hu
        simp only [Bool.and_eq_true, decide_eq_true_eq] at hf
        obtain ⟨rfl, _⟩ := hf
        obtain ⟨n, rfl, _, hw⟩ := DataW.trod_int hu h
        exact ⟨n, rfl, hw⟩
      · exact absurd hf Bool.false_ne_true, fun fs off n cs hf => by simp [fitX] at hf⟩
  | .u8 => ⟨fun t fuel cs x hf h => by
      unfold fitX at hf
      split at hf
      · rename_i hu
        obtain ⟨n, rfl, _, hw⟩ := DataW.trod_int hu h
        exact ⟨UInt8.ofNat n.toNat, by show [_] = [_]; rw [wf_u8 hw]⟩
      · exact absurd hf Bool.false_ne_true, fun fs off n cs hf => by simp [fitX] at hf⟩
  | .bool => ⟨fun t fuel cs x hf h => by
      unfold fitX at hf
      split at hf
      · rename_i hu
        obtain ⟨b, rfl, _⟩ := DataW.trod_bool hu h
        exact ⟨b, rfl⟩
      · exact absurd hf Bool.false_ne_true, fun fs off n cs hf => by simp [fitX] at hf⟩
  | .str => ⟨fun t fuel cs x hf h => by
      unfold fitX at hf
      split at hf
      · rename_i hu
        obtain ⟨s, rfl, _, hm⟩ := DataW.trod_string hu h
        exact ⟨s.data.toList, by simp, by simpa using hm⟩
      · exact absurd hf Bool.false_ne_true, fun fs off n cs hf => by simp [fitX] at hf⟩
  | .unit => ⟨fun t fuel cs x hf h => by simp [fitX] at hf, fun fs off n cs hf hl _ => ⟨(), by
      show cs.drop off = []
      rw [List.drop_eq_nil_iff]; simp only [Sh.n] at hl; omega⟩⟩
  | .pair a b => ⟨fun t fuel cs x hf h => by
      unfold fitX at hf
      split at hf
      · rename_i f r hu
        simp only [Bool.and_eq_true, beq_iff_eq] at hf
        obtain ⟨⟨⟨⟨h0, h1⟩, h2⟩, h3⟩, h4⟩ := hf
        obtain ⟨xs, n, _, _, hlen, hxl, hfs⟩ := DataW.trod_struct hu h
        have hg : ∀ f' ∈ f :: r, ∃ x, DataW.trod enc P w base spare held n f'.type ((cs.drop f'.offset).take (P.cellsOf f'.type)) = some x := by
          intro f' hf'
          obtain ⟨i, hi⟩ := List.mem_iff_getElem?.1 hf'
          have hi' : i < (f :: r).length := (List.getElem?_eq_some_iff.1 hi).1
          have hx : i < xs.length := by rw [hxl]; simpa using hi'
          have := hfs i f' (by simpa using hi)
          rw [List.getElem?_eq_getElem hx] at this
          exact ⟨_, this⟩
        obtain ⟨x1, hx1⟩ := hg f (by simp)
        rw [h1, h2, List.drop_zero] at hx1
        obtain ⟨y1, hy1⟩ := (open_x a).1 _ _ _ _ h3 hx1
        obtain ⟨y2, hy2⟩ := (open_x b).2 r a.n n cs h4 (by omega) fun f' hf' => hg f' (by simp [hf'])
        exact ⟨(y1, y2), _, _, (List.take_append_drop a.n cs).symm, hy1, hy2⟩
      · exact absurd hf Bool.false_ne_true, fun fs off n cs hf hl hg => by
      match fs with
      | [] => simp [fitX] at hf
      | f :: r =>
        simp only [fitX, Bool.and_eq_true, beq_iff_eq] at hf
        obtain ⟨⟨⟨h1, h2⟩, h3⟩, h4⟩ := hf
        obtain ⟨x1, hx1⟩ := hg f (by simp)
        rw [h1, h2] at hx1
        obtain ⟨y1, hy1⟩ := (open_x a).1 _ _ _ _ h3 hx1
        simp only [Sh.n] at hl
        obtain ⟨y2, hy2⟩ := (open_x b).2 r (off + a.n) n cs h4 (by omega) fun f' hf' => hg f' (by simp [hf'])
        refine ⟨(y1, y2), _, _, ?_, hy1, hy2⟩
        rw [← List.drop_drop]; exact (List.take_append_drop a.n _).symm⟩
  | .slice e => ⟨fun t fuel cs x hf h => by
      unfold fitX at hf
      split at hf
      · rename_i te hu
        simp only [Bool.and_eq_true, beq_iff_eq, decide_eq_true_eq] at hf
        obtain ⟨⟨⟨_, hce⟩, hfe⟩, hpos⟩ := hf
        rcases Deep.open_slice hu h with ⟨rfl, _⟩ | ⟨a, len, cap, m, n, D, Pl, rfl, _, hl, hm, hmm, _, hi⟩
        · exact ⟨[], _, [], rfl, Sl.nil _ _ _, rfl, fun i c y h => by simp at h⟩
        · have hlm : len ≤ m := by rw [hmm]; split <;> omega
          have h2 : ∀ i, i < len → ∃ q : List Value × e.Ty, (∀ r, r < e.n → w.cell? (a.add (i * e.n + r)) = q.1[r]?) ∧ Rd (fun k => k < w.heap.size) w e q.1 q.2 := by
            intro i hil
            obtain ⟨cs', hc, ht⟩ := hi i (by omega)
            obtain ⟨y, hy⟩ := (open_x e).1 _ _ _ _ hfe ht
            rw [hce] at hc
            obtain ⟨_, _, hr⟩ := World.cells?_some hc
            refine ⟨(cs', y), fun r hr' => ?_, hy⟩
            rw [← Deep.add_add]; exact hr r hr'
          obtain ⟨l, hll, hp⟩ := choose_list h2
          have hel : ∀ c ∈ l.map (·.1), c.length = e.n := by
            intro c hc
            obtain ⟨q, hq, rfl⟩ := List.mem_map.1 hc
            obtain ⟨i, hi⟩ := List.mem_iff_getElem?.1 hq
            exact (hp i q hi).2.len
          refine ⟨l.map (·.2), .slice (some a) len cap, l.map (·.1), rfl, ⟨?_, some a, cap, by simp [hll], by simpa [hll] using hl, hm, (fun h => by cases h), fun hn => ?_⟩, by simp, fun i c y hc hy => ?_⟩
          · rw [flatten_len hel]; simp
          · have hcell : ∀ j u, (l.map (·.1)).flatten[j]? = some u → w.cell? (a.add j) = some u := by
              intro j u hu
              obtain ⟨i, r, c, rfl, hr, hc, hu⟩ := flatten_get_some hel hpos hu
              rw [List.getElem?_map] at hc
              cases hq : l[i]? with
              | none => rw [hq] at hc; cases hc
              | some q =>
                rw [hq] at hc; cases hc
                rw [(hp i q hq).1 r hr]; exact hu
            simp only [List.length_map, hll] at hn
            have hfl : 0 < (l.map (·.1)).flatten.length := by
              rw [flatten_len hel, List.length_map, hll]; exact Nat.mul_pos hn hpos
            have h0 := hcell 0 _ (List.getElem?_eq_getElem hfl)
            obtain ⟨ab, ao, spot⟩ := a
            have hs : spot = none := by simpa [Addr.add] using World.cell?_spot h0
            subst hs
            refine ⟨ab, ao, rfl, World.block_lt_of_cell? w _ h0, World.block_lt_of_cell? w _ h0, fun j u hu => ?_⟩
            have := hcell j u hu
            rwa [Addr.add_lit] at this
          · rw [List.getElem?_map] at hc hy
            cases hq : l[i]? with
            | none => rw [hq] at hc; cases hc
            | some q =>
              rw [hq] at hc hy; cases hc; cases hy
              exact (hp i q hq).2
      · exact absurd hf Bool.false_ne_true, fun fs off n cs hf => by simp [fitX] at hf⟩
  | .arr n e => ⟨fun t fuel cs x hf h => by
      unfold fitX at hf
      split at hf
      · rename_i n' te hu
        simp only [Bool.and_eq_true, beq_iff_eq, decide_eq_true_eq] at hf
        obtain ⟨⟨⟨rfl, hct⟩, hce⟩, hfe⟩ := hf
        cases fuel with
        | zero => simp [DataW.trod] at h
        | succ fuel =>
          unfold DataW.trod at h
          rw [hu] at h
          simp only at h
          split at h
          · rename_i hlen
            rw [hct] at hlen
            cases hm : (List.range n').mapM (fun i => DataW.trod enc P w base spare held fuel te ((cs.drop (i * P.cellsOf te)).take (P.cellsOf te))) with
            | none => rw [hm] at h; cases h
            | some xs =>
              have h2 : ∀ i, i < n' → ∃ y : e.Ty, Rd (fun k => k < w.heap.size) w e ((cs.drop (i * e.n)).take e.n) y := by
                intro i hi
                have h1 := mapM_some_get hm i i (by simp [hi])
                have hxl : xs.length = n' := by simpa using mapM_some_length hm
                rw [List.getElem?_eq_getElem (by omega), hce] at h1
                exact (open_x e).1 _ _ _ _ hfe h1
              obtain ⟨l, hll, hp⟩ := choose_list h2
              refine ⟨l, (List.range n').map fun i => (cs.drop (i * e.n)).take e.n, ?_, by simp, hll, fun i c y hc hy => ?_⟩
              · rw [chunks cs e.n n' (by omega), ← hlen, List.take_length]
              · rw [List.getElem?_map] at hc
                have hi : i < n' := by rw [← hll]; exact (List.getElem?_eq_some_iff.1 hy).1
                rw [List.getElem?_range hi] at hc
                cases hc
                exact hp i y hy
          · cases h
      · exact absurd hf Bool.false_ne_true, fun fs off n cs hf => by simp [fitX] at hf⟩

theorem open_slice_arg {s : Sh} {t te : TypeId} {r : Reach} {b0 : Nat} {v : Value} {d : DataW H} {p : List MemPlace} (hu : P.underlying t = some (.slice te)) (hf : fitX P (.slice s) (.inl t) = true) (hval : Value.okWide P w r b0 t v) (h : DataW.Trod enc P w base spare held t v d p) :
    ∃ y, Rd (fun k => k < w.heap.size) w (.slice s) [v] y := by
  obtain ⟨a, len, cap, rfl⟩ := okWide_slice hu hval
  obtain ⟨fuel, hx⟩ := h
  exact (open_x (.slice s)).1 _ _ _ _ hf hx
theorem open_str_arg {t : TypeId} {r : Reach} {b0 : Nat} {v : Value} {d : DataW H} {p : List MemPlace} (hu : P.underlying t = some .string) (hf : fitX P .str (.inl t) = true) (hval : Value.okWide P w r b0 t v) (h : DataW.Trod enc P w base spare held t v d p) :
    ∃ y : List UInt8, v = .string ⟨y.toArray⟩ ∧ y.length ≤ maxLen := by
  obtain ⟨s, rfl⟩ := okWide_string hu hval
  obtain ⟨fuel, hx⟩ := h
  obtain ⟨y, h1, h2⟩ := (open_x .str).1 _ _ _ _ hf hx
  exact ⟨y, by simpa [Value.cells] using h1, h2⟩
theorem open_struct_arg {s : Sh} {t : TypeId} {fs : Array Field} {r : Reach} {b0 : Nat} {v : Value} {d : DataW H} {p : List MemPlace} (hu : P.underlying t = some (.struct fs)) (hf : fitX P s (.inl t) = true) (hval : Value.okWide P w r b0 t v) (h : DataW.Trod enc P w base spare held t v d p) :
    ∃ cs y, v = .agg cs ∧ Rd (fun k => k < w.heap.size) w s cs.toList y := by
  obtain ⟨cs, rfl, _⟩ := okWide_struct hu hval
  obtain ⟨fuel, hx⟩ := h
  obtain ⟨y, hy⟩ := (open_x s).1 _ _ _ _ hf hx
  exact ⟨cs, y, rfl, hy⟩
end
end Go.Dm
