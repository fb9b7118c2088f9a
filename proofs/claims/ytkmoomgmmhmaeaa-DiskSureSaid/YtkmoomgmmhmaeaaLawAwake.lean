/- awake: the document's example on the disk. No condition. -/
import Derived.Test.YtkmoomgmmhmaeaaDiskOwn
import Derived.Lib.SmallJoins
import Derived.Lib.SlBytesConst
import Derived.Laws.BytesArg
namespace Go.Proofs.Ytkmoomgmmhmaeaa
open Go.RowKit Go.Dm Go.Dm.Dk Go.Maps

def aw1 : M := ⟨100, [[]], [[]], [([97], 0)], [], [⟨2, 0, 0, [], [], [97]⟩], false, 0⟩
def aw2 : M := ⟨100, [[120]], [[]], [([97], 0)], [], [⟨2, 0, 0, [], [], [97]⟩, ⟨1, 0, 0, [120], [], []⟩], false, 0⟩
def aw3 : M := ⟨100, [[120]], [[120]], [([97], 0)], [], [⟨2, 0, 0, [], [], [97]⟩], false, 0⟩
def aw4 : M := ⟨100, [[120]], [[120]], [([97], 0)], [([97], 0)], [], false, 0⟩
theorem aw_1 : call (Dk.new 100) 1 [97] [] 0 [] = (aw1, 0) := by kernel_rfl
theorem aw_2 : call aw1 2 [97] [] 0 [120] = (aw2, 0) := by kernel_rfl
theorem aw_3 : call aw2 3 [97] [] 0 [] = (aw3, 0) := by kernel_rfl
theorem aw_4 : call aw3 6 [] [] 0 [] = (aw4, 0) := by kernel_rfl
theorem aw_5 : Dk.crash aw4 [] = aw4 := by kernel_rfl
theorem aw_w : aw2.wait.length = 2 := rfl
theorem aw_e : readE aw4 [97] = 0 := by kernel_rfl
theorem aw_b : readB aw4 [97] = [120] := by kernel_rfl
theorem aw_u : used aw4 = 1 := by kernel_rfl
theorem aw_n : (namesOf aw4).length = 1 := by unfold namesOf; rw [List.length_mergeSort]; rfl
theorem aw_s1 : Small aw1 1 1 := by have := (Small.new 100 (by omega)).call (b := 1) 1 [97] [] 0 [] (by simp) (by simp) (by simp); rw [aw_1] at this; exact this
theorem aw_s2 : Small aw2 2 2 := by have := aw_s1.call (b := 1) 2 [97] [] 0 [120] (by simp) (by simp) (by simp); rw [aw_2] at this; exact this
theorem aw_s3 : Small aw3 3 3 := by have := aw_s2.call (b := 1) 3 [97] [] 0 [] (by simp) (by simp) (by simp); rw [aw_3] at this; exact this
theorem aw_s4 : Small aw4 4 4 := by have := aw_s3.call (b := 1) 6 [] [] 0 [] (by simp) (by simp) (by simp); rw [aw_4] at this; exact this

theorem under_u8 : Try.prog.underlying 5 = some (.int .u8) := Try.underlying5
/-- string(b) -/
theorem conv_str {A : Nat → Prop} {w : World} {v : Value} {l : List UInt8} (h : Bts A w v l) : (convert 29 9 v).run Try.prog w = .ok (.string ⟨l.toArray⟩) w := by
  obtain ⟨_, a, cap, rfl, hn, _, h0, hr⟩ := h
  cases a with
  | none =>
    obtain rfl := h0 rfl
    obtain rfl : l = [] := List.eq_nil_of_length_eq_zero (by omega)
    exact run_convert_bytes_nil (P := Try.prog) (w := w) 29 5 Try.underlying29 under_u8 0 0 9 Try.underlying9
  | some a =>
    refine run_convert_bytes_back (P := Try.prog) w 29 9 5 a cap l Try.underlying29 under_u8 Try.underlying9 fun j hj => ?_
    obtain ⟨g, off, e2, _, _, hc⟩ := hr (by omega)
    cases e2
    rw [Addr.add_lit]
    exact hc j (bv l[j]) (by simp [hj])
/-- a literal of bytes -/
theorem bts_lit (w : World) (l : List UInt8) (fr : Nat × Nat) (hl : l.length ≤ maxLen) : Bts (fun k => k = w.heap.size) (w.alloc (.cells (l.map bv).toArray 5 fr)) (.slice (some ⟨w.heap.size, 0, none⟩) l.length l.length) l :=
  Sl.mk (by simp) rfl (by simp) (Nat.le_refl _) hl fun j u hu => by
    rw [World.cell?_alloc_mark]; simpa using hu

set_option maxRecDepth 100000 in
set_option maxHeartbeats 1000000 in
theorem awake_any (w : World) : Calls Try.prog 9 #[] w fun e w' => e = .returned (.bool true) ∧ Keep No w w' := by
  go_enter Try.func9, Try.ntmps9
  go_wp2_with (first | (at_builtin; refine wl_append rfl _ _ _ _ rfl _ _ rfl rfl ?_) | (at_make; refine wl_make rfl _ _ _ rfl _ _ rfl rfl ?_) | (at_mapUpdate; refine wl_mapUpdate rfl _ _ _ _ rfl _ _ _ rfl rfl rfl ?_) | (at_lookup; refine wl_lookup rfl _ _ _ _ rfl _ _ rfl rfl ?_) | (at_delete; refine wl_delete rfl _ _ _ _ rfl _ _ rfl rfl ?_) | (with_reducible refine wl_len rfl _ _ rfl _ rfl ?_) | (with_reducible refine wl_range rfl _ _ rfl _ rfl ?_) | (with_reducible refine wl_next rfl _ rfl _ rfl ?_) | (with_reducible refine wl_copy rfl _ _ _ _ rfl _ _ rfl rfl ?_) | (with_reducible refine wl_max rfl _ _ _ _ rfl _ _ rfl rfl ?_) | (with_reducible refine wl_min rfl _ _ _ _ rfl _ _ rfl rfl ?_))
  refine (new_own 100 w (fun k => w.heap.size ≤ k) (fun _ h => h)).mono ?_
  rintro e w1 ⟨d, rfl, h1, k1⟩
  have z1 := k1.size
  have k1' : Keep (fun k => w.heap.size ≤ k) w w1 := k1.mono fun _ _ h => h.elim
  clear k1
  unfold ptrTo
  go_wp2_with (first | (at_builtin; refine wl_append rfl _ _ _ _ rfl _ _ rfl rfl ?_) | (at_make; refine wl_make rfl _ _ _ rfl _ _ rfl rfl ?_) | (at_mapUpdate; refine wl_mapUpdate rfl _ _ _ _ rfl _ _ _ rfl rfl rfl ?_) | (at_lookup; refine wl_lookup rfl _ _ _ _ rfl _ _ rfl rfl ?_) | (at_delete; refine wl_delete rfl _ _ _ _ rfl _ _ rfl rfl ?_) | (with_reducible refine wl_len rfl _ _ rfl _ rfl ?_) | (with_reducible refine wl_range rfl _ _ rfl _ rfl ?_) | (with_reducible refine wl_next rfl _ rfl _ rfl ?_) | (with_reducible refine wl_copy rfl _ _ _ _ rfl _ _ rfl rfl ?_) | (with_reducible refine wl_max rfl _ _ _ _ rfl _ _ rfl rfl ?_) | (with_reducible refine wl_min rfl _ _ _ _ rfl _ _ rfl rfl ?_))
  refine (create_own [97] h1 (fun k hk => by omega) (Small.new 100 (by omega)) (by omega) (by omega) (by simp)).mono ?_
  rintro e w2 ⟨rfl, h2, k2⟩
  rw [aw_1] at h2 ⊢
  have k2' := k1'.trans' k2
  have z2 := k2.size
  clear h1 k2 k1'
  have hcv := Lib.run_convert_bytes_const (P := Try.prog) w2 29 5 #[.int .u8 120] 1 1 Try.underlying29 under_u8
  go_wp2_with (first | (at_builtin; refine wl_append rfl _ _ _ _ rfl _ _ rfl rfl ?_) | (at_make; refine wl_make rfl _ _ _ rfl _ _ rfl rfl ?_) | (at_mapUpdate; refine wl_mapUpdate rfl _ _ _ _ rfl _ _ _ rfl rfl rfl ?_) | (at_lookup; refine wl_lookup rfl _ _ _ _ rfl _ _ rfl rfl ?_) | (at_delete; refine wl_delete rfl _ _ _ _ rfl _ _ rfl rfl ?_) | (with_reducible refine wl_len rfl _ _ rfl _ rfl ?_) | (with_reducible refine wl_range rfl _ _ rfl _ rfl ?_) | (with_reducible refine wl_next rfl _ rfl _ rfl ?_) | (with_reducible refine wl_copy rfl _ _ _ _ rfl _ _ rfl rfl ?_) | (with_reducible refine wl_max rfl _ _ _ _ rfl _ _ rfl rfl ?_) | (with_reducible refine wl_min rfl _ _ _ _ rfl _ _ rfl rfl ?_))
  have hbt := bts_lit w2 [120] (1, 2) (by unfold maxLen; simp)
  generalize hW : w2.alloc (Obj.cells #[Value.int IntKind.u8 120] 5 (1, 2)) = W at *
  have hbt' : Bts (fun k => k = w2.heap.size) W (.slice (some ⟨w2.heap.size, 0, none⟩) 1 1) [120] := by
    have e : w2.alloc (Obj.cells (([120] : List UInt8).map bv).toArray 5 (1, 2)) = W := hW
    rw [e] at hbt; exact hbt
  have hkW : Keep No w2 W := by rw [← hW]; exact (Keep.refl _ _).alloc _
  have hWs : W.heap.size = w2.heap.size + 1 := by rw [← hW]; simp
  clear hW hcv hbt
  refine (write_own (P := fun k => w.heap.size ≤ k) [97] [120] 0 (DR.keep h2 (fun k hk => hk.2) hkW fun _ _ h => h) (fun k hk => ⟨hk.1, by have := hk.2; omega⟩) (fun k hk => by omega) aw_s1 (by omega) (by omega) (by simp) (by simp) hbt' (fun k hk ha => by have := ha.2; omega)).mono ?_
  rintro e w3 ⟨rfl, h3, k3⟩
  rw [aw_2] at h3 ⊢
  have k3' : Keep (fun k => w.heap.size ≤ k) w w3 := (k2'.trans' (hkW.mono fun _ _ h => h.elim)).trans k3 fun k _ ha => ha.1
  have z3 := k3.size
  clear h2 k2' k3 hkW hbt'
  go_wp2_with (first | (at_builtin; refine wl_append rfl _ _ _ _ rfl _ _ rfl rfl ?_) | (at_make; refine wl_make rfl _ _ _ rfl _ _ rfl rfl ?_) | (at_mapUpdate; refine wl_mapUpdate rfl _ _ _ _ rfl _ _ _ rfl rfl rfl ?_) | (at_lookup; refine wl_lookup rfl _ _ _ _ rfl _ _ rfl rfl ?_) | (at_delete; refine wl_delete rfl _ _ _ _ rfl _ _ rfl rfl ?_) | (with_reducible refine wl_len rfl _ _ rfl _ rfl ?_) | (with_reducible refine wl_range rfl _ _ rfl _ rfl ?_) | (with_reducible refine wl_next rfl _ rfl _ rfl ?_) | (with_reducible refine wl_copy rfl _ _ _ _ rfl _ _ rfl rfl ?_) | (with_reducible refine wl_max rfl _ _ _ _ rfl _ _ rfl rfl ?_) | (with_reducible refine wl_min rfl _ _ _ _ rfl _ _ rfl rfl ?_))
  refine (pending_any _ h3).mono ?_
  rintro e w4 ⟨rfl, rfl⟩
  rw [aw_w]
  go_wp2_with (first | (at_builtin; refine wl_append rfl _ _ _ _ rfl _ _ rfl rfl ?_) | (at_make; refine wl_make rfl _ _ _ rfl _ _ rfl rfl ?_) | (at_mapUpdate; refine wl_mapUpdate rfl _ _ _ _ rfl _ _ _ rfl rfl rfl ?_) | (at_lookup; refine wl_lookup rfl _ _ _ _ rfl _ _ rfl rfl ?_) | (at_delete; refine wl_delete rfl _ _ _ _ rfl _ _ rfl rfl ?_) | (with_reducible refine wl_len rfl _ _ rfl _ rfl ?_) | (with_reducible refine wl_range rfl _ _ rfl _ rfl ?_) | (with_reducible refine wl_next rfl _ rfl _ rfl ?_) | (with_reducible refine wl_copy rfl _ _ _ _ rfl _ _ rfl rfl ?_) | (with_reducible refine wl_max rfl _ _ _ _ rfl _ _ rfl rfl ?_) | (with_reducible refine wl_min rfl _ _ _ _ rfl _ _ rfl rfl ?_))
  refine (sync_own [97] h3 (fun k hk => by omega) aw_s2 (by omega) (by omega) (by simp)).mono ?_
  rintro e w4 ⟨rfl, h4, k4⟩
  rw [aw_3] at h4 ⊢
  have k4' := k3'.trans' k4
  have z4 := k4.size
  clear h3 k3' k4
  go_wp2_with (first | (at_builtin; refine wl_append rfl _ _ _ _ rfl _ _ rfl rfl ?_) | (at_make; refine wl_make rfl _ _ _ rfl _ _ rfl rfl ?_) | (at_mapUpdate; refine wl_mapUpdate rfl _ _ _ _ rfl _ _ _ rfl rfl rfl ?_) | (at_lookup; refine wl_lookup rfl _ _ _ _ rfl _ _ rfl rfl ?_) | (at_delete; refine wl_delete rfl _ _ _ _ rfl _ _ rfl rfl ?_) | (with_reducible refine wl_len rfl _ _ rfl _ rfl ?_) | (with_reducible refine wl_range rfl _ _ rfl _ rfl ?_) | (with_reducible refine wl_next rfl _ rfl _ rfl ?_) | (with_reducible refine wl_copy rfl _ _ _ _ rfl _ _ rfl rfl ?_) | (with_reducible refine wl_max rfl _ _ _ _ rfl _ _ rfl rfl ?_) | (with_reducible refine wl_min rfl _ _ _ _ rfl _ _ rfl rfl ?_))
  refine (syncnames_own h4 (fun k hk => by omega) aw_s3 (by omega) (by omega)).mono ?_
  rintro e w5 ⟨rfl, h5, k5⟩
  rw [aw_4] at h5 ⊢
  have k5' := k4'.trans' k5
  have z5 := k5.size
  clear h4 k4' k5
  go_wp2_with (first | (at_builtin; refine wl_append rfl _ _ _ _ rfl _ _ rfl rfl ?_) | (at_make; refine wl_make rfl _ _ _ rfl _ _ rfl rfl ?_) | (at_mapUpdate; refine wl_mapUpdate rfl _ _ _ _ rfl _ _ _ rfl rfl rfl ?_) | (at_lookup; refine wl_lookup rfl _ _ _ _ rfl _ _ rfl rfl ?_) | (at_delete; refine wl_delete rfl _ _ _ _ rfl _ _ rfl rfl ?_) | (with_reducible refine wl_len rfl _ _ rfl _ rfl ?_) | (with_reducible refine wl_range rfl _ _ rfl _ rfl ?_) | (with_reducible refine wl_next rfl _ rfl _ rfl ?_) | (with_reducible refine wl_copy rfl _ _ _ _ rfl _ _ rfl rfl ?_) | (with_reducible refine wl_max rfl _ _ _ _ rfl _ _ rfl rfl ?_) | (with_reducible refine wl_min rfl _ _ _ _ rfl _ _ rfl rfl ?_))
  refine (crash_own (B := No) [] h5 (fun k hk => hk) (fun k hk => by omega) aw_s4 (by omega) (by omega) (Sl.nil _ _ _) (fun _ h => h.elim)).mono ?_
  rintro e w6 ⟨rfl, h6, k6⟩
  rw [aw_5] at h6
  have k6' : Keep (fun k => w.heap.size ≤ k) w w6 := k5'.trans k6 fun k _ ha => ha.1
  have z6 := k6.size
  clear h5 k5' k6
  go_wp2_with (first | (at_builtin; refine wl_append rfl _ _ _ _ rfl _ _ rfl rfl ?_) | (at_make; refine wl_make rfl _ _ _ rfl _ _ rfl rfl ?_) | (at_mapUpdate; refine wl_mapUpdate rfl _ _ _ _ rfl _ _ _ rfl rfl rfl ?_) | (at_lookup; refine wl_lookup rfl _ _ _ _ rfl _ _ rfl rfl ?_) | (at_delete; refine wl_delete rfl _ _ _ _ rfl _ _ rfl rfl ?_) | (with_reducible refine wl_len rfl _ _ rfl _ rfl ?_) | (with_reducible refine wl_range rfl _ _ rfl _ rfl ?_) | (with_reducible refine wl_next rfl _ rfl _ rfl ?_) | (with_reducible refine wl_copy rfl _ _ _ _ rfl _ _ rfl rfl ?_) | (with_reducible refine wl_max rfl _ _ _ _ rfl _ _ rfl rfl ?_) | (with_reducible refine wl_min rfl _ _ _ _ rfl _ _ rfl rfl ?_))
  refine (read_own [97] h6 aw_s4 (by omega) (by simp)).mono ?_
  rintro e w7 ⟨v, rfl, hv, k7⟩
  rw [aw_e]
  rw [aw_b] at hv
  have h7 := h6.keep k7 fun _ _ h => h
  have k7' := k6'.trans' (k7.mono fun _ _ h => h.elim)
  obtain ⟨av, cv, rfl, _, _⟩ := (Sl.of_own hv).shape
  have hcv : (convert 29 9 (.slice av 1 cv)).run Try.prog w7 = .ok (.string ⟨#[120]⟩) w7 := conv_str (Sl.of_own hv)
  clear h6 k6' k7 hv
  go_wp2_with (first | (at_builtin; refine wl_append rfl _ _ _ _ rfl _ _ rfl rfl ?_) | (at_make; refine wl_make rfl _ _ _ rfl _ _ rfl rfl ?_) | (at_mapUpdate; refine wl_mapUpdate rfl _ _ _ _ rfl _ _ _ rfl rfl rfl ?_) | (at_lookup; refine wl_lookup rfl _ _ _ _ rfl _ _ rfl rfl ?_) | (at_delete; refine wl_delete rfl _ _ _ _ rfl _ _ rfl rfl ?_) | (with_reducible refine wl_len rfl _ _ rfl _ rfl ?_) | (with_reducible refine wl_range rfl _ _ rfl _ rfl ?_) | (with_reducible refine wl_next rfl _ rfl _ rfl ?_) | (with_reducible refine wl_copy rfl _ _ _ _ rfl _ _ rfl rfl ?_) | (with_reducible refine wl_max rfl _ _ _ _ rfl _ _ rfl rfl ?_) | (with_reducible refine wl_min rfl _ _ _ _ rfl _ _ rfl rfl ?_))
  refine (used_own h7 aw_s4 (by omega) (by omega)).mono ?_
  rintro e w8 ⟨rfl, k8⟩
  rw [aw_u]
  have h8 := h7.keep k8 fun _ _ h => h
  have k8' := k7'.trans' (k8.mono fun _ _ h => h.elim)
  clear h7 k7' k8 hcv
  go_wp2_with (first | (at_builtin; refine wl_append rfl _ _ _ _ rfl _ _ rfl rfl ?_) | (at_make; refine wl_make rfl _ _ _ rfl _ _ rfl rfl ?_) | (at_mapUpdate; refine wl_mapUpdate rfl _ _ _ _ rfl _ _ _ rfl rfl rfl ?_) | (at_lookup; refine wl_lookup rfl _ _ _ _ rfl _ _ rfl rfl ?_) | (at_delete; refine wl_delete rfl _ _ _ _ rfl _ _ rfl rfl ?_) | (with_reducible refine wl_len rfl _ _ rfl _ rfl ?_) | (with_reducible refine wl_range rfl _ _ rfl _ rfl ?_) | (with_reducible refine wl_next rfl _ rfl _ rfl ?_) | (with_reducible refine wl_copy rfl _ _ _ _ rfl _ _ rfl rfl ?_) | (with_reducible refine wl_max rfl _ _ _ _ rfl _ _ rfl rfl ?_) | (with_reducible refine wl_min rfl _ _ _ _ rfl _ _ rfl rfl ?_))
  refine (names_own h8 aw_s4 (by omega)).mono ?_
  rintro e w9 ⟨v, rfl, hv, k9⟩
  have k9' := k8'.trans' (k9.mono fun _ _ h => h.elim)
  obtain ⟨av2, cv2, rfl, _, _⟩ := (Sl.of_own hv).shape
  rw [aw_n]
  clear h8 k8' k9 hv
  go_wp2_with (first | (at_builtin; refine wl_append rfl _ _ _ _ rfl _ _ rfl rfl ?_) | (at_make; refine wl_make rfl _ _ _ rfl _ _ rfl rfl ?_) | (at_mapUpdate; refine wl_mapUpdate rfl _ _ _ _ rfl _ _ _ rfl rfl rfl ?_) | (at_lookup; refine wl_lookup rfl _ _ _ _ rfl _ _ rfl rfl ?_) | (at_delete; refine wl_delete rfl _ _ _ _ rfl _ _ rfl rfl ?_) | (with_reducible refine wl_len rfl _ _ rfl _ rfl ?_) | (with_reducible refine wl_range rfl _ _ rfl _ rfl ?_) | (with_reducible refine wl_next rfl _ rfl _ rfl ?_) | (with_reducible refine wl_copy rfl _ _ _ _ rfl _ _ rfl rfl ?_) | (with_reducible refine wl_max rfl _ _ _ _ rfl _ _ rfl rfl ?_) | (with_reducible refine wl_min rfl _ _ _ _ rfl _ _ rfl rfl ?_))
  go_ret
  exact ⟨rfl, k9'.os, k9'.tape, k9'.output, k9'.size, fun k hk _ => k9'.block k hk (by omega)⟩
end Go.Proofs.Ytkmoomgmmhmaeaa
