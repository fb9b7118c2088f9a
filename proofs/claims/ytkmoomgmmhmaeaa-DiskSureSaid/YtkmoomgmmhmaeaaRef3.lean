/- The reference of the disk: laid. No condition. -/
import Derived.Test.YtkmoomgmmhmaeaaRef2
namespace Go.Proofs.Ytkmoomgmmhmaeaa
open Go.RowKit Go.Dm Go.Dm.Dk

theorem str_app (a b : List UInt8) : (⟨a.toArray⟩ ++ ⟨b.toArray⟩ : ByteArray) = ⟨(a ++ b).toArray⟩ := by
  apply ByteArray.ext
  simp
theorem str_ext (a : List UInt8) (i j : Nat) : (⟨a.toArray⟩ : ByteArray).extract i j = ⟨((a.drop i).take (j - i)).toArray⟩ := by
  apply ByteArray.ext
  rw [ByteArray.data_extract]
  simp
theorem ret_str {a b : ByteArray} (h : a = b) : Ending.returned (.string a) = .returned (.string b) := by rw [h]
def padB (s : List UInt8) (i : Nat) : List UInt8 := s ++ List.replicate (i - s.length) 0
theorem padB_len (s : List UInt8) (i : Nat) : (padB s i).length = max s.length i := by simp [padB]; omega
theorem laidB_pad (s : List UInt8) (i : Nat) (b : List UInt8) : laidB s i b = (padB s i).take i ++ b ++ (padB s i).drop (i + b.length) := by
  have h0 : splice (List.replicate (max s.length (i + b.length)) (0 : UInt8)) 0 s = s ++ List.replicate (i + b.length - s.length) 0 := by
    unfold splice
    rw [List.take_zero, List.nil_append, Nat.zero_add, List.drop_replicate]
    congr 2; omega
  unfold laidB
  rw [h0]
  unfold splice padB
  rcases Nat.le_total i s.length with h | h
  · rw [List.take_append_of_le_length h, List.take_append_of_le_length h, Nat.sub_eq_zero_of_le h]
    rw [List.drop_append, List.replicate_zero, List.append_nil]
    have : (List.replicate (i + b.length - s.length) (0 : UInt8)).drop (i + b.length - s.length) = [] := List.drop_eq_nil_of_le (by simp)
    rw [this, List.append_nil, List.append_assoc]
  · have e1 : (s ++ List.replicate (i - s.length) (0 : UInt8)).drop (i + b.length) = [] := List.drop_eq_nil_of_le (by rw [List.length_append, List.length_replicate]; omega)
    have e2 : (s ++ List.replicate (i + b.length - s.length) (0 : UInt8)).drop (i + b.length) = [] := List.drop_eq_nil_of_le (by rw [List.length_append, List.length_replicate]; omega)
    rw [e1, e2]
    rw [List.take_append, List.take_append, List.take_replicate, List.take_replicate]
    rw [Nat.min_eq_left (by omega), Nat.min_self]
    simp
theorem pad_succ (s : List UInt8) (k : Nat) (h : s.length ≤ k) : padB s k ++ [0] = padB s (k + 1) := by
  unfold padB
  rw [List.append_assoc, ← List.replicate_succ']
  congr 2; omega
theorem pad_eq {s p : List UInt8} {k i : Nat} (h : padB s k = p) (hl : p.length = max s.length k) (hk : k ≤ s.length ∨ k ≤ i) (hi : p.length ≥ i) : padB s i = p := by
  rw [← h]
  unfold padB
  congr 2; omega
theorem pad_max (s : List UInt8) (k : Nat) : padB s k = padB s (max s.length k) := by unfold padB; congr 2; omega

set_option maxRecDepth 100000 in
set_option maxHeartbeats 1000000 in
theorem rlaid_any {w : World} (s : List UInt8) (i : Nat) (b : List UInt8) (hs : s.length ≤ 1000000) (hi : i ≤ 1000000) (hb : b.length ≤ 1000000) :
    Calls Try.prog 88 #[.string ⟨s.toArray⟩, .int .i64 (i : Int), .string ⟨b.toArray⟩] w fun e w' => e = .returned (.string ⟨(laidB s i b).toArray⟩) ∧ Keep No w w' := by
  go_enter Try.func88, Try.ntmps88
  go_wp2_with (first | (at_builtin; refine wl_append rfl _ _ _ _ rfl _ _ rfl rfl ?_) | (at_make; refine wl_make rfl _ _ _ rfl _ _ rfl rfl ?_) | (at_mapUpdate; refine wl_mapUpdate rfl _ _ _ _ rfl _ _ _ rfl rfl rfl ?_) | (at_lookup; refine wl_lookup rfl _ _ _ _ rfl _ _ rfl rfl ?_) | (at_delete; refine wl_delete rfl _ _ _ _ rfl _ _ rfl rfl ?_) | (with_reducible refine wl_len rfl _ _ rfl _ rfl ?_) | (with_reducible refine wl_range rfl _ _ rfl _ rfl ?_) | (with_reducible refine wl_next rfl _ rfl _ rfl ?_) | (with_reducible refine wl_copy rfl _ _ _ _ rfl _ _ rfl rfl ?_) | (with_reducible refine wl_max rfl _ _ _ _ rfl _ _ rfl rfl ?_) | (with_reducible refine wl_min rfl _ _ _ _ rfl _ _ rfl rfl ?_))
  go_loopw [0] (fun sv wr => ∃ k : Nat, sv = .string ⟨(padB s k).toArray⟩ ∧ (k ≤ s.length ∨ k ≤ i) ∧ wr = w) (fun sv _ => i - (match sv with | .string s => s.size | _ => 0))
  case atStart => exact ⟨0, by simp [padB], .inl (Nat.zero_le _), rfl⟩
  case round =>
    obtain ⟨k, rfl, hk, rfl⟩ := hrel
    have hl := padB_len s k
    generalize hp : padB s k = p at *
    have HP := Lib.hid hp
    have HL := Lib.hid hl
    have hpl : p.length ≤ 1000000 := by omega
    clear hp hl
    rcases Nat.lt_or_ge p.length i with hlt | hge
    · go_wp2_with (first | (at_builtin; refine wl_append rfl _ _ _ _ rfl _ _ rfl rfl ?_) | (at_make; refine wl_make rfl _ _ _ rfl _ _ rfl rfl ?_) | (at_mapUpdate; refine wl_mapUpdate rfl _ _ _ _ rfl _ _ _ rfl rfl rfl ?_) | (at_lookup; refine wl_lookup rfl _ _ _ _ rfl _ _ rfl rfl ?_) | (at_delete; refine wl_delete rfl _ _ _ _ rfl _ _ rfl rfl ?_) | (with_reducible refine wl_len rfl _ _ rfl _ rfl ?_) | (with_reducible refine wl_range rfl _ _ rfl _ rfl ?_) | (with_reducible refine wl_next rfl _ rfl _ rfl ?_) | (with_reducible refine wl_copy rfl _ _ _ _ rfl _ _ rfl rfl ?_) | (with_reducible refine wl_max rfl _ _ _ _ rfl _ _ rfl rfl ?_) | (with_reducible refine wl_min rfl _ _ _ _ rfl _ _ rfl rfl ?_))
      go_roundw
      case rel =>
        have hl := HL.out
        refine ⟨max s.length k + 1, ?_, by omega, trivial⟩
        rw [← pad_succ _ _ (by omega), ← pad_max, HP.out]
        rw [str_app]
      case measure =>
        show i - (ByteArray.size (⟨p.toArray⟩ ++ ⟨#[0]⟩)) < i - (ByteArray.size ⟨p.toArray⟩)
        rw [show (⟨#[0]⟩ : ByteArray) = ⟨([0] : List UInt8).toArray⟩ from rfl, str_app]
        show i - (p ++ [0]).toArray.size < i - p.toArray.size
        simp; omega
    · have hge' : (i : Int) ≤ (p.length : Int) := by omega
      rcases Nat.lt_or_ge (i + b.length) p.length with hlt2 | hge2
      · have hlt3 : (i : Int) + (b.length : Int) < (p.length : Int) := by omega
        have s2 : IntKind.i64.wrap ((i : Int) + (b.length : Int)) = (i : Int) + (b.length : Int) := IntWalk.i64_in _ (by omega)
        go_wp2_with (first | (at_builtin; refine wl_append rfl _ _ _ _ rfl _ _ rfl rfl ?_) | (at_make; refine wl_make rfl _ _ _ rfl _ _ rfl rfl ?_) | (at_mapUpdate; refine wl_mapUpdate rfl _ _ _ _ rfl _ _ _ rfl rfl rfl ?_) | (at_lookup; refine wl_lookup rfl _ _ _ _ rfl _ _ rfl rfl ?_) | (at_delete; refine wl_delete rfl _ _ _ _ rfl _ _ rfl rfl ?_) | (with_reducible refine wl_len rfl _ _ rfl _ rfl ?_) | (with_reducible refine wl_range rfl _ _ rfl _ rfl ?_) | (with_reducible refine wl_next rfl _ rfl _ rfl ?_) | (with_reducible refine wl_copy rfl _ _ _ _ rfl _ _ rfl rfl ?_) | (with_reducible refine wl_max rfl _ _ _ _ rfl _ _ rfl rfl ?_) | (with_reducible refine wl_min rfl _ _ _ _ rfl _ _ rfl rfl ?_))
        go_quiet (fail)
        go_wp2_with (first | (at_builtin; refine wl_append rfl _ _ _ _ rfl _ _ rfl rfl ?_) | (at_make; refine wl_make rfl _ _ _ rfl _ _ rfl rfl ?_) | (at_mapUpdate; refine wl_mapUpdate rfl _ _ _ _ rfl _ _ _ rfl rfl rfl ?_) | (at_lookup; refine wl_lookup rfl _ _ _ _ rfl _ _ rfl rfl ?_) | (at_delete; refine wl_delete rfl _ _ _ _ rfl _ _ rfl rfl ?_) | (with_reducible refine wl_len rfl _ _ rfl _ rfl ?_) | (with_reducible refine wl_range rfl _ _ rfl _ rfl ?_) | (with_reducible refine wl_next rfl _ rfl _ rfl ?_) | (with_reducible refine wl_copy rfl _ _ _ _ rfl _ _ rfl rfl ?_) | (with_reducible refine wl_max rfl _ _ _ _ rfl _ _ rfl rfl ?_) | (with_reducible refine wl_min rfl _ _ _ _ rfl _ _ rfl rfl ?_))
        go_ret
        refine ⟨ret_str ?_, (Keep.refl _ _).drewN _⟩
        rw [str_ext, str_ext, str_app, str_app, laidB_pad, pad_eq HP.out HL.out hk hge]
        simp only [Nat.sub_zero, List.drop_zero]
        rw [List.take_of_length_le (l := p.drop _) (by simp)]
      · go_wp2_with (first | (at_builtin; refine wl_append rfl _ _ _ _ rfl _ _ rfl rfl ?_) | (at_make; refine wl_make rfl _ _ _ rfl _ _ rfl rfl ?_) | (at_mapUpdate; refine wl_mapUpdate rfl _ _ _ _ rfl _ _ _ rfl rfl rfl ?_) | (at_lookup; refine wl_lookup rfl _ _ _ _ rfl _ _ rfl rfl ?_) | (at_delete; refine wl_delete rfl _ _ _ _ rfl _ _ rfl rfl ?_) | (with_reducible refine wl_len rfl _ _ rfl _ rfl ?_) | (with_reducible refine wl_range rfl _ _ rfl _ rfl ?_) | (with_reducible refine wl_next rfl _ rfl _ rfl ?_) | (with_reducible refine wl_copy rfl _ _ _ _ rfl _ _ rfl rfl ?_) | (with_reducible refine wl_max rfl _ _ _ _ rfl _ _ rfl rfl ?_) | (with_reducible refine wl_min rfl _ _ _ _ rfl _ _ rfl rfl ?_))
        go_ret
        refine ⟨ret_str ?_, Keep.refl _ _⟩
        rw [str_ext, str_app, laidB_pad, pad_eq HP.out HL.out hk hge, List.drop_eq_nil_of_le hge2]
        simp
end Go.Proofs.Ytkmoomgmmhmaeaa
