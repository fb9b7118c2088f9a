/- The reference of the disk: its small functions. No condition. -/
import Derived.Test.YtkmoomgmmhmaeaaFl
import Derived.Test.YtkmoomgmmhmaeaaSig
import Derived.Test.YtkmoomgmmhmaeaaLawRoomM
namespace Go.Proofs.Ytkmoomgmmhmaeaa
open Go.RowKit Go.Dm Go.Dm.Dk

def encNm (p : List UInt8 × Nat) : List Value := [.string ⟨p.1.toArray⟩, .int .i64 p.2]
def encOp (o : Dk.Op) : List Value := [.int .i64 o.kind, .int .i64 o.file, .int .i64 o.at_, .string ⟨o.b.toArray⟩, .string ⟨o.frm.toArray⟩, .string ⟨o.to.toArray⟩]
def encS (s : List UInt8) : List Value := [.string ⟨s.toArray⟩]
def encB (b : Bool) : List Value := [.bool b]
theorem info_nm : (Try.prog.info? 101).map (fun i => (i.zero, i.size, i.bytes)) = some (some (.agg #[.string ⟨#[]⟩, .int .i64 0]), 2, 24) := by kernel_rfl
theorem info_str : (Try.prog.info? 9).map (fun i => (i.zero, i.size, i.bytes)) = some (some (.string ⟨#[]⟩), 1, 16) := by kernel_rfl
theorem info_op : (Try.prog.info? 108).map (fun i => (i.zero, i.size, i.bytes)) = some (some (.agg #[.int .i64 0, .int .i64 0, .int .i64 0, .string ⟨#[]⟩, .string ⟨#[]⟩, .string ⟨#[]⟩]), 6, 72) := by kernel_rfl
theorem info_bool : (Try.prog.info? 4).map (fun i => (i.zero, i.size, i.bytes)) = some (some (.bool false), 1, 1) := by kernel_rfl
theorem nm_one (p : List UInt8 × Nat) : ∀ u ∈ encNm p, u.oneCell' = true := by simp [encNm, Value.oneCell']
theorem op_one (p : Dk.Op) : ∀ u ∈ encOp p, u.oneCell' = true := by simp [encOp, Value.oneCell']
theorem s_one (p : List UInt8) : ∀ u ∈ encS p, u.oneCell' = true := by simp [encS, Value.oneCell']
theorem b_one (p : Bool) : ∀ u ∈ encB p, u.oneCell' = true := by simp [encB, Value.oneCell']

theorem ret_int {k : IntKind} {a b : Int} (h : a = b) : Ending.returned (.int k a) = .returned (.int k b) := by rw [h]
def findZ (L : Names) (s : List UInt8) : Int := match find L s with | some f => f | none => -1
theorem find_step {L : Names} {s : List UInt8} {k : Nat} (hk : k < L.length) (h : ∀ p ∈ L.take k, p.1 ≠ s) : (L[k].1 = s → find L s = some L[k].2) ∧ (L[k].1 ≠ s → ∀ p ∈ L.take (k + 1), p.1 ≠ s) := by
  constructor
  · intro e
    unfold find
    have e1 : L = L.take k ++ L[k] :: L.drop (k + 1) := by rw [← List.drop_eq_getElem_cons hk]; exact (List.take_append_drop k L).symm
    have e2 : (L.take k).find? (fun p => p.1 == s) = none := List.find?_eq_none.2 fun p hp => by simpa using h p hp
    generalize L[k] = q at *
    rw [e1, List.find?_append, e2]
    simp [e]
  · intro hne p hp
    rw [List.take_succ_eq_append_getElem hk] at hp
    rcases List.mem_append.1 hp with hp | hp
    · exact h p hp
    · simp only [List.mem_singleton] at hp; rw [hp]; exact hne
theorem find_out {L : Names} {s : List UInt8} (h : ∀ p ∈ L.take L.length, p.1 ≠ s) : find L s = none := by
  rw [List.take_length] at h
  unfold find
  rw [List.find?_eq_none.2 fun p hp => by simpa using h p hp]; rfl

set_option maxRecDepth 100000 in
set_option maxHeartbeats 1000000 in
theorem rfind_any {A : Nat → Prop} {w : World} {v : Value} {L : Names} (s : List UInt8) (h : Fl A w 2 encNm v L) :
    Calls Try.prog 80 #[v, .string ⟨s.toArray⟩] w fun e w' => e = .returned (.int .i64 (findZ L s)) ∧ w = w' := by
  obtain ⟨a, c, rfl, hc, hm⟩ := h.shape
  unfold maxLen at hm
  go_enter Try.func80, Try.ntmps80
  go_wp2_with (first | (at_builtin; refine wl_append rfl _ _ _ _ rfl _ _ rfl rfl ?_) | (at_make; refine wl_make rfl _ _ _ rfl _ _ rfl rfl ?_) | (at_mapUpdate; refine wl_mapUpdate rfl _ _ _ _ rfl _ _ _ rfl rfl rfl ?_) | (at_lookup; refine wl_lookup rfl _ _ _ _ rfl _ _ rfl rfl ?_) | (at_delete; refine wl_delete rfl _ _ _ _ rfl _ _ rfl rfl ?_) | (with_reducible refine wl_len rfl _ _ rfl _ rfl ?_) | (with_reducible refine wl_range rfl _ _ rfl _ rfl ?_) | (with_reducible refine wl_next rfl _ rfl _ rfl ?_) | (with_reducible refine wl_copy rfl _ _ _ _ rfl _ _ rfl rfl ?_) | (with_reducible refine wl_max rfl _ _ _ _ rfl _ _ rfl rfl ?_) | (with_reducible refine wl_min rfl _ _ _ _ rfl _ _ rfl rfl ?_))
  go_loop [5] (fun iv => ∃ k : Nat, iv = .int .i64 k ∧ k ≤ L.length ∧ ∀ p ∈ L.take k, p.1 ≠ s) (fun iv => L.length - (intOf iv).toNat)
  case atStart => exact ⟨0, rfl, Nat.zero_le _, by simp⟩
  case round =>
    obtain ⟨k, rfl, hk, hp⟩ := hrel
    rcases Nat.lt_or_ge k L.length with hkl | hkl
    · obtain ⟨g, off, cap, e, _, hg, _, _, hcell⟩ := h.at (fun _ => rfl) hkl
      cases e
      have q0 : w.cell? ⟨g, off + k * 2, none⟩ = _ := hcell 0 _ rfl
      have q1 := hcell 1 _ rfl
      obtain ⟨hf, hn⟩ := find_step hkl hp
      have HF := Lib.hid hf
      have HN := Lib.hid hn
      clear hcell hp hf hn
      by_cases hs : L[k].1 = s
      · rw [hs] at q0
        go_wp2_with (first | (at_builtin; refine wl_append rfl _ _ _ _ rfl _ _ rfl rfl ?_) | (at_make; refine wl_make rfl _ _ _ rfl _ _ rfl rfl ?_) | (at_mapUpdate; refine wl_mapUpdate rfl _ _ _ _ rfl _ _ _ rfl rfl rfl ?_) | (at_lookup; refine wl_lookup rfl _ _ _ _ rfl _ _ rfl rfl ?_) | (at_delete; refine wl_delete rfl _ _ _ _ rfl _ _ rfl rfl ?_) | (with_reducible refine wl_len rfl _ _ rfl _ rfl ?_) | (with_reducible refine wl_range rfl _ _ rfl _ rfl ?_) | (with_reducible refine wl_next rfl _ rfl _ rfl ?_) | (with_reducible refine wl_copy rfl _ _ _ _ rfl _ _ rfl rfl ?_) | (with_reducible refine wl_max rfl _ _ _ _ rfl _ _ rfl rfl ?_) | (with_reducible refine wl_min rfl _ _ _ _ rfl _ _ rfl rfl ?_))
        go_ret
        exact ⟨ret_int (by unfold findZ; rw [HF.out hs]), rfl⟩
      · have hs' : (L[k].1 == s) = false := by simpa using hs
        go_wp2_with (first | (at_builtin; refine wl_append rfl _ _ _ _ rfl _ _ rfl rfl ?_) | (at_make; refine wl_make rfl _ _ _ rfl _ _ rfl rfl ?_) | (at_mapUpdate; refine wl_mapUpdate rfl _ _ _ _ rfl _ _ _ rfl rfl rfl ?_) | (at_lookup; refine wl_lookup rfl _ _ _ _ rfl _ _ rfl rfl ?_) | (at_delete; refine wl_delete rfl _ _ _ _ rfl _ _ rfl rfl ?_) | (with_reducible refine wl_len rfl _ _ rfl _ rfl ?_) | (with_reducible refine wl_range rfl _ _ rfl _ rfl ?_) | (with_reducible refine wl_next rfl _ rfl _ rfl ?_) | (with_reducible refine wl_copy rfl _ _ _ _ rfl _ _ rfl rfl ?_) | (with_reducible refine wl_max rfl _ _ _ _ rfl _ _ rfl rfl ?_) | (with_reducible refine wl_min rfl _ _ _ _ rfl _ _ rfl rfl ?_))
        go_round
        case rel => exact ⟨k + 1, by go_num, by omega, HN.out hs⟩
        case measure => simp [intOf]; omega
    · obtain rfl : k = L.length := by omega
      have hf := find_out hp
      clear hp
      go_wp2_with (first | (at_builtin; refine wl_append rfl _ _ _ _ rfl _ _ rfl rfl ?_) | (at_make; refine wl_make rfl _ _ _ rfl _ _ rfl rfl ?_) | (at_mapUpdate; refine wl_mapUpdate rfl _ _ _ _ rfl _ _ _ rfl rfl rfl ?_) | (at_lookup; refine wl_lookup rfl _ _ _ _ rfl _ _ rfl rfl ?_) | (at_delete; refine wl_delete rfl _ _ _ _ rfl _ _ rfl rfl ?_) | (with_reducible refine wl_len rfl _ _ rfl _ rfl ?_) | (with_reducible refine wl_range rfl _ _ rfl _ rfl ?_) | (with_reducible refine wl_next rfl _ rfl _ rfl ?_) | (with_reducible refine wl_copy rfl _ _ _ _ rfl _ _ rfl rfl ?_) | (with_reducible refine wl_max rfl _ _ _ _ rfl _ _ rfl rfl ?_) | (with_reducible refine wl_min rfl _ _ _ _ rfl _ _ rfl rfl ?_))
      go_ret
      exact ⟨ret_int (by unfold findZ; rw [hf]), rfl⟩

theorem without_step {L : Names} (s : List UInt8) {k : Nat} (hk : k < L.length) : without (L.take (k + 1)) s = if L[k].1 = s then without (L.take k) s else without (L.take k) s ++ [L[k]] := by
  rw [List.take_succ_eq_append_getElem hk]
  unfold without
  rw [List.filter_append]
  split
  · rename_i e; simp [e]
  · rename_i e; simp [e]
theorem without_len (L : Names) (s : List UInt8) : (without L s).length ≤ L.length := List.length_filter_le _ _

set_option maxRecDepth 100000 in
set_option maxHeartbeats 1000000 in
theorem rwithout_any {A : Nat → Prop} {w : World} {v : Value} {L : Names} (s : List UInt8) (h : Fl A w 2 encNm v L) (hL : L.length ≤ 1000000) :
    Calls Try.prog 103 #[v, .string ⟨s.toArray⟩] w fun e w' => ∃ v', e = .returned v' ∧ FlO w' w.heap.size 101 2 encNm v' (without L s) ∧ Keep No w w' := by
  obtain ⟨a, c, rfl, hc, hm⟩ := h.shape
  unfold maxLen at hm
  go_enter Try.func103, Try.ntmps103
  go_wp2_with (first | (at_builtin; refine wl_append rfl _ _ _ _ rfl _ _ rfl rfl ?_) | (at_make; refine wl_make rfl _ _ _ rfl _ _ rfl rfl ?_) | (at_mapUpdate; refine wl_mapUpdate rfl _ _ _ _ rfl _ _ _ rfl rfl rfl ?_) | (at_lookup; refine wl_lookup rfl _ _ _ _ rfl _ _ rfl rfl ?_) | (at_delete; refine wl_delete rfl _ _ _ _ rfl _ _ rfl rfl ?_) | (with_reducible refine wl_len rfl _ _ rfl _ rfl ?_) | (with_reducible refine wl_range rfl _ _ rfl _ rfl ?_) | (with_reducible refine wl_next rfl _ rfl _ rfl ?_) | (with_reducible refine wl_copy rfl _ _ _ _ rfl _ _ rfl rfl ?_) | (with_reducible refine wl_max rfl _ _ _ _ rfl _ _ rfl rfl ?_) | (with_reducible refine wl_min rfl _ _ _ _ rfl _ _ rfl rfl ?_))
  go_loopw [5, 6] (fun ov iv wr => ∃ (k : Nat), iv = .int .i64 k ∧ k ≤ L.length ∧ FlO wr w.heap.size 101 2 encNm ov (without (L.take k) s) ∧ Keep No w wr) (fun _ iv _ => L.length - (intOf iv).toNat)
  case atStart => exact ⟨0, rfl, Nat.zero_le _, FlO.nil, Keep.refl _ _⟩
  case round =>
    obtain ⟨k, rfl, hk, ho, hK⟩ := hrel
    rename_i ov _ _
    rcases Nat.lt_or_ge k L.length with hkl | hkl
    · obtain ⟨g, off, cap, e, _, hg, _, _, hcell⟩ := (h.no hK).at (fun _ => rfl) hkl
      cases e
      have q0 : wr.cell? ⟨g, off + k * 2, none⟩ = _ := hcell 0 _ rfl
      have q1 := hcell 1 _ rfl
      have hst := without_step s hkl
      have hlen := without_len (L.take k) s
      rw [List.length_take] at hlen
      have HS := Lib.hid hst
      clear hcell hst
      by_cases hs : L[k].1 = s
      · rw [hs] at q0
        go_wp2_with (first | (at_builtin; refine wl_append rfl _ _ _ _ rfl _ _ rfl rfl ?_) | (at_make; refine wl_make rfl _ _ _ rfl _ _ rfl rfl ?_) | (at_mapUpdate; refine wl_mapUpdate rfl _ _ _ _ rfl _ _ _ rfl rfl rfl ?_) | (at_lookup; refine wl_lookup rfl _ _ _ _ rfl _ _ rfl rfl ?_) | (at_delete; refine wl_delete rfl _ _ _ _ rfl _ _ rfl rfl ?_) | (with_reducible refine wl_len rfl _ _ rfl _ rfl ?_) | (with_reducible refine wl_range rfl _ _ rfl _ rfl ?_) | (with_reducible refine wl_next rfl _ rfl _ rfl ?_) | (with_reducible refine wl_copy rfl _ _ _ _ rfl _ _ rfl rfl ?_) | (with_reducible refine wl_max rfl _ _ _ _ rfl _ _ rfl rfl ?_) | (with_reducible refine wl_min rfl _ _ _ _ rfl _ _ rfl rfl ?_))
        go_roundw
        case rel => exact ⟨k + 1, by go_num, by omega, by rw [HS.out, if_pos hs]; exact ho, hK⟩
        case measure => simp [intOf]; omega
      · have hs' : (L[k].1 == s) = false := by simpa using hs
        obtain ⟨a2, c2, rfl, _, _⟩ := ho.fl.shape
        go_wp2_with (first | (at_builtin; refine wl_append rfl _ _ _ _ rfl _ _ rfl rfl ?_) | (at_make; refine wl_make rfl _ _ _ rfl _ _ rfl rfl ?_) | (at_mapUpdate; refine wl_mapUpdate rfl _ _ _ _ rfl _ _ _ rfl rfl rfl ?_) | (at_lookup; refine wl_lookup rfl _ _ _ _ rfl _ _ rfl rfl ?_) | (at_delete; refine wl_delete rfl _ _ _ _ rfl _ _ rfl rfl ?_) | (with_reducible refine wl_len rfl _ _ rfl _ rfl ?_) | (with_reducible refine wl_range rfl _ _ rfl _ rfl ?_) | (with_reducible refine wl_next rfl _ rfl _ rfl ?_) | (with_reducible refine wl_copy rfl _ _ _ _ rfl _ _ rfl rfl ?_) | (with_reducible refine wl_max rfl _ _ _ _ rfl _ _ rfl rfl ?_) | (with_reducible refine wl_min rfl _ _ _ _ rfl _ _ rfl rfl ?_))
        refine rg_push _ 24 Try.underlying44 info_nm rfl (by decide) (x := L[k]) rfl rfl (nm_one _) ho (by omega) (by decide) hK.size ?_
        intro v' w2 ho2 hk2 _
        go_wp2_with (first | (at_builtin; refine wl_append rfl _ _ _ _ rfl _ _ rfl rfl ?_) | (at_make; refine wl_make rfl _ _ _ rfl _ _ rfl rfl ?_) | (at_mapUpdate; refine wl_mapUpdate rfl _ _ _ _ rfl _ _ _ rfl rfl rfl ?_) | (at_lookup; refine wl_lookup rfl _ _ _ _ rfl _ _ rfl rfl ?_) | (at_delete; refine wl_delete rfl _ _ _ _ rfl _ _ rfl rfl ?_) | (with_reducible refine wl_len rfl _ _ rfl _ rfl ?_) | (with_reducible refine wl_range rfl _ _ rfl _ rfl ?_) | (with_reducible refine wl_next rfl _ rfl _ rfl ?_) | (with_reducible refine wl_copy rfl _ _ _ _ rfl _ _ rfl rfl ?_) | (with_reducible refine wl_max rfl _ _ _ _ rfl _ _ rfl rfl ?_) | (with_reducible refine wl_min rfl _ _ _ _ rfl _ _ rfl rfl ?_))
        go_roundw
        case rel => exact ⟨k + 1, by go_num, by omega, by rw [HS.out, if_neg hs]; exact ho2, hK.own ho hk2⟩
        case measure => simp [intOf]; omega
    · obtain rfl : k = L.length := by omega
      rw [List.take_length] at ho
      obtain ⟨a2, c2, rfl, _, _⟩ := ho.fl.shape
      go_wp2_with (first | (at_builtin; refine wl_append rfl _ _ _ _ rfl _ _ rfl rfl ?_) | (at_make; refine wl_make rfl _ _ _ rfl _ _ rfl rfl ?_) | (at_mapUpdate; refine wl_mapUpdate rfl _ _ _ _ rfl _ _ _ rfl rfl rfl ?_) | (at_lookup; refine wl_lookup rfl _ _ _ _ rfl _ _ rfl rfl ?_) | (at_delete; refine wl_delete rfl _ _ _ _ rfl _ _ rfl rfl ?_) | (with_reducible refine wl_len rfl _ _ rfl _ rfl ?_) | (with_reducible refine wl_range rfl _ _ rfl _ rfl ?_) | (with_reducible refine wl_next rfl _ rfl _ rfl ?_) | (with_reducible refine wl_copy rfl _ _ _ _ rfl _ _ rfl rfl ?_) | (with_reducible refine wl_max rfl _ _ _ _ rfl _ _ rfl rfl ?_) | (with_reducible refine wl_min rfl _ _ _ _ rfl _ _ rfl rfl ?_))
      go_ret
      exact ⟨_, rfl, ho, hK⟩

set_option maxRecDepth 100000 in
set_option maxHeartbeats 1000000 in
theorem rwith_any {A : Nat → Prop} {w : World} {v : Value} {L : Names} (s : List UInt8) (f : Nat) (h : Fl A w 2 encNm v L) (hL : L.length ≤ 1000000) :
    Calls Try.prog 102 #[v, .string ⟨s.toArray⟩, .int .i64 (f : Int)] w fun e w' => ∃ v', e = .returned v' ∧ FlO w' w.heap.size 101 2 encNm v' (withN L s f) ∧ Keep No w w' := by
  have hlen := without_len L s
  go_enter Try.func102, Try.ntmps102
  go_wp2_with (first | (at_builtin; refine wl_append rfl _ _ _ _ rfl _ _ rfl rfl ?_) | (at_make; refine wl_make rfl _ _ _ rfl _ _ rfl rfl ?_) | (at_mapUpdate; refine wl_mapUpdate rfl _ _ _ _ rfl _ _ _ rfl rfl rfl ?_) | (at_lookup; refine wl_lookup rfl _ _ _ _ rfl _ _ rfl rfl ?_) | (at_delete; refine wl_delete rfl _ _ _ _ rfl _ _ rfl rfl ?_) | (with_reducible refine wl_len rfl _ _ rfl _ rfl ?_) | (with_reducible refine wl_range rfl _ _ rfl _ rfl ?_) | (with_reducible refine wl_next rfl _ rfl _ rfl ?_) | (with_reducible refine wl_copy rfl _ _ _ _ rfl _ _ rfl rfl ?_) | (with_reducible refine wl_max rfl _ _ _ _ rfl _ _ rfl rfl ?_) | (with_reducible refine wl_min rfl _ _ _ _ rfl _ _ rfl rfl ?_))
  refine (rwithout_any s h hL).mono ?_
  rintro e w1 ⟨v1, rfl, ho, hk⟩
  go_wp2_with (first | (at_builtin; refine wl_append rfl _ _ _ _ rfl _ _ rfl rfl ?_) | (at_make; refine wl_make rfl _ _ _ rfl _ _ rfl rfl ?_) | (at_mapUpdate; refine wl_mapUpdate rfl _ _ _ _ rfl _ _ _ rfl rfl rfl ?_) | (at_lookup; refine wl_lookup rfl _ _ _ _ rfl _ _ rfl rfl ?_) | (at_delete; refine wl_delete rfl _ _ _ _ rfl _ _ rfl rfl ?_) | (with_reducible refine wl_len rfl _ _ rfl _ rfl ?_) | (with_reducible refine wl_range rfl _ _ rfl _ rfl ?_) | (with_reducible refine wl_next rfl _ rfl _ rfl ?_) | (with_reducible refine wl_copy rfl _ _ _ _ rfl _ _ rfl rfl ?_) | (with_reducible refine wl_max rfl _ _ _ _ rfl _ _ rfl rfl ?_) | (with_reducible refine wl_min rfl _ _ _ _ rfl _ _ rfl rfl ?_))
  refine rg_push _ 24 Try.underlying44 info_nm rfl (by decide) (x := (s, f)) rfl rfl (nm_one _) ho (by omega) (by decide) hk.size ?_
  intro v' w2 ho2 hk2 _
  go_wp2_with (first | (at_builtin; refine wl_append rfl _ _ _ _ rfl _ _ rfl rfl ?_) | (at_make; refine wl_make rfl _ _ _ rfl _ _ rfl rfl ?_) | (at_mapUpdate; refine wl_mapUpdate rfl _ _ _ _ rfl _ _ _ rfl rfl rfl ?_) | (at_lookup; refine wl_lookup rfl _ _ _ _ rfl _ _ rfl rfl ?_) | (at_delete; refine wl_delete rfl _ _ _ _ rfl _ _ rfl rfl ?_) | (with_reducible refine wl_len rfl _ _ rfl _ rfl ?_) | (with_reducible refine wl_range rfl _ _ rfl _ rfl ?_) | (with_reducible refine wl_next rfl _ rfl _ rfl ?_) | (with_reducible refine wl_copy rfl _ _ _ _ rfl _ _ rfl rfl ?_) | (with_reducible refine wl_max rfl _ _ _ _ rfl _ _ rfl rfl ?_) | (with_reducible refine wl_min rfl _ _ _ _ rfl _ _ rfl rfl ?_))
  go_ret
  exact ⟨_, rfl, ho2, hk.own ho hk2⟩

def opV (o : Dk.Op) : Value := .agg #[.int .i64 o.kind, .int .i64 o.file, .int .i64 o.at_, .string ⟨o.b.toArray⟩, .string ⟨o.frm.toArray⟩, .string ⟨o.to.toArray⟩]
theorem fl_new {α : Type} {w w' w0 : World} {A : Nat → Prop} {e k : Nat} {enc : α → List Value} {v : Value} {l : List α} (h : FlO w' w.heap.size e k enc v l) (hs : w0.heap.size ≤ w.heap.size) : Fl (Plus A w0 w') w' k enc v l :=
  h.fl.mono fun j hj ha => .inr ⟨Nat.le_trans hs ha.1, hj⟩

set_option maxRecDepth 100000 in
set_option maxHeartbeats 1000000 in
theorem rnames_any {A : Nat → Prop} {w : World} {v : Value} {L : Names} (o : Dk.Op) (h : Fl A w 2 encNm v L) (hL : L.length ≤ 1000000) :
    Calls Try.prog 89 #[v, opV o] w fun e w' => ∃ v', e = .returned v' ∧ Fl (Plus A w w') w' 2 encNm v' (namesOp L o) ∧ Keep No w w' := by
  obtain ⟨kind, file, at_, b, frm, to⟩ := o
  have hB : Blk (w.alloc (.cells #[.int .i64 kind, .int .i64 file, .int .i64 at_, .string ⟨b.toArray⟩, .string ⟨frm.toArray⟩, .string ⟨to.toArray⟩] 108)) w.heap.size #[.int .i64 kind, .int .i64 file, .int .i64 at_, .string ⟨b.toArray⟩, .string ⟨frm.toArray⟩, .string ⟨to.toArray⟩] 108 := Blk.new _ _ _
  have hkW : Keep No w (w.alloc (.cells #[.int .i64 kind, .int .i64 file, .int .i64 at_, .string ⟨b.toArray⟩, .string ⟨frm.toArray⟩, .string ⟨to.toArray⟩] 108)) := (Keep.refl _ _).alloc _
  have h' := h.no hkW
  unfold opV
  simp only
  by_cases h2 : kind = 2
  · subst h2
    have e1 : namesOp L ⟨2, file, at_, b, frm, to⟩ = withN L to file := rfl
    rw [e1]
    go_enter Try.func89, Try.ntmps89
    go_wp2_with (first | (at_builtin; refine wl_append rfl _ _ _ _ rfl _ _ rfl rfl ?_) | (at_make; refine wl_make rfl _ _ _ rfl _ _ rfl rfl ?_) | (at_mapUpdate; refine wl_mapUpdate rfl _ _ _ _ rfl _ _ _ rfl rfl rfl ?_) | (at_lookup; refine wl_lookup rfl _ _ _ _ rfl _ _ rfl rfl ?_) | (at_delete; refine wl_delete rfl _ _ _ _ rfl _ _ rfl rfl ?_) | (with_reducible refine wl_len rfl _ _ rfl _ rfl ?_) | (with_reducible refine wl_range rfl _ _ rfl _ rfl ?_) | (with_reducible refine wl_next rfl _ rfl _ rfl ?_) | (with_reducible refine wl_copy rfl _ _ _ _ rfl _ _ rfl rfl ?_) | (with_reducible refine wl_max rfl _ _ _ _ rfl _ _ rfl rfl ?_) | (with_reducible refine wl_min rfl _ _ _ _ rfl _ _ rfl rfl ?_))
    refine (rwith_any to file h' hL).mono ?_
    rintro e w1 ⟨v1, rfl, ho, hk⟩
    go_wp2_with (first | (at_builtin; refine wl_append rfl _ _ _ _ rfl _ _ rfl rfl ?_) | (at_make; refine wl_make rfl _ _ _ rfl _ _ rfl rfl ?_) | (at_mapUpdate; refine wl_mapUpdate rfl _ _ _ _ rfl _ _ _ rfl rfl rfl ?_) | (at_lookup; refine wl_lookup rfl _ _ _ _ rfl _ _ rfl rfl ?_) | (at_delete; refine wl_delete rfl _ _ _ _ rfl _ _ rfl rfl ?_) | (with_reducible refine wl_len rfl _ _ rfl _ rfl ?_) | (with_reducible refine wl_range rfl _ _ rfl _ rfl ?_) | (with_reducible refine wl_next rfl _ rfl _ rfl ?_) | (with_reducible refine wl_copy rfl _ _ _ _ rfl _ _ rfl rfl ?_) | (with_reducible refine wl_max rfl _ _ _ _ rfl _ _ rfl rfl ?_) | (with_reducible refine wl_min rfl _ _ _ _ rfl _ _ rfl rfl ?_))
    go_ret
    exact ⟨_, rfl, fl_new ho hkW.size, hkW.trans' hk⟩
  by_cases h4 : kind = 4
  · subst h4
    have e1 : namesOp L ⟨4, file, at_, b, frm, to⟩ = without L frm := rfl
    rw [e1]
    go_enter Try.func89, Try.ntmps89
    go_wp2_with (first | (at_builtin; refine wl_append rfl _ _ _ _ rfl _ _ rfl rfl ?_) | (at_make; refine wl_make rfl _ _ _ rfl _ _ rfl rfl ?_) | (at_mapUpdate; refine wl_mapUpdate rfl _ _ _ _ rfl _ _ _ rfl rfl rfl ?_) | (at_lookup; refine wl_lookup rfl _ _ _ _ rfl _ _ rfl rfl ?_) | (at_delete; refine wl_delete rfl _ _ _ _ rfl _ _ rfl rfl ?_) | (with_reducible refine wl_len rfl _ _ rfl _ rfl ?_) | (with_reducible refine wl_range rfl _ _ rfl _ rfl ?_) | (with_reducible refine wl_next rfl _ rfl _ rfl ?_) | (with_reducible refine wl_copy rfl _ _ _ _ rfl _ _ rfl rfl ?_) | (with_reducible refine wl_max rfl _ _ _ _ rfl _ _ rfl rfl ?_) | (with_reducible refine wl_min rfl _ _ _ _ rfl _ _ rfl rfl ?_))
    refine (rwithout_any frm h' hL).mono ?_
    rintro e w1 ⟨v1, rfl, ho, hk⟩
    go_wp2_with (first | (at_builtin; refine wl_append rfl _ _ _ _ rfl _ _ rfl rfl ?_) | (at_make; refine wl_make rfl _ _ _ rfl _ _ rfl rfl ?_) | (at_mapUpdate; refine wl_mapUpdate rfl _ _ _ _ rfl _ _ _ rfl rfl rfl ?_) | (at_lookup; refine wl_lookup rfl _ _ _ _ rfl _ _ rfl rfl ?_) | (at_delete; refine wl_delete rfl _ _ _ _ rfl _ _ rfl rfl ?_) | (with_reducible refine wl_len rfl _ _ rfl _ rfl ?_) | (with_reducible refine wl_range rfl _ _ rfl _ rfl ?_) | (with_reducible refine wl_next rfl _ rfl _ rfl ?_) | (with_reducible refine wl_copy rfl _ _ _ _ rfl _ _ rfl rfl ?_) | (with_reducible refine wl_max rfl _ _ _ _ rfl _ _ rfl rfl ?_) | (with_reducible refine wl_min rfl _ _ _ _ rfl _ _ rfl rfl ?_))
    go_ret
    exact ⟨_, rfl, fl_new ho hkW.size, hkW.trans' hk⟩
  have b2 : ((kind : Int) == 2) = false := by simp; omega
  have b4 : ((kind : Int) == 4) = false := by simp; omega
  cases hf : find L frm with
  | none =>
    have e1 : namesOp L ⟨kind, file, at_, b, frm, to⟩ = L := by simp [namesOp, h2, h4, hf]
    have e2 : findZ L frm = -1 := by simp [findZ, hf]
    rw [e1]
    clear e1
    go_enter Try.func89, Try.ntmps89
    go_wp2_with (first | (at_builtin; refine wl_append rfl _ _ _ _ rfl _ _ rfl rfl ?_) | (at_make; refine wl_make rfl _ _ _ rfl _ _ rfl rfl ?_) | (at_mapUpdate; refine wl_mapUpdate rfl _ _ _ _ rfl _ _ _ rfl rfl rfl ?_) | (at_lookup; refine wl_lookup rfl _ _ _ _ rfl _ _ rfl rfl ?_) | (at_delete; refine wl_delete rfl _ _ _ _ rfl _ _ rfl rfl ?_) | (with_reducible refine wl_len rfl _ _ rfl _ rfl ?_) | (with_reducible refine wl_range rfl _ _ rfl _ rfl ?_) | (with_reducible refine wl_next rfl _ rfl _ rfl ?_) | (with_reducible refine wl_copy rfl _ _ _ _ rfl _ _ rfl rfl ?_) | (with_reducible refine wl_max rfl _ _ _ _ rfl _ _ rfl rfl ?_) | (with_reducible refine wl_min rfl _ _ _ _ rfl _ _ rfl rfl ?_))
    refine (rfind_any frm h').mono ?_
    rintro e w1 ⟨rfl, rfl⟩
    rw [e2]
    go_wp2_with (first | (at_builtin; refine wl_append rfl _ _ _ _ rfl _ _ rfl rfl ?_) | (at_make; refine wl_make rfl _ _ _ rfl _ _ rfl rfl ?_) | (at_mapUpdate; refine wl_mapUpdate rfl _ _ _ _ rfl _ _ _ rfl rfl rfl ?_) | (at_lookup; refine wl_lookup rfl _ _ _ _ rfl _ _ rfl rfl ?_) | (at_delete; refine wl_delete rfl _ _ _ _ rfl _ _ rfl rfl ?_) | (with_reducible refine wl_len rfl _ _ rfl _ rfl ?_) | (with_reducible refine wl_range rfl _ _ rfl _ rfl ?_) | (with_reducible refine wl_next rfl _ rfl _ rfl ?_) | (with_reducible refine wl_copy rfl _ _ _ _ rfl _ _ rfl rfl ?_) | (with_reducible refine wl_max rfl _ _ _ _ rfl _ _ rfl rfl ?_) | (with_reducible refine wl_min rfl _ _ _ _ rfl _ _ rfl rfl ?_))
    obtain ⟨a, c, rfl, _, _⟩ := h.shape
    go_ret
    exact ⟨_, rfl, h'.mono fun j _ ha => .inl ha, hkW⟩
  | some f =>
    have e1 : namesOp L ⟨kind, file, at_, b, frm, to⟩ = withN (without L frm) to f := by simp [namesOp, h2, h4, hf]
    have e2 : findZ L frm = (f : Int) := by simp [findZ, hf]
    rw [e1]
    clear e1
    have c4 := hB.cell 4
    have c5 := hB.cell 5
    simp only [List.getElem?_toArray, List.getElem?_cons_succ, List.getElem?_cons_zero] at c4 c5
    have hlen := without_len L frm
    go_enter Try.func89, Try.ntmps89
    go_wp2_with (first | (at_builtin; refine wl_append rfl _ _ _ _ rfl _ _ rfl rfl ?_) | (at_make; refine wl_make rfl _ _ _ rfl _ _ rfl rfl ?_) | (at_mapUpdate; refine wl_mapUpdate rfl _ _ _ _ rfl _ _ _ rfl rfl rfl ?_) | (at_lookup; refine wl_lookup rfl _ _ _ _ rfl _ _ rfl rfl ?_) | (at_delete; refine wl_delete rfl _ _ _ _ rfl _ _ rfl rfl ?_) | (with_reducible refine wl_len rfl _ _ rfl _ rfl ?_) | (with_reducible refine wl_range rfl _ _ rfl _ rfl ?_) | (with_reducible refine wl_next rfl _ rfl _ rfl ?_) | (with_reducible refine wl_copy rfl _ _ _ _ rfl _ _ rfl rfl ?_) | (with_reducible refine wl_max rfl _ _ _ _ rfl _ _ rfl rfl ?_) | (with_reducible refine wl_min rfl _ _ _ _ rfl _ _ rfl rfl ?_))
    refine (rfind_any frm h').mono ?_
    rintro e w1 ⟨rfl, rfl⟩
    rw [e2]
    go_wp2_with (first | (at_builtin; refine wl_append rfl _ _ _ _ rfl _ _ rfl rfl ?_) | (at_make; refine wl_make rfl _ _ _ rfl _ _ rfl rfl ?_) | (at_mapUpdate; refine wl_mapUpdate rfl _ _ _ _ rfl _ _ _ rfl rfl rfl ?_) | (at_lookup; refine wl_lookup rfl _ _ _ _ rfl _ _ rfl rfl ?_) | (at_delete; refine wl_delete rfl _ _ _ _ rfl _ _ rfl rfl ?_) | (with_reducible refine wl_len rfl _ _ rfl _ rfl ?_) | (with_reducible refine wl_range rfl _ _ rfl _ rfl ?_) | (with_reducible refine wl_next rfl _ rfl _ rfl ?_) | (with_reducible refine wl_copy rfl _ _ _ _ rfl _ _ rfl rfl ?_) | (with_reducible refine wl_max rfl _ _ _ _ rfl _ _ rfl rfl ?_) | (with_reducible refine wl_min rfl _ _ _ _ rfl _ _ rfl rfl ?_))
    generalize w.alloc (.cells #[.int .i64 kind, .int .i64 file, .int .i64 at_, .string ⟨b.toArray⟩, .string ⟨frm.toArray⟩, .string ⟨to.toArray⟩] 108) = W at *
    have hWl := hB.lt
    refine wp_region_sig (fun w' => w'.cell? ⟨w.heap.size, 4, none⟩ = some (.string ⟨frm.toArray⟩) ∧ w'.cell? ⟨w.heap.size, 5, none⟩ = some (.string ⟨to.toArray⟩)) (fun j => decide (j ≤ 99)) [(0, true), (1, true), (2, true), (4, true), (5, true), (6, true), (3, false), (7, false), (8, false)] (by kernel_rfl) (by kernel_rfl) (by intro c a d v w h; cases d <;> exact h) ⟨c4, c5⟩ ?_
    apply sig_still (o := ⟨some 29, _, _, _, _, _⟩) rfl rfl
    · intro w' hS
      obtain ⟨q1, q2⟩ := hS
      first | (go_simp; done) | (go_simp; rfl) | rfl
    go_frame
    apply sig_still (o := ⟨some 30, _, _, _, _, _⟩) rfl rfl
    · intro w' hS
      obtain ⟨q1, q2⟩ := hS
      first | (go_simp; done) | (go_simp; rfl) | rfl
    go_frame
    apply sig_still (o := ⟨some 31, _, _, _, _, _⟩) rfl rfl
    · intro w' hS
      obtain ⟨q1, q2⟩ := hS
      first | (go_simp; done) | (go_simp; rfl) | rfl
    go_frame
    apply sig_still (o := ⟨some 33, _, _, _, _, _⟩) rfl rfl
    · intro w' hS
      obtain ⟨q1, q2⟩ := hS
      first | (go_simp; done) | (go_simp; rfl) | rfl
    go_frame
    apply sig_still (o := ⟨some 34, _, _, _, _, _⟩) rfl rfl
    · intro w' hS
      obtain ⟨q1, q2⟩ := hS
      first | (go_simp; done) | (go_simp; rfl) | rfl
    go_frame
    apply sig_still (o := ⟨some 35, _, _, _, _, _⟩) rfl rfl
    · intro w' hS
      obtain ⟨q1, q2⟩ := hS
      first | (go_simp; done) | (go_simp; rfl) | rfl
    go_frame
    refine sig_eff (o := ⟨some 32, _, _, _, _, _⟩) rfl rfl (fun K hKe => ?_)
    go_wp2_with (first | (at_builtin; refine wl_append rfl _ _ _ _ rfl _ _ rfl rfl ?_) | (at_make; refine wl_make rfl _ _ _ rfl _ _ rfl rfl ?_) | (at_mapUpdate; refine wl_mapUpdate rfl _ _ _ _ rfl _ _ _ rfl rfl rfl ?_) | (at_lookup; refine wl_lookup rfl _ _ _ _ rfl _ _ rfl rfl ?_) | (at_delete; refine wl_delete rfl _ _ _ _ rfl _ _ rfl rfl ?_) | (with_reducible refine wl_len rfl _ _ rfl _ rfl ?_) | (with_reducible refine wl_range rfl _ _ rfl _ rfl ?_) | (with_reducible refine wl_next rfl _ rfl _ rfl ?_) | (with_reducible refine wl_copy rfl _ _ _ _ rfl _ _ rfl rfl ?_) | (with_reducible refine wl_max rfl _ _ _ _ rfl _ _ rfl rfl ?_) | (with_reducible refine wl_min rfl _ _ _ _ rfl _ _ rfl rfl ?_))
    refine (rwithout_any frm (by exact h') hL).mono ?_
    rintro e w1 ⟨v1, rfl, ho, hk⟩
    replace ho : FlO w1 W.heap.size 101 2 encNm v1 (without L frm) := ho
    replace hk : Keep No W w1 := ⟨hk.os, hk.tape, hk.output, hk.size, hk.block⟩
    have r4 : w1.cell? ⟨w.heap.size, 4, none⟩ = _ := (hk.cell (p := ⟨w.heap.size, 4, none⟩) hWl (fun h => h)).trans c4
    have r5 : w1.cell? ⟨w.heap.size, 5, none⟩ = _ := (hk.cell (p := ⟨w.heap.size, 5, none⟩) hWl (fun h => h)).trans c5
    go_wp2_with (first | (at_builtin; refine wl_append rfl _ _ _ _ rfl _ _ rfl rfl ?_) | (at_make; refine wl_make rfl _ _ _ rfl _ _ rfl rfl ?_) | (at_mapUpdate; refine wl_mapUpdate rfl _ _ _ _ rfl _ _ _ rfl rfl rfl ?_) | (at_lookup; refine wl_lookup rfl _ _ _ _ rfl _ _ rfl rfl ?_) | (at_delete; refine wl_delete rfl _ _ _ _ rfl _ _ rfl rfl ?_) | (with_reducible refine wl_len rfl _ _ rfl _ rfl ?_) | (with_reducible refine wl_range rfl _ _ rfl _ rfl ?_) | (with_reducible refine wl_next rfl _ rfl _ rfl ?_) | (with_reducible refine wl_copy rfl _ _ _ _ rfl _ _ rfl rfl ?_) | (with_reducible refine wl_max rfl _ _ _ _ rfl _ _ rfl rfl ?_) | (with_reducible refine wl_min rfl _ _ _ _ rfl _ _ rfl rfl ?_))
    refine ⟨fun _ => ⟨r4, r5⟩, ?_⟩
    refine sig_eff (o := ⟨some 36, _, _, _, _, _⟩) rfl rfl (fun K hKe => ?_)
    go_wp2_with (first | (at_builtin; refine wl_append rfl _ _ _ _ rfl _ _ rfl rfl ?_) | (at_make; refine wl_make rfl _ _ _ rfl _ _ rfl rfl ?_) | (at_mapUpdate; refine wl_mapUpdate rfl _ _ _ _ rfl _ _ _ rfl rfl rfl ?_) | (at_lookup; refine wl_lookup rfl _ _ _ _ rfl _ _ rfl rfl ?_) | (at_delete; refine wl_delete rfl _ _ _ _ rfl _ _ rfl rfl ?_) | (with_reducible refine wl_len rfl _ _ rfl _ rfl ?_) | (with_reducible refine wl_range rfl _ _ rfl _ rfl ?_) | (with_reducible refine wl_next rfl _ rfl _ rfl ?_) | (with_reducible refine wl_copy rfl _ _ _ _ rfl _ _ rfl rfl ?_) | (with_reducible refine wl_max rfl _ _ _ _ rfl _ _ rfl rfl ?_) | (with_reducible refine wl_min rfl _ _ _ _ rfl _ _ rfl rfl ?_))
    refine (rwith_any to f ho.fl (by omega)).mono ?_
    rintro e w2 ⟨v2, rfl, ho2, hk2⟩
    have hw1 : w.heap.size < w1.heap.size := Nat.lt_of_lt_of_le hWl hk.size
    have s4 : w2.cell? ⟨w.heap.size, 4, none⟩ = _ := (hk2.cell (p := ⟨w.heap.size, 4, none⟩) hw1 (fun h => h)).trans r4
    have s5 : w2.cell? ⟨w.heap.size, 5, none⟩ = _ := (hk2.cell (p := ⟨w.heap.size, 5, none⟩) hw1 (fun h => h)).trans r5
    go_wp2_with (first | (at_builtin; refine wl_append rfl _ _ _ _ rfl _ _ rfl rfl ?_) | (at_make; refine wl_make rfl _ _ _ rfl _ _ rfl rfl ?_) | (at_mapUpdate; refine wl_mapUpdate rfl _ _ _ _ rfl _ _ _ rfl rfl rfl ?_) | (at_lookup; refine wl_lookup rfl _ _ _ _ rfl _ _ rfl rfl ?_) | (at_delete; refine wl_delete rfl _ _ _ _ rfl _ _ rfl rfl ?_) | (with_reducible refine wl_len rfl _ _ rfl _ rfl ?_) | (with_reducible refine wl_range rfl _ _ rfl _ rfl ?_) | (with_reducible refine wl_next rfl _ rfl _ rfl ?_) | (with_reducible refine wl_copy rfl _ _ _ _ rfl _ _ rfl rfl ?_) | (with_reducible refine wl_max rfl _ _ _ _ rfl _ _ rfl rfl ?_) | (with_reducible refine wl_min rfl _ _ _ _ rfl _ _ rfl rfl ?_))
    refine ⟨fun _ => ⟨s4, s5⟩, ?_⟩
    refine sig_eff (o := ⟨some 4, _, _, _, _, _⟩) rfl rfl (fun K hKe => ?_)
    go_wp2_with (first | (at_builtin; refine wl_append rfl _ _ _ _ rfl _ _ rfl rfl ?_) | (at_make; refine wl_make rfl _ _ _ rfl _ _ rfl rfl ?_) | (at_mapUpdate; refine wl_mapUpdate rfl _ _ _ _ rfl _ _ _ rfl rfl rfl ?_) | (at_lookup; refine wl_lookup rfl _ _ _ _ rfl _ _ rfl rfl ?_) | (at_delete; refine wl_delete rfl _ _ _ _ rfl _ _ rfl rfl ?_) | (with_reducible refine wl_len rfl _ _ rfl _ rfl ?_) | (with_reducible refine wl_range rfl _ _ rfl _ rfl ?_) | (with_reducible refine wl_next rfl _ rfl _ rfl ?_) | (with_reducible refine wl_copy rfl _ _ _ _ rfl _ _ rfl rfl ?_) | (with_reducible refine wl_max rfl _ _ _ _ rfl _ _ rfl rfl ?_) | (with_reducible refine wl_min rfl _ _ _ _ rfl _ _ rfl rfl ?_))
    refine ⟨fun _ => ⟨s4, s5⟩, sig_nil ?_⟩
    go_wp2_with (first | (at_builtin; refine wl_append rfl _ _ _ _ rfl _ _ rfl rfl ?_) | (at_make; refine wl_make rfl _ _ _ rfl _ _ rfl rfl ?_) | (at_mapUpdate; refine wl_mapUpdate rfl _ _ _ _ rfl _ _ _ rfl rfl rfl ?_) | (at_lookup; refine wl_lookup rfl _ _ _ _ rfl _ _ rfl rfl ?_) | (at_delete; refine wl_delete rfl _ _ _ _ rfl _ _ rfl rfl ?_) | (with_reducible refine wl_len rfl _ _ rfl _ rfl ?_) | (with_reducible refine wl_range rfl _ _ rfl _ rfl ?_) | (with_reducible refine wl_next rfl _ rfl _ rfl ?_) | (with_reducible refine wl_copy rfl _ _ _ _ rfl _ _ rfl rfl ?_) | (with_reducible refine wl_max rfl _ _ _ _ rfl _ _ rfl rfl ?_) | (with_reducible refine wl_min rfl _ _ _ _ rfl _ _ rfl rfl ?_))
    go_ret
    exact ⟨_, rfl, fl_new ho2 (Nat.le_trans hkW.size hk.size), (hkW.trans' hk).trans' hk2⟩
end Go.Proofs.Ytkmoomgmmhmaeaa
