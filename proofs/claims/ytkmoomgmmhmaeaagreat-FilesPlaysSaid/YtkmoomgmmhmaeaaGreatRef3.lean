/- The reference of the disk: its small functions. The reference of the disk: put, laid, Used. The reference of the disk: laid. No condition. -/
import Derived.Test.YtkmoomgmmhmaeaaGreatDiskR
import Derived.Test.YtkmoomgmmhmaeaaGreatLawRoomM
import Derived.IntWalk
namespace Go.Proofs.YtkmoomgmmhmaeaaGreat
open Go.RowKit Go.Dm Go.Dm.Dk

def encNm (p : List UInt8 × Nat) : List Value := [.string ⟨p.1.toArray⟩, .int .i64 p.2]
def encOp (o : Dk.Op) : List Value := [.int .i64 o.kind, .int .i64 o.file, .int .i64 o.at_, .string ⟨o.b.toArray⟩, .string ⟨o.frm.toArray⟩, .string ⟨o.to.toArray⟩]
def encS (s : List UInt8) : List Value := [.string ⟨s.toArray⟩]
def encB (b : Bool) : List Value := [.bool b]
theorem info_nm : (Tryz.prog.info? 96).map (fun i => (i.zero, i.size, i.bytes)) = some (some (.agg #[.string ⟨#[]⟩, .int .i64 0]), 2, 24) := by kernel_rfl
theorem info_str : (Tryz.prog.info? 9).map (fun i => (i.zero, i.size, i.bytes)) = some (some (.string ⟨#[]⟩), 1, 16) := by kernel_rfl
theorem info_op : (Tryz.prog.info? 100).map (fun i => (i.zero, i.size, i.bytes)) = some (some (.agg #[.int .i64 0, .int .i64 0, .int .i64 0, .string ⟨#[]⟩, .string ⟨#[]⟩, .string ⟨#[]⟩]), 6, 72) := by kernel_rfl
theorem info_bool : (Tryz.prog.info? 4).map (fun i => (i.zero, i.size, i.bytes)) = some (some (.bool false), 1, 1) := by kernel_rfl
theorem nm_one (p : List UInt8 × Nat) : ∀ u ∈ encNm p, u.oneCell' = true := by simp [encNm, Value.oneCell']
theorem op_one (p : Dk.Op) : ∀ u ∈ encOp p, u.oneCell' = true := by simp [encOp, Value.oneCell']
theorem s_one (p : List UInt8) : ∀ u ∈ encS p, u.oneCell' = true := by simp [encS, Value.oneCell']
theorem b_one (p : Bool) : ∀ u ∈ encB p, u.oneCell' = true := by simp [encB, Value.oneCell']

theorem ret_int {k : IntKind} {a b : Int} (h : a = b) : Ending.returned (.int k a) = .returned (.int k b) := by rw [h]
def findZ (L : Names) (s : List UInt8) : Int := match find L s with | some f => f | none => -1
theorem find_step {L : Names} {s : List UInt8} {k : Nat} (hk : k < L.length) (h : ∀ p ∈ L.take k, p.1 ≠ s) : (L[k].1 = s → find L s = some L[k].2) ∧ (L[k].1 ≠ s → ∀ p ∈ L.take (k + 1), p.1 ≠ s) := by
  constructor
  · intro e
    unfold find
    have e1 : L = L.take k ++ L[k] :: L.drop (k + 1) := by rw [← List.drop_eq_getElem_cons hk]; exact (List.take_append_drop k L).symm
    have e2 : (L.take k).find? (fun p => p.1 == s) = none := List.find?_eq_none.2 fun p hp => by simpa using h p hp
    generalize L[k] = q at *
    rw [e1, List.find?_append, e2]
    simp [e]
  · intro hne p hp
    rw [List.take_succ_eq_append_getElem hk] at hp
    rcases List.mem_append.1 hp with hp | hp
    · exact h p hp
    · simp only [List.mem_singleton] at hp; rw [hp]; exact hne
theorem find_out {L : Names} {s : List UInt8} (h : ∀ p ∈ L.take L.length, p.1 ≠ s) : find L s = none := by
  rw [List.take_length] at h
  unfold find
  rw [List.find?_eq_none.2 fun p hp => by simpa using h p hp]; rfl

set_option maxRecDepth 100000 in
set_option maxHeartbeats 1000000 in
theorem rfind_any {A : Nat → Prop} {w : World} {v : Value} {L : Names} (s : List UInt8) (h : Fl A w 2 encNm v L) :
    Calls Tryz.prog 42 #[v, .string ⟨s.toArray⟩] w fun e w' => e = .returned (.int .i64 (findZ L s)) ∧ w = w' := by
  obtain ⟨a, c, rfl, hc, hm⟩ := h.shape
  unfold maxLen at hm
  go_enter Tryz.func42, Tryz.ntmps42
  go_wp2_with (first | (at_builtin; refine wl_append rfl _ _ _ _ rfl _ _ rfl rfl ?_) | (at_make; refine wl_make rfl _ _ _ rfl _ _ rfl rfl ?_) | (at_mapUpdate; refine wl_mapUpdate rfl _ _ _ _ rfl _ _ _ rfl rfl rfl ?_) | (at_lookup; refine wl_lookup rfl _ _ _ _ rfl _ _ rfl rfl ?_) | (at_delete; refine wl_delete rfl _ _ _ _ rfl _ _ rfl rfl ?_) | (with_reducible refine wl_len rfl _ _ rfl _ rfl ?_) | (with_reducible refine wl_range rfl _ _ rfl _ rfl ?_) | (with_reducible refine wl_next rfl _ rfl _ rfl ?_) | (with_reducible refine wl_copy rfl _ _ _ _ rfl _ _ rfl rfl ?_) | (with_reducible refine wl_max rfl _ _ _ _ rfl _ _ rfl rfl ?_) | (with_reducible refine wl_min rfl _ _ _ _ rfl _ _ rfl rfl ?_))
  go_loop [5] (fun iv => ∃ k : Nat, iv = .int .i64 k ∧ k ≤ L.length ∧ ∀ p ∈ L.take k, p.1 ≠ s) (fun iv => L.length - (intOf iv).toNat)
  case atStart => exact ⟨0, rfl, Nat.zero_le _, by simp⟩
  case round =>
    obtain ⟨k, rfl, hk, hp⟩ := hrel
    rcases Nat.lt_or_ge k L.length with hkl | hkl
    · obtain ⟨g, off, cap, e, _, hg, _, _, hcell⟩ := h.at (fun _ => rfl) hkl
      cases e
      have q0 : w.cell? ⟨g, off + k * 2, none⟩ = _ := hcell 0 _ rfl
      have q1 := hcell 1 _ rfl
      obtain ⟨hf, hn⟩ := find_step hkl hp
      have HF := Lib.hid hf
      have HN := Lib.hid hn
      clear hcell hp hf hn
      by_cases hs : L[k].1 = s
      · rw [hs] at q0
        go_wp2_with (first | (at_builtin; refine wl_append rfl _ _ _ _ rfl _ _ rfl rfl ?_) | (at_make; refine wl_make rfl _ _ _ rfl _ _ rfl rfl ?_) | (at_mapUpdate; refine wl_mapUpdate rfl _ _ _ _ rfl _ _ _ rfl rfl rfl ?_) | (at_lookup; refine wl_lookup rfl _ _ _ _ rfl _ _ rfl rfl ?_) | (at_delete; refine wl_delete rfl _ _ _ _ rfl _ _ rfl rfl ?_) | (with_reducible refine wl_len rfl _ _ rfl _ rfl ?_) | (with_reducible refine wl_range rfl _ _ rfl _ rfl ?_) | (with_reducible refine wl_next rfl _ rfl _ rfl ?_) | (with_reducible refine wl_copy rfl _ _ _ _ rfl _ _ rfl rfl ?_) | (with_reducible refine wl_max rfl _ _ _ _ rfl _ _ rfl rfl ?_) | (with_reducible refine wl_min rfl _ _ _ _ rfl _ _ rfl rfl ?_))
        go_ret
        exact ⟨ret_int (by unfold findZ; rw [HF.out hs]), rfl⟩
      · have hs' : (L[k].1 == s) = false := by simpa using hs
        go_wp2_with (first | (at_builtin; refine wl_append rfl _ _ _ _ rfl _ _ rfl rfl ?_) | (at_make; refine wl_make rfl _ _ _ rfl _ _ rfl rfl ?_) | (at_mapUpdate; refine wl_mapUpdate rfl _ _ _ _ rfl _ _ _ rfl rfl rfl ?_) | (at_lookup; refine wl_lookup rfl _ _ _ _ rfl _ _ rfl rfl ?_) | (at_delete; refine wl_delete rfl _ _ _ _ rfl _ _ rfl rfl ?_) | (with_reducible refine wl_len rfl _ _ rfl _ rfl ?_) | (with_reducible refine wl_range rfl _ _ rfl _ rfl ?_) | (with_reducible refine wl_next rfl _ rfl _ rfl ?_) | (with_reducible refine wl_copy rfl _ _ _ _ rfl _ _ rfl rfl ?_) | (with_reducible refine wl_max rfl _ _ _ _ rfl _ _ rfl rfl ?_) | (with_reducible refine wl_min rfl _ _ _ _ rfl _ _ rfl rfl ?_))
        go_round
        case rel => exact ⟨k + 1, by go_num, by omega, HN.out hs⟩
        case measure => simp [intOf]; omega
    · obtain rfl : k = L.length := by omega
      have hf := find_out hp
      clear hp
      go_wp2_with (first | (at_builtin; refine wl_append rfl _ _ _ _ rfl _ _ rfl rfl ?_) | (at_make; refine wl_make rfl _ _ _ rfl _ _ rfl rfl ?_) | (at_mapUpdate; refine wl_mapUpdate rfl _ _ _ _ rfl _ _ _ rfl rfl rfl ?_) | (at_lookup; refine wl_lookup rfl _ _ _ _ rfl _ _ rfl rfl ?_) | (at_delete; refine wl_delete rfl _ _ _ _ rfl _ _ rfl rfl ?_) | (with_reducible refine wl_len rfl _ _ rfl _ rfl ?_) | (with_reducible refine wl_range rfl _ _ rfl _ rfl ?_) | (with_reducible refine wl_next rfl _ rfl _ rfl ?_) | (with_reducible refine wl_copy rfl _ _ _ _ rfl _ _ rfl rfl ?_) | (with_reducible refine wl_max rfl _ _ _ _ rfl _ _ rfl rfl ?_) | (with_reducible refine wl_min rfl _ _ _ _ rfl _ _ rfl rfl ?_))
      go_ret
      exact ⟨ret_int (by unfold findZ; rw [hf]), rfl⟩

theorem without_step {L : Names} (s : List UInt8) {k : Nat} (hk : k < L.length) : without (L.take (k + 1)) s = if L[k].1 = s then without (L.take k) s else without (L.take k) s ++ [L[k]] := by
  rw [List.take_succ_eq_append_getElem hk]
  unfold without
  rw [List.filter_append]
  split
  · rename_i e; simp [e]
  · rename_i e; simp [e]
theorem without_len (L : Names) (s : List UInt8) : (without L s).length ≤ L.length := List.length_filter_le _ _

set_option maxRecDepth 100000 in
set_option maxHeartbeats 1000000 in
theorem rwithout_any {A : Nat → Prop} {w : World} {v : Value} {L : Names} (s : List UInt8) (h : Fl A w 2 encNm v L) (hL : L.length ≤ 1000000) :
    Calls Tryz.prog 87 #[v, .string ⟨s.toArray⟩] w fun e w' => ∃ v', e = .returned v' ∧ FlO w' w.heap.size 96 2 encNm v' (without L s) ∧ Keep No w w' := by
  obtain ⟨a, c, rfl, hc, hm⟩ := h.shape
  unfold maxLen at hm
  go_enter Tryz.func87, Tryz.ntmps87
  go_wp2_with (first | (at_builtin; refine wl_append rfl _ _ _ _ rfl _ _ rfl rfl ?_) | (at_make; refine wl_make rfl _ _ _ rfl _ _ rfl rfl ?_) | (at_mapUpdate; refine wl_mapUpdate rfl _ _ _ _ rfl _ _ _ rfl rfl rfl ?_) | (at_lookup; refine wl_lookup rfl _ _ _ _ rfl _ _ rfl rfl ?_) | (at_delete; refine wl_delete rfl _ _ _ _ rfl _ _ rfl rfl ?_) | (with_reducible refine wl_len rfl _ _ rfl _ rfl ?_) | (with_reducible refine wl_range rfl _ _ rfl _ rfl ?_) | (with_reducible refine wl_next rfl _ rfl _ rfl ?_) | (with_reducible refine wl_copy rfl _ _ _ _ rfl _ _ rfl rfl ?_) | (with_reducible refine wl_max rfl _ _ _ _ rfl _ _ rfl rfl ?_) | (with_reducible refine wl_min rfl _ _ _ _ rfl _ _ rfl rfl ?_))
  go_loopw [5, 6] (fun ov iv wr => ∃ (k : Nat), iv = .int .i64 k ∧ k ≤ L.length ∧ FlO wr w.heap.size 96 2 encNm ov (without (L.take k) s) ∧ Keep No w wr) (fun _ iv _ => L.length - (intOf iv).toNat)
  case atStart => exact ⟨0, rfl, Nat.zero_le _, FlO.nil, Keep.refl _ _⟩
  case round =>
    obtain ⟨k, rfl, hk, ho, hK⟩ := hrel
    rename_i ov _ _
    rcases Nat.lt_or_ge k L.length with hkl | hkl
    · obtain ⟨g, off, cap, e, _, hg, _, _, hcell⟩ := (h.no hK).at (fun _ => rfl) hkl
      cases e
      have q0 : wr.cell? ⟨g, off + k * 2, none⟩ = _ := hcell 0 _ rfl
      have q1 := hcell 1 _ rfl
      have hst := without_step s hkl
      have hlen := without_len (L.take k) s
      rw [List.length_take] at hlen
      have HS := Lib.hid hst
      clear hcell hst
      by_cases hs : L[k].1 = s
      · rw [hs] at q0
        go_wp2_with (first | (at_builtin; refine wl_append rfl _ _ _ _ rfl _ _ rfl rfl ?_) | (at_make; refine wl_make rfl _ _ _ rfl _ _ rfl rfl ?_) | (at_mapUpdate; refine wl_mapUpdate rfl _ _ _ _ rfl _ _ _ rfl rfl rfl ?_) | (at_lookup; refine wl_lookup rfl _ _ _ _ rfl _ _ rfl rfl ?_) | (at_delete; refine wl_delete rfl _ _ _ _ rfl _ _ rfl rfl ?_) | (with_reducible refine wl_len rfl _ _ rfl _ rfl ?_) | (with_reducible refine wl_range rfl _ _ rfl _ rfl ?_) | (with_reducible refine wl_next rfl _ rfl _ rfl ?_) | (with_reducible refine wl_copy rfl _ _ _ _ rfl _ _ rfl rfl ?_) | (with_reducible refine wl_max rfl _ _ _ _ rfl _ _ rfl rfl ?_) | (with_reducible refine wl_min rfl _ _ _ _ rfl _ _ rfl rfl ?_))
        go_roundw
        case rel => exact ⟨k + 1, by go_num, by omega, by rw [HS.out, if_pos hs]; exact ho, hK⟩
        case measure => simp [intOf]; omega
      · have hs' : (L[k].1 == s) = false := by simpa using hs
        obtain ⟨a2, c2, rfl, _, _⟩ := ho.fl.shape
        go_wp2_with (first | (at_builtin; refine wl_append rfl _ _ _ _ rfl _ _ rfl rfl ?_) | (at_make; refine wl_make rfl _ _ _ rfl _ _ rfl rfl ?_) | (at_mapUpdate; refine wl_mapUpdate rfl _ _ _ _ rfl _ _ _ rfl rfl rfl ?_) | (at_lookup; refine wl_lookup rfl _ _ _ _ rfl _ _ rfl rfl ?_) | (at_delete; refine wl_delete rfl _ _ _ _ rfl _ _ rfl rfl ?_) | (with_reducible refine wl_len rfl _ _ rfl _ rfl ?_) | (with_reducible refine wl_range rfl _ _ rfl _ rfl ?_) | (with_reducible refine wl_next rfl _ rfl _ rfl ?_) | (with_reducible refine wl_copy rfl _ _ _ _ rfl _ _ rfl rfl ?_) | (with_reducible refine wl_max rfl _ _ _ _ rfl _ _ rfl rfl ?_) | (with_reducible refine wl_min rfl _ _ _ _ rfl _ _ rfl rfl ?_))
        refine rg_push _ 24 Tryz.underlying27 info_nm rfl (by decide) (x := L[k]) rfl rfl (nm_one _) ho (by omega) (by decide) hK.size ?_
        intro v' w2 ho2 hk2 _
        go_wp2_with (first | (at_builtin; refine wl_append rfl _ _ _ _ rfl _ _ rfl rfl ?_) | (at_make; refine wl_make rfl _ _ _ rfl _ _ rfl rfl ?_) | (at_mapUpdate; refine wl_mapUpdate rfl _ _ _ _ rfl _ _ _ rfl rfl rfl ?_) | (at_lookup; refine wl_lookup rfl _ _ _ _ rfl _ _ rfl rfl ?_) | (at_delete; refine wl_delete rfl _ _ _ _ rfl _ _ rfl rfl ?_) | (with_reducible refine wl_len rfl _ _ rfl _ rfl ?_) | (with_reducible refine wl_range rfl _ _ rfl _ rfl ?_) | (with_reducible refine wl_next rfl _ rfl _ rfl ?_) | (with_reducible refine wl_copy rfl _ _ _ _ rfl _ _ rfl rfl ?_) | (with_reducible refine wl_max rfl _ _ _ _ rfl _ _ rfl rfl ?_) | (with_reducible refine wl_min rfl _ _ _ _ rfl _ _ rfl rfl ?_))
        go_roundw
        case rel => exact ⟨k + 1, by go_num, by omega, by rw [HS.out, if_neg hs]; exact ho2, hK.own ho hk2⟩
        case measure => simp [intOf]; omega
    · obtain rfl : k = L.length := by omega
      rw [List.take_length] at ho
      obtain ⟨a2, c2, rfl, _, _⟩ := ho.fl.shape
      go_wp2_with (first | (at_builtin; refine wl_append rfl _ _ _ _ rfl _ _ rfl rfl ?_) | (at_make; refine wl_make rfl _ _ _ rfl _ _ rfl rfl ?_) | (at_mapUpdate; refine wl_mapUpdate rfl _ _ _ _ rfl _ _ _ rfl rfl rfl ?_) | (at_lookup; refine wl_lookup rfl _ _ _ _ rfl _ _ rfl rfl ?_) | (at_delete; refine wl_delete rfl _ _ _ _ rfl _ _ rfl rfl ?_) | (with_reducible refine wl_len rfl _ _ rfl _ rfl ?_) | (with_reducible refine wl_range rfl _ _ rfl _ rfl ?_) | (with_reducible refine wl_next rfl _ rfl _ rfl ?_) | (with_reducible refine wl_copy rfl _ _ _ _ rfl _ _ rfl rfl ?_) | (with_reducible refine wl_max rfl _ _ _ _ rfl _ _ rfl rfl ?_) | (with_reducible refine wl_min rfl _ _ _ _ rfl _ _ rfl rfl ?_))
      go_ret
      exact ⟨_, rfl, ho, hK⟩

set_option maxRecDepth 100000 in
set_option maxHeartbeats 1000000 in
theorem rwith_any {A : Nat → Prop} {w : World} {v : Value} {L : Names} (s : List UInt8) (f : Nat) (h : Fl A w 2 encNm v L) (hL : L.length ≤ 1000000) :
    Calls Tryz.prog 86 #[v, .string ⟨s.toArray⟩, .int .i64 (f : Int)] w fun e w' => ∃ v', e = .returned v' ∧ FlO w' w.heap.size 96 2 encNm v' (withN L s f) ∧ Keep No w w' := by
  have hlen := without_len L s
  go_enter Tryz.func86, Tryz.ntmps86
  go_wp2_with (first | (at_builtin; refine wl_append rfl _ _ _ _ rfl _ _ rfl rfl ?_) | (at_make; refine wl_make rfl _ _ _ rfl _ _ rfl rfl ?_) | (at_mapUpdate; refine wl_mapUpdate rfl _ _ _ _ rfl _ _ _ rfl rfl rfl ?_) | (at_lookup; refine wl_lookup rfl _ _ _ _ rfl _ _ rfl rfl ?_) | (at_delete; refine wl_delete rfl _ _ _ _ rfl _ _ rfl rfl ?_) | (with_reducible refine wl_len rfl _ _ rfl _ rfl ?_) | (with_reducible refine wl_range rfl _ _ rfl _ rfl ?_) | (with_reducible refine wl_next rfl _ rfl _ rfl ?_) | (with_reducible refine wl_copy rfl _ _ _ _ rfl _ _ rfl rfl ?_) | (with_reducible refine wl_max rfl _ _ _ _ rfl _ _ rfl rfl ?_) | (with_reducible refine wl_min rfl _ _ _ _ rfl _ _ rfl rfl ?_))
  refine (rwithout_any s h hL).mono ?_
  rintro e w1 ⟨v1, rfl, ho, hk⟩
  go_wp2_with (first | (at_builtin; refine wl_append rfl _ _ _ _ rfl _ _ rfl rfl ?_) | (at_make; refine wl_make rfl _ _ _ rfl _ _ rfl rfl ?_) | (at_mapUpdate; refine wl_mapUpdate rfl _ _ _ _ rfl _ _ _ rfl rfl rfl ?_) | (at_lookup; refine wl_lookup rfl _ _ _ _ rfl _ _ rfl rfl ?_) | (at_delete; refine wl_delete rfl _ _ _ _ rfl _ _ rfl rfl ?_) | (with_reducible refine wl_len rfl _ _ rfl _ rfl ?_) | (with_reducible refine wl_range rfl _ _ rfl _ rfl ?_) | (with_reducible refine wl_next rfl _ rfl _ rfl ?_) | (with_reducible refine wl_copy rfl _ _ _ _ rfl _ _ rfl rfl ?_) | (with_reducible refine wl_max rfl _ _ _ _ rfl _ _ rfl rfl ?_) | (with_reducible refine wl_min rfl _ _ _ _ rfl _ _ rfl rfl ?_))
  refine rg_push _ 24 Tryz.underlying27 info_nm rfl (by decide) (x := (s, f)) rfl rfl (nm_one _) ho (by omega) (by decide) hk.size ?_
  intro v' w2 ho2 hk2 _
  go_wp2_with (first | (at_builtin; refine wl_append rfl _ _ _ _ rfl _ _ rfl rfl ?_) | (at_make; refine wl_make rfl _ _ _ rfl _ _ rfl rfl ?_) | (at_mapUpdate; refine wl_mapUpdate rfl _ _ _ _ rfl _ _ _ rfl rfl rfl ?_) | (at_lookup; refine wl_lookup rfl _ _ _ _ rfl _ _ rfl rfl ?_) | (at_delete; refine wl_delete rfl _ _ _ _ rfl _ _ rfl rfl ?_) | (with_reducible refine wl_len rfl _ _ rfl _ rfl ?_) | (with_reducible refine wl_range rfl _ _ rfl _ rfl ?_) | (with_reducible refine wl_next rfl _ rfl _ rfl ?_) | (with_reducible refine wl_copy rfl _ _ _ _ rfl _ _ rfl rfl ?_) | (with_reducible refine wl_max rfl _ _ _ _ rfl _ _ rfl rfl ?_) | (with_reducible refine wl_min rfl _ _ _ _ rfl _ _ rfl rfl ?_))
  go_ret
  exact ⟨_, rfl, ho2, hk.own ho hk2⟩

def opV (o : Dk.Op) : Value := .agg #[.int .i64 o.kind, .int .i64 o.file, .int .i64 o.at_, .string ⟨o.b.toArray⟩, .string ⟨o.frm.toArray⟩, .string ⟨o.to.toArray⟩]
theorem fl_new {α : Type} {w w' w0 : World} {A : Nat → Prop} {e k : Nat} {enc : α → List Value} {v : Value} {l : List α} (h : FlO w' w.heap.size e k enc v l) (hs : w0.heap.size ≤ w.heap.size) : Fl (Plus A w0 w') w' k enc v l :=
  h.fl.mono fun j hj ha => .inr ⟨Nat.le_trans hs ha.1, hj⟩

set_option maxRecDepth 100000 in
set_option maxHeartbeats 1000000 in
theorem rnames_any {A : Nat → Prop} {w : World} {v : Value} {L : Names} (o : Dk.Op) (h : Fl A w 2 encNm v L) (hL : L.length ≤ 1000000) :
    Calls Tryz.prog 73 #[v, opV o] w fun e w' => ∃ v', e = .returned v' ∧ Fl (Plus A w w') w' 2 encNm v' (namesOp L o) ∧ Keep No w w' := by
  obtain ⟨kind, file, at_, b, frm, to⟩ := o
  have hB : Blk (w.alloc (.cells #[.int .i64 kind, .int .i64 file, .int .i64 at_, .string ⟨b.toArray⟩, .string ⟨frm.toArray⟩, .string ⟨to.toArray⟩] 100)) w.heap.size #[.int .i64 kind, .int .i64 file, .int .i64 at_, .string ⟨b.toArray⟩, .string ⟨frm.toArray⟩, .string ⟨to.toArray⟩] 100 := Blk.new _ _ _
  have hkW : Keep No w (w.alloc (.cells #[.int .i64 kind, .int .i64 file, .int .i64 at_, .string ⟨b.toArray⟩, .string ⟨frm.toArray⟩, .string ⟨to.toArray⟩] 100)) := (Keep.refl _ _).alloc _
  have h' := h.no hkW
  unfold opV
  simp only
  by_cases h2 : kind = 2
  · subst h2
    have e1 : namesOp L ⟨2, file, at_, b, frm, to⟩ = withN L to file := rfl
    rw [e1]
    go_enter Tryz.func73, Tryz.ntmps73
    go_wp2_with (first | (at_builtin; refine wl_append rfl _ _ _ _ rfl _ _ rfl rfl ?_) | (at_make; refine wl_make rfl _ _ _ rfl _ _ rfl rfl ?_) | (at_mapUpdate; refine wl_mapUpdate rfl _ _ _ _ rfl _ _ _ rfl rfl rfl ?_) | (at_lookup; refine wl_lookup rfl _ _ _ _ rfl _ _ rfl rfl ?_) | (at_delete; refine wl_delete rfl _ _ _ _ rfl _ _ rfl rfl ?_) | (with_reducible refine wl_len rfl _ _ rfl _ rfl ?_) | (with_reducible refine wl_range rfl _ _ rfl _ rfl ?_) | (with_reducible refine wl_next rfl _ rfl _ rfl ?_) | (with_reducible refine wl_copy rfl _ _ _ _ rfl _ _ rfl rfl ?_) | (with_reducible refine wl_max rfl _ _ _ _ rfl _ _ rfl rfl ?_) | (with_reducible refine wl_min rfl _ _ _ _ rfl _ _ rfl rfl ?_))
    refine (rwith_any to file h' hL).mono ?_
    rintro e w1 ⟨v1, rfl, ho, hk⟩
    go_wp2_with (first | (at_builtin; refine wl_append rfl _ _ _ _ rfl _ _ rfl rfl ?_) | (at_make; refine wl_make rfl _ _ _ rfl _ _ rfl rfl ?_) | (at_mapUpdate; refine wl_mapUpdate rfl _ _ _ _ rfl _ _ _ rfl rfl rfl ?_) | (at_lookup; refine wl_lookup rfl _ _ _ _ rfl _ _ rfl rfl ?_) | (at_delete; refine wl_delete rfl _ _ _ _ rfl _ _ rfl rfl ?_) | (with_reducible refine wl_len rfl _ _ rfl _ rfl ?_) | (with_reducible refine wl_range rfl _ _ rfl _ rfl ?_) | (with_reducible refine wl_next rfl _ rfl _ rfl ?_) | (with_reducible refine wl_copy rfl _ _ _ _ rfl _ _ rfl rfl ?_) | (with_reducible refine wl_max rfl _ _ _ _ rfl _ _ rfl rfl ?_) | (with_reducible refine wl_min rfl _ _ _ _ rfl _ _ rfl rfl ?_))
    go_ret
    exact ⟨_, rfl, fl_new ho hkW.size, hkW.trans' hk⟩
  by_cases h4 : kind = 4
  · subst h4
    have e1 : namesOp L ⟨4, file, at_, b, frm, to⟩ = without L frm := rfl
    rw [e1]
    go_enter Tryz.func73, Tryz.ntmps73
    go_wp2_with (first | (at_builtin; refine wl_append rfl _ _ _ _ rfl _ _ rfl rfl ?_) | (at_make; refine wl_make rfl _ _ _ rfl _ _ rfl rfl ?_) | (at_mapUpdate; refine wl_mapUpdate rfl _ _ _ _ rfl _ _ _ rfl rfl rfl ?_) | (at_lookup; refine wl_lookup rfl _ _ _ _ rfl _ _ rfl rfl ?_) | (at_delete; refine wl_delete rfl _ _ _ _ rfl _ _ rfl rfl ?_) | (with_reducible refine wl_len rfl _ _ rfl _ rfl ?_) | (with_reducible refine wl_range rfl _ _ rfl _ rfl ?_) | (with_reducible refine wl_next rfl _ rfl _ rfl ?_) | (with_reducible refine wl_copy rfl _ _ _ _ rfl _ _ rfl rfl ?_) | (with_reducible refine wl_max rfl _ _ _ _ rfl _ _ rfl rfl ?_) | (with_reducible refine wl_min rfl _ _ _ _ rfl _ _ rfl rfl ?_))
    refine (rwithout_any frm h' hL).mono ?_
    rintro e w1 ⟨v1, rfl, ho, hk⟩
    go_wp2_with (first | (at_builtin; refine wl_append rfl _ _ _ _ rfl _ _ rfl rfl ?_) | (at_make; refine wl_make rfl _ _ _ rfl _ _ rfl rfl ?_) | (at_mapUpdate; refine wl_mapUpdate rfl _ _ _ _ rfl _ _ _ rfl rfl rfl ?_) | (at_lookup; refine wl_lookup rfl _ _ _ _ rfl _ _ rfl rfl ?_) | (at_delete; refine wl_delete rfl _ _ _ _ rfl _ _ rfl rfl ?_) | (with_reducible refine wl_len rfl _ _ rfl _ rfl ?_) | (with_reducible refine wl_range rfl _ _ rfl _ rfl ?_) | (with_reducible refine wl_next rfl _ rfl _ rfl ?_) | (with_reducible refine wl_copy rfl _ _ _ _ rfl _ _ rfl rfl ?_) | (with_reducible refine wl_max rfl _ _ _ _ rfl _ _ rfl rfl ?_) | (with_reducible refine wl_min rfl _ _ _ _ rfl _ _ rfl rfl ?_))
    go_ret
    exact ⟨_, rfl, fl_new ho hkW.size, hkW.trans' hk⟩
  have b2 : ((kind : Int) == 2) = false := by simp; omega
  have b4 : ((kind : Int) == 4) = false := by simp; omega
  cases hf : find L frm with
  | none =>
    have e1 : namesOp L ⟨kind, file, at_, b, frm, to⟩ = L := by simp [namesOp, h2, h4, hf]
    have e2 : findZ L frm = -1 := by simp [findZ, hf]
    rw [e1]
    clear e1
    go_enter Tryz.func73, Tryz.ntmps73
    go_wp2_with (first | (at_builtin; refine wl_append rfl _ _ _ _ rfl _ _ rfl rfl ?_) | (at_make; refine wl_make rfl _ _ _ rfl _ _ rfl rfl ?_) | (at_mapUpdate; refine wl_mapUpdate rfl _ _ _ _ rfl _ _ _ rfl rfl rfl ?_) | (at_lookup; refine wl_lookup rfl _ _ _ _ rfl _ _ rfl rfl ?_) | (at_delete; refine wl_delete rfl _ _ _ _ rfl _ _ rfl rfl ?_) | (with_reducible refine wl_len rfl _ _ rfl _ rfl ?_) | (with_reducible refine wl_range rfl _ _ rfl _ rfl ?_) | (with_reducible refine wl_next rfl _ rfl _ rfl ?_) | (with_reducible refine wl_copy rfl _ _ _ _ rfl _ _ rfl rfl ?_) | (with_reducible refine wl_max rfl _ _ _ _ rfl _ _ rfl rfl ?_) | (with_reducible refine wl_min rfl _ _ _ _ rfl _ _ rfl rfl ?_))
    refine (rfind_any frm h').mono ?_
    rintro e w1 ⟨rfl, rfl⟩
    rw [e2]
    go_wp2_with (first | (at_builtin; refine wl_append rfl _ _ _ _ rfl _ _ rfl rfl ?_) | (at_make; refine wl_make rfl _ _ _ rfl _ _ rfl rfl ?_) | (at_mapUpdate; refine wl_mapUpdate rfl _ _ _ _ rfl _ _ _ rfl rfl rfl ?_) | (at_lookup; refine wl_lookup rfl _ _ _ _ rfl _ _ rfl rfl ?_) | (at_delete; refine wl_delete rfl _ _ _ _ rfl _ _ rfl rfl ?_) | (with_reducible refine wl_len rfl _ _ rfl _ rfl ?_) | (with_reducible refine wl_range rfl _ _ rfl _ rfl ?_) | (with_reducible refine wl_next rfl _ rfl _ rfl ?_) | (with_reducible refine wl_copy rfl _ _ _ _ rfl _ _ rfl rfl ?_) | (with_reducible refine wl_max rfl _ _ _ _ rfl _ _ rfl rfl ?_) | (with_reducible refine wl_min rfl _ _ _ _ rfl _ _ rfl rfl ?_))
    obtain ⟨a, c, rfl, _, _⟩ := h.shape
    go_ret
    exact ⟨_, rfl, h'.mono fun j _ ha => .inl ha, hkW⟩
  | some f =>
    have e1 : namesOp L ⟨kind, file, at_, b, frm, to⟩ = withN (without L frm) to f := by simp [namesOp, h2, h4, hf]
    have e2 : findZ L frm = (f : Int) := by simp [findZ, hf]
    rw [e1]
    clear e1
    have c4 := hB.cell 4
    have c5 := hB.cell 5
    simp only [List.getElem?_toArray, List.getElem?_cons_succ, List.getElem?_cons_zero] at c4 c5
    have hlen := without_len L frm
    go_enter Tryz.func73, Tryz.ntmps73
    go_wp2_with (first | (at_builtin; refine wl_append rfl _ _ _ _ rfl _ _ rfl rfl ?_) | (at_make; refine wl_make rfl _ _ _ rfl _ _ rfl rfl ?_) | (at_mapUpdate; refine wl_mapUpdate rfl _ _ _ _ rfl _ _ _ rfl rfl rfl ?_) | (at_lookup; refine wl_lookup rfl _ _ _ _ rfl _ _ rfl rfl ?_) | (at_delete; refine wl_delete rfl _ _ _ _ rfl _ _ rfl rfl ?_) | (with_reducible refine wl_len rfl _ _ rfl _ rfl ?_) | (with_reducible refine wl_range rfl _ _ rfl _ rfl ?_) | (with_reducible refine wl_next rfl _ rfl _ rfl ?_) | (with_reducible refine wl_copy rfl _ _ _ _ rfl _ _ rfl rfl ?_) | (with_reducible refine wl_max rfl _ _ _ _ rfl _ _ rfl rfl ?_) | (with_reducible refine wl_min rfl _ _ _ _ rfl _ _ rfl rfl ?_))
    refine (rfind_any frm h').mono ?_
    rintro e w1 ⟨rfl, rfl⟩
    rw [e2]
    go_wp2_with (first | (at_builtin; refine wl_append rfl _ _ _ _ rfl _ _ rfl rfl ?_) | (at_make; refine wl_make rfl _ _ _ rfl _ _ rfl rfl ?_) | (at_mapUpdate; refine wl_mapUpdate rfl _ _ _ _ rfl _ _ _ rfl rfl rfl ?_) | (at_lookup; refine wl_lookup rfl _ _ _ _ rfl _ _ rfl rfl ?_) | (at_delete; refine wl_delete rfl _ _ _ _ rfl _ _ rfl rfl ?_) | (with_reducible refine wl_len rfl _ _ rfl _ rfl ?_) | (with_reducible refine wl_range rfl _ _ rfl _ rfl ?_) | (with_reducible refine wl_next rfl _ rfl _ rfl ?_) | (with_reducible refine wl_copy rfl _ _ _ _ rfl _ _ rfl rfl ?_) | (with_reducible refine wl_max rfl _ _ _ _ rfl _ _ rfl rfl ?_) | (with_reducible refine wl_min rfl _ _ _ _ rfl _ _ rfl rfl ?_))
    generalize w.alloc (.cells #[.int .i64 kind, .int .i64 file, .int .i64 at_, .string ⟨b.toArray⟩, .string ⟨frm.toArray⟩, .string ⟨to.toArray⟩] 100) = W at *
    have hWl := hB.lt
    refine wp_region_sig (fun w' => w'.cell? ⟨w.heap.size, 4, none⟩ = some (.string ⟨frm.toArray⟩) ∧ w'.cell? ⟨w.heap.size, 5, none⟩ = some (.string ⟨to.toArray⟩)) (fun j => decide (j ≤ 99)) [(0, true), (1, true), (2, true), (4, true), (5, true), (6, true), (3, false), (7, false), (8, false)] (by kernel_rfl) (by kernel_rfl) (by intro c a d v w h; cases d <;> exact h) ⟨c4, c5⟩ ?_
    apply sig_still (o := ⟨some 29, _, _, _, _, _⟩) rfl rfl
    · intro w' hS
      obtain ⟨q1, q2⟩ := hS
      first | (go_simp; done) | (go_simp; rfl) | rfl
    go_frame
    apply sig_still (o := ⟨some 30, _, _, _, _, _⟩) rfl rfl
    · intro w' hS
      obtain ⟨q1, q2⟩ := hS
      first | (go_simp; done) | (go_simp; rfl) | rfl
    go_frame
    apply sig_still (o := ⟨some 31, _, _, _, _, _⟩) rfl rfl
    · intro w' hS
      obtain ⟨q1, q2⟩ := hS
      first | (go_simp; done) | (go_simp; rfl) | rfl
    go_frame
    apply sig_still (o := ⟨some 33, _, _, _, _, _⟩) rfl rfl
    · intro w' hS
      obtain ⟨q1, q2⟩ := hS
      first | (go_simp; done) | (go_simp; rfl) | rfl
    go_frame
    apply sig_still (o := ⟨some 34, _, _, _, _, _⟩) rfl rfl
    · intro w' hS
      obtain ⟨q1, q2⟩ := hS
      first | (go_simp; done) | (go_simp; rfl) | rfl
    go_frame
    apply sig_still (o := ⟨some 35, _, _, _, _, _⟩) rfl rfl
    · intro w' hS
      obtain ⟨q1, q2⟩ := hS
      first | (go_simp; done) | (go_simp; rfl) | rfl
    go_frame
    refine sig_eff (o := ⟨some 32, _, _, _, _, _⟩) rfl rfl (fun K hKe => ?_)
    go_wp2_with (first | (at_builtin; refine wl_append rfl _ _ _ _ rfl _ _ rfl rfl ?_) | (at_make; refine wl_make rfl _ _ _ rfl _ _ rfl rfl ?_) | (at_mapUpdate; refine wl_mapUpdate rfl _ _ _ _ rfl _ _ _ rfl rfl rfl ?_) | (at_lookup; refine wl_lookup rfl _ _ _ _ rfl _ _ rfl rfl ?_) | (at_delete; refine wl_delete rfl _ _ _ _ rfl _ _ rfl rfl ?_) | (with_reducible refine wl_len rfl _ _ rfl _ rfl ?_) | (with_reducible refine wl_range rfl _ _ rfl _ rfl ?_) | (with_reducible refine wl_next rfl _ rfl _ rfl ?_) | (with_reducible refine wl_copy rfl _ _ _ _ rfl _ _ rfl rfl ?_) | (with_reducible refine wl_max rfl _ _ _ _ rfl _ _ rfl rfl ?_) | (with_reducible refine wl_min rfl _ _ _ _ rfl _ _ rfl rfl ?_))
    refine (rwithout_any frm (by exact h') hL).mono ?_
    rintro e w1 ⟨v1, rfl, ho, hk⟩
    replace ho : FlO w1 W.heap.size 96 2 encNm v1 (without L frm) := ho
    replace hk : Keep No W w1 := ⟨hk.os, hk.tape, hk.output, hk.size, hk.block⟩
    have r4 : w1.cell? ⟨w.heap.size, 4, none⟩ = _ := (hk.cell (p := ⟨w.heap.size, 4, none⟩) hWl (fun h => h)).trans c4
    have r5 : w1.cell? ⟨w.heap.size, 5, none⟩ = _ := (hk.cell (p := ⟨w.heap.size, 5, none⟩) hWl (fun h => h)).trans c5
    go_wp2_with (first | (at_builtin; refine wl_append rfl _ _ _ _ rfl _ _ rfl rfl ?_) | (at_make; refine wl_make rfl _ _ _ rfl _ _ rfl rfl ?_) | (at_mapUpdate; refine wl_mapUpdate rfl _ _ _ _ rfl _ _ _ rfl rfl rfl ?_) | (at_lookup; refine wl_lookup rfl _ _ _ _ rfl _ _ rfl rfl ?_) | (at_delete; refine wl_delete rfl _ _ _ _ rfl _ _ rfl rfl ?_) | (with_reducible refine wl_len rfl _ _ rfl _ rfl ?_) | (with_reducible refine wl_range rfl _ _ rfl _ rfl ?_) | (with_reducible refine wl_next rfl _ rfl _ rfl ?_) | (with_reducible refine wl_copy rfl _ _ _ _ rfl _ _ rfl rfl ?_) | (with_reducible refine wl_max rfl _ _ _ _ rfl _ _ rfl rfl ?_) | (with_reducible refine wl_min rfl _ _ _ _ rfl _ _ rfl rfl ?_))
    refine ⟨fun _ => ⟨r4, r5⟩, ?_⟩
    refine sig_eff (o := ⟨some 36, _, _, _, _, _⟩) rfl rfl (fun K hKe => ?_)
    go_wp2_with (first | (at_builtin; refine wl_append rfl _ _ _ _ rfl _ _ rfl rfl ?_) | (at_make; refine wl_make rfl _ _ _ rfl _ _ rfl rfl ?_) | (at_mapUpdate; refine wl_mapUpdate rfl _ _ _ _ rfl _ _ _ rfl rfl rfl ?_) | (at_lookup; refine wl_lookup rfl _ _ _ _ rfl _ _ rfl rfl ?_) | (at_delete; refine wl_delete rfl _ _ _ _ rfl _ _ rfl rfl ?_) | (with_reducible refine wl_len rfl _ _ rfl _ rfl ?_) | (with_reducible refine wl_range rfl _ _ rfl _ rfl ?_) | (with_reducible refine wl_next rfl _ rfl _ rfl ?_) | (with_reducible refine wl_copy rfl _ _ _ _ rfl _ _ rfl rfl ?_) | (with_reducible refine wl_max rfl _ _ _ _ rfl _ _ rfl rfl ?_) | (with_reducible refine wl_min rfl _ _ _ _ rfl _ _ rfl rfl ?_))
    refine (rwith_any to f ho.fl (by omega)).mono ?_
    rintro e w2 ⟨v2, rfl, ho2, hk2⟩
    have hw1 : w.heap.size < w1.heap.size := Nat.lt_of_lt_of_le hWl hk.size
    have s4 : w2.cell? ⟨w.heap.size, 4, none⟩ = _ := (hk2.cell (p := ⟨w.heap.size, 4, none⟩) hw1 (fun h => h)).trans r4
    have s5 : w2.cell? ⟨w.heap.size, 5, none⟩ = _ := (hk2.cell (p := ⟨w.heap.size, 5, none⟩) hw1 (fun h => h)).trans r5
    go_wp2_with (first | (at_builtin; refine wl_append rfl _ _ _ _ rfl _ _ rfl rfl ?_) | (at_make; refine wl_make rfl _ _ _ rfl _ _ rfl rfl ?_) | (at_mapUpdate; refine wl_mapUpdate rfl _ _ _ _ rfl _ _ _ rfl rfl rfl ?_) | (at_lookup; refine wl_lookup rfl _ _ _ _ rfl _ _ rfl rfl ?_) | (at_delete; refine wl_delete rfl _ _ _ _ rfl _ _ rfl rfl ?_) | (with_reducible refine wl_len rfl _ _ rfl _ rfl ?_) | (with_reducible refine wl_range rfl _ _ rfl _ rfl ?_) | (with_reducible refine wl_next rfl _ rfl _ rfl ?_) | (with_reducible refine wl_copy rfl _ _ _ _ rfl _ _ rfl rfl ?_) | (with_reducible refine wl_max rfl _ _ _ _ rfl _ _ rfl rfl ?_) | (with_reducible refine wl_min rfl _ _ _ _ rfl _ _ rfl rfl ?_))
    refine ⟨fun _ => ⟨s4, s5⟩, ?_⟩
    refine sig_eff (o := ⟨some 4, _, _, _, _, _⟩) rfl rfl (fun K hKe => ?_)
    go_wp2_with (first | (at_builtin; refine wl_append rfl _ _ _ _ rfl _ _ rfl rfl ?_) | (at_make; refine wl_make rfl _ _ _ rfl _ _ rfl rfl ?_) | (at_mapUpdate; refine wl_mapUpdate rfl _ _ _ _ rfl _ _ _ rfl rfl rfl ?_) | (at_lookup; refine wl_lookup rfl _ _ _ _ rfl _ _ rfl rfl ?_) | (at_delete; refine wl_delete rfl _ _ _ _ rfl _ _ rfl rfl ?_) | (with_reducible refine wl_len rfl _ _ rfl _ rfl ?_) | (with_reducible refine wl_range rfl _ _ rfl _ rfl ?_) | (with_reducible refine wl_next rfl _ rfl _ rfl ?_) | (with_reducible refine wl_copy rfl _ _ _ _ rfl _ _ rfl rfl ?_) | (with_reducible refine wl_max rfl _ _ _ _ rfl _ _ rfl rfl ?_) | (with_reducible refine wl_min rfl _ _ _ _ rfl _ _ rfl rfl ?_))
    refine ⟨fun _ => ⟨s4, s5⟩, sig_nil ?_⟩
    go_wp2_with (first | (at_builtin; refine wl_append rfl _ _ _ _ rfl _ _ rfl rfl ?_) | (at_make; refine wl_make rfl _ _ _ rfl _ _ rfl rfl ?_) | (at_mapUpdate; refine wl_mapUpdate rfl _ _ _ _ rfl _ _ _ rfl rfl rfl ?_) | (at_lookup; refine wl_lookup rfl _ _ _ _ rfl _ _ rfl rfl ?_) | (at_delete; refine wl_delete rfl _ _ _ _ rfl _ _ rfl rfl ?_) | (with_reducible refine wl_len rfl _ _ rfl _ rfl ?_) | (with_reducible refine wl_range rfl _ _ rfl _ rfl ?_) | (with_reducible refine wl_next rfl _ rfl _ rfl ?_) | (with_reducible refine wl_copy rfl _ _ _ _ rfl _ _ rfl rfl ?_) | (with_reducible refine wl_max rfl _ _ _ _ rfl _ _ rfl rfl ?_) | (with_reducible refine wl_min rfl _ _ _ _ rfl _ _ rfl rfl ?_))
    go_ret
    exact ⟨_, rfl, fl_new ho2 (Nat.le_trans hkW.size hk.size), (hkW.trans' hk).trans' hk2⟩
end Go.Proofs.YtkmoomgmmhmaeaaGreat
namespace Go.Proofs.YtkmoomgmmhmaeaaGreat
open Go.RowKit Go.Dm Go.Dm.Dk

theorem encS_map (l : List (List UInt8)) : l.flatMap encS = l.map fun s => .string ⟨s.toArray⟩ := List.map_eq_flatMap.symm

set_option maxRecDepth 100000 in
set_option maxHeartbeats 1000000 in
theorem rput_any {A : Nat → Prop} {w : World} {v : Value} {l : List (List UInt8)} (i : Nat) (s : List UInt8) (h : Fl A w 1 encS v l) (hl : l.length ≤ 1000000) (hi : i < l.length) :
    Calls Tryz.prog 71 #[v, .int .i64 (i : Int), .string ⟨s.toArray⟩] w fun e w' => ∃ v', e = .returned v' ∧ FlO w' w.heap.size 9 1 encS v' (putF l i s) ∧ Keep No w w' := by
  obtain ⟨a, c, rfl, hc, hm⟩ := h.shape
  go_enter Tryz.func71, Tryz.ntmps71
  go_wp2_with (first | (at_builtin; refine wl_append rfl _ _ _ _ rfl _ _ rfl rfl ?_) | (at_make; refine wl_make rfl _ _ _ rfl _ _ rfl rfl ?_) | (at_mapUpdate; refine wl_mapUpdate rfl _ _ _ _ rfl _ _ _ rfl rfl rfl ?_) | (at_lookup; refine wl_lookup rfl _ _ _ _ rfl _ _ rfl rfl ?_) | (at_delete; refine wl_delete rfl _ _ _ _ rfl _ _ rfl rfl ?_) | (with_reducible refine wl_len rfl _ _ rfl _ rfl ?_) | (with_reducible refine wl_range rfl _ _ rfl _ rfl ?_) | (with_reducible refine wl_next rfl _ rfl _ rfl ?_) | (with_reducible refine wl_copy rfl _ _ _ _ rfl _ _ rfl rfl ?_) | (with_reducible refine wl_max rfl _ _ _ _ rfl _ _ rfl rfl ?_) | (with_reducible refine wl_min rfl _ _ _ _ rfl _ _ rfl rfl ?_))
  refine rg_cat _ 16 Tryz.underlying26 info_str rfl (by decide) h (fun x => s_one x) (FlO.nil (base := w.heap.size)) (by simpa using Nat.le_trans hl (by decide)) (by decide) (Nat.le_refl _) ?_
  intro v' w1 ho hk _
  rw [List.nil_append] at ho
  replace hk : Keep No w w1 := hk.mono fun j _ h => by cases h
  obtain ⟨g, cap, rfl⟩ : ∃ g cap, v' = .slice (some ⟨g, 0, none⟩) l.length cap := by
    rcases ho.2 with ⟨_, h⟩ | ⟨g, cap, _, e, _⟩
    · omega
    · exact ⟨g, cap, e⟩
  have ho' : w1.ownsRow w.heap.size 9 1 (.slice (some ⟨g, 0, none⟩) l.length cap) l.length (l.flatMap encS) := ho
  have f1 := ho'.frozenAt i
  have hst := (ho'.stored i (.string ⟨s.toArray⟩)).1
  have c1 := ho'.cellAt i (by omega)
  rw [encS_map, List.getElem?_map, List.getElem?_eq_getElem hi, Option.map_some] at c1
  go_wp2_with (first | (at_builtin; refine wl_append rfl _ _ _ _ rfl _ _ rfl rfl ?_) | (at_make; refine wl_make rfl _ _ _ rfl _ _ rfl rfl ?_) | (at_mapUpdate; refine wl_mapUpdate rfl _ _ _ _ rfl _ _ _ rfl rfl rfl ?_) | (at_lookup; refine wl_lookup rfl _ _ _ _ rfl _ _ rfl rfl ?_) | (at_delete; refine wl_delete rfl _ _ _ _ rfl _ _ rfl rfl ?_) | (with_reducible refine wl_len rfl _ _ rfl _ rfl ?_) | (with_reducible refine wl_range rfl _ _ rfl _ rfl ?_) | (with_reducible refine wl_next rfl _ rfl _ rfl ?_) | (with_reducible refine wl_copy rfl _ _ _ _ rfl _ _ rfl rfl ?_) | (with_reducible refine wl_max rfl _ _ _ _ rfl _ _ rfl rfl ?_) | (with_reducible refine wl_min rfl _ _ _ _ rfl _ _ rfl rfl ?_))
  go_ret
  refine ⟨_, rfl, ?_, hk.setCell (p := ⟨g, i, none⟩) (fun h => absurd (ho'.lt g rfl).1 (Nat.not_le.2 h)) _⟩
  unfold FlO putF
  rw [List.length_set]
  rw [encS_map, ← List.map_set, ← encS_map] at hst
  exact hst

theorem used_step {L : Names} (is : List (List UInt8)) {k : Nat} (hk : k < L.length) : ((L.take (k + 1)).map fun p => fileLen is p.2).sum = ((L.take k).map fun p => fileLen is p.2).sum + fileLen is L[k].2 := by
  rw [List.take_succ_eq_append_getElem hk, List.map_append, List.sum_append]; simp only [List.map_cons, List.map_nil, List.sum_cons, List.sum_nil, Nat.add_zero]
theorem used_take {L : Names} (is : List (List UInt8)) {N : Nat} (h : ∀ f, fileLen is f ≤ N) : ∀ k, ((L.take k).map fun p => fileLen is p.2).sum ≤ k * N
  | 0 => by simp
  | k + 1 => by
    have ih := used_take (L := L) is h k
    rcases Nat.lt_or_ge k L.length with hk | hk
    · rw [used_step is hk, Nat.succ_mul]; have := h L[k].2; omega
    · rw [List.take_of_length_le (by omega)]; rw [List.take_of_length_le hk] at ih; rw [Nat.succ_mul]; omega

def dv (m : M) (v1 v2 v3 v4 v5 : Value) : Value := .agg #[.int .i64 m.room, v1, v2, v3, v4, v5, .bool m.off, .int .i64 m.cut]
structure DV (A : Nat → Prop) (w : World) (v1 v2 v3 v4 v5 : Value) (m : M) : Prop where
  is : Fl A w 1 encS v1 m.is
  sure : Fl A w 1 encS v2 m.sure
  L : Fl A w 2 encNm v3 m.L
  S : Fl A w 2 encNm v4 m.S
  W : Fl A w 6 encOp v5 m.wait
/-- files that are named are there -/
structure Files (m : M) (n : Nat) : Prop where
  L : ∀ p ∈ m.L, p.2 < m.is.length
  S : ∀ p ∈ m.S, p.2 < m.is.length
  W : ∀ o ∈ m.wait, o.kind = 1 ∨ o.kind = 2 → o.file < m.is.length
  ln : m.sure.length = m.is.length
  il : m.is.length ≤ n

set_option maxRecDepth 100000 in
set_option maxHeartbeats 1000000 in
theorem rused_any {A : Nat → Prop} {w : World} {v1 v2 v3 v4 v5 : Value} {m : M} {n N n2 : Nat} (h : DV A w v1 v2 v3 v4 v5 m) (hs : Small m n N) (hf : Files m n2) (hn : n ≤ 100000) (hN : N ≤ 1000000) :
    Calls Tryz.prog 43 #[dv m v1 v2 v3 v4 v5] w fun e w' => e = .returned (.int .i64 (used m)) ∧ Keep No w w' := by
  obtain ⟨a1, c1, rfl, hc1, hm1⟩ := h.is.shape
  obtain ⟨a3, c3, rfl, hc3, hm3⟩ := h.L.shape
  have hN2 : ∀ f, fileLen m.is f ≤ N := hs.is
  have hLn := hs.L
  unfold dv
  go_enter Tryz.func43, Tryz.ntmps43
  go_wp2_with (first | (at_builtin; refine wl_append rfl _ _ _ _ rfl _ _ rfl rfl ?_) | (at_make; refine wl_make rfl _ _ _ rfl _ _ rfl rfl ?_) | (at_mapUpdate; refine wl_mapUpdate rfl _ _ _ _ rfl _ _ _ rfl rfl rfl ?_) | (at_lookup; refine wl_lookup rfl _ _ _ _ rfl _ _ rfl rfl ?_) | (at_delete; refine wl_delete rfl _ _ _ _ rfl _ _ rfl rfl ?_) | (with_reducible refine wl_len rfl _ _ rfl _ rfl ?_) | (with_reducible refine wl_range rfl _ _ rfl _ rfl ?_) | (with_reducible refine wl_next rfl _ rfl _ rfl ?_) | (with_reducible refine wl_copy rfl _ _ _ _ rfl _ _ rfl rfl ?_) | (with_reducible refine wl_max rfl _ _ _ _ rfl _ _ rfl rfl ?_) | (with_reducible refine wl_min rfl _ _ _ _ rfl _ _ rfl rfl ?_))
  have hkW : Keep No w (w.alloc (.cells #[.int .i64 m.room, .slice a1 m.is.length c1, v2, .slice a3 m.L.length c3, v4, v5, .bool m.off, .int .i64 m.cut] 30)) := (Keep.refl _ _).alloc _
  have hB : Blk (w.alloc (.cells #[.int .i64 m.room, .slice a1 m.is.length c1, v2, .slice a3 m.L.length c3, v4, v5, .bool m.off, .int .i64 m.cut] 30)) w.heap.size #[.int .i64 m.room, .slice a1 m.is.length c1, v2, .slice a3 m.L.length c3, v4, v5, .bool m.off, .int .i64 m.cut] 30 := Blk.new _ _ _
  generalize w.alloc (.cells #[.int .i64 m.room, .slice a1 m.is.length c1, v2, .slice a3 m.L.length c3, v4, v5, .bool m.off, .int .i64 m.cut] 30) = W at *
  have q1 := hB.cell 1
  have q3 := hB.cell 3
  simp only [List.getElem?_toArray, List.getElem?_cons_succ, List.getElem?_cons_zero] at q1 q3
  have hWl := hB.lt
  go_loopw [3, 4] (fun nv iv wr => ∃ (k : Nat), iv = .int .i64 k ∧ k ≤ m.L.length ∧ nv = .int .i64 ((((m.L.take k).map fun p => fileLen m.is p.2).sum : Nat) : Int) ∧ Keep No W wr) (fun _ iv _ => m.L.length - (intOf iv).toNat)
  case atStart => exact ⟨0, rfl, Nat.zero_le _, rfl, Keep.refl _ _⟩
  case round =>
    obtain ⟨k, rfl, hk, rfl, hK⟩ := hrel
    have r1 : wr.cell? ⟨w.heap.size, 1, none⟩ = _ := (hK.cell (p := ⟨w.heap.size, 1, none⟩) hWl (fun h => h)).trans q1
    have r3 : wr.cell? ⟨w.heap.size, 3, none⟩ = _ := (hK.cell (p := ⟨w.heap.size, 3, none⟩) hWl (fun h => h)).trans q3
    rcases Nat.lt_or_ge k m.L.length with hkl | hkl
    · obtain ⟨g, off, cap, e, _, hg, _, _, hcell⟩ := (h.L.no (hkW.trans' hK)).at (fun _ => rfl) hkl
      cases e
      have hfl := hf.L _ (List.getElem_mem hkl)
      have x1 := hcell 1 _ rfl
      obtain ⟨g2, off2, cap2, e, _, hg2, _, _, hcell2⟩ := (h.is.no (hkW.trans' hK)).at (fun _ => rfl) hfl
      cases e
      have x2 := hcell2 0 _ rfl
      simp only [Nat.mul_one, Nat.add_zero] at x2
      have hst := used_step m.is hkl
      have hb := used_take (L := m.L) m.is hN2 k
      have hfe : fileLen m.is m.L[k].2 = m.is[m.L[k].2].length := by unfold fileLen; rw [List.getD_eq_getElem?_getD, List.getElem?_eq_getElem hfl, Option.getD_some]
      have hfN := hN2 m.L[k].2
      have hkN : k * N ≤ 100000 * 1000000 := Nat.mul_le_mul (by omega) hN
      rw [hfe] at hst hfN
      have HS := Lib.hid hst
      clear hcell hcell2 hst hfe hN2
      generalize ((m.L.take k).map fun p => fileLen m.is p.2).sum = U at *
      generalize m.is[m.L[k].2] = S at *
      generalize m.L[k].2 = F at *
      have hkl' : (k : Int) < (m.L.length : Int) := by omega
      have hfl' : (F : Int) < (m.is.length : Int) := by omega
      go_wp2_with (first | (at_builtin; refine wl_append rfl _ _ _ _ rfl _ _ rfl rfl ?_) | (at_make; refine wl_make rfl _ _ _ rfl _ _ rfl rfl ?_) | (at_mapUpdate; refine wl_mapUpdate rfl _ _ _ _ rfl _ _ _ rfl rfl rfl ?_) | (at_lookup; refine wl_lookup rfl _ _ _ _ rfl _ _ rfl rfl ?_) | (at_delete; refine wl_delete rfl _ _ _ _ rfl _ _ rfl rfl ?_) | (with_reducible refine wl_len rfl _ _ rfl _ rfl ?_) | (with_reducible refine wl_range rfl _ _ rfl _ rfl ?_) | (with_reducible refine wl_next rfl _ rfl _ rfl ?_) | (with_reducible refine wl_copy rfl _ _ _ _ rfl _ _ rfl rfl ?_) | (with_reducible refine wl_max rfl _ _ _ _ rfl _ _ rfl rfl ?_) | (with_reducible refine wl_min rfl _ _ _ _ rfl _ _ rfl rfl ?_))
      go_quiet (fail)
      go_wp2_with (first | (at_builtin; refine wl_append rfl _ _ _ _ rfl _ _ rfl rfl ?_) | (at_make; refine wl_make rfl _ _ _ rfl _ _ rfl rfl ?_) | (at_mapUpdate; refine wl_mapUpdate rfl _ _ _ _ rfl _ _ _ rfl rfl rfl ?_) | (at_lookup; refine wl_lookup rfl _ _ _ _ rfl _ _ rfl rfl ?_) | (at_delete; refine wl_delete rfl _ _ _ _ rfl _ _ rfl rfl ?_) | (with_reducible refine wl_len rfl _ _ rfl _ rfl ?_) | (with_reducible refine wl_range rfl _ _ rfl _ rfl ?_) | (with_reducible refine wl_next rfl _ rfl _ rfl ?_) | (with_reducible refine wl_copy rfl _ _ _ _ rfl _ _ rfl rfl ?_) | (with_reducible refine wl_max rfl _ _ _ _ rfl _ _ rfl rfl ?_) | (with_reducible refine wl_min rfl _ _ _ _ rfl _ _ rfl rfl ?_))
      go_roundw
      case rel => exact ⟨k + 1, by go_num, by omega, by rw [HS.out]; go_num, hK.drewN _⟩
      case measure => simp [intOf]; omega
    · obtain rfl : k = m.L.length := by omega
      go_wp2_with (first | (at_builtin; refine wl_append rfl _ _ _ _ rfl _ _ rfl rfl ?_) | (at_make; refine wl_make rfl _ _ _ rfl _ _ rfl rfl ?_) | (at_mapUpdate; refine wl_mapUpdate rfl _ _ _ _ rfl _ _ _ rfl rfl rfl ?_) | (at_lookup; refine wl_lookup rfl _ _ _ _ rfl _ _ rfl rfl ?_) | (at_delete; refine wl_delete rfl _ _ _ _ rfl _ _ rfl rfl ?_) | (with_reducible refine wl_len rfl _ _ rfl _ rfl ?_) | (with_reducible refine wl_range rfl _ _ rfl _ rfl ?_) | (with_reducible refine wl_next rfl _ rfl _ rfl ?_) | (with_reducible refine wl_copy rfl _ _ _ _ rfl _ _ rfl rfl ?_) | (with_reducible refine wl_max rfl _ _ _ _ rfl _ _ rfl rfl ?_) | (with_reducible refine wl_min rfl _ _ _ _ rfl _ _ rfl rfl ?_))
      go_ret
      exact ⟨by rw [List.take_length]; rfl, hkW.trans' hK⟩
end Go.Proofs.YtkmoomgmmhmaeaaGreat
namespace Go.Proofs.YtkmoomgmmhmaeaaGreat
open Go.RowKit Go.Dm Go.Dm.Dk

theorem str_app (a b : List UInt8) : (⟨a.toArray⟩ ++ ⟨b.toArray⟩ : ByteArray) = ⟨(a ++ b).toArray⟩ := by
  apply ByteArray.ext
  simp
theorem str_ext (a : List UInt8) (i j : Nat) : (⟨a.toArray⟩ : ByteArray).extract i j = ⟨((a.drop i).take (j - i)).toArray⟩ := by
  apply ByteArray.ext
  rw [ByteArray.data_extract]
  simp
theorem ret_str {a b : ByteArray} (h : a = b) : Ending.returned (.string a) = .returned (.string b) := by rw [h]
def padB (s : List UInt8) (i : Nat) : List UInt8 := s ++ List.replicate (i - s.length) 0
theorem padB_len (s : List UInt8) (i : Nat) : (padB s i).length = max s.length i := by simp [padB]; omega
theorem laidB_pad (s : List UInt8) (i : Nat) (b : List UInt8) : laidB s i b = (padB s i).take i ++ b ++ (padB s i).drop (i + b.length) := by
  have h0 : splice (List.replicate (max s.length (i + b.length)) (0 : UInt8)) 0 s = s ++ List.replicate (i + b.length - s.length) 0 := by
    unfold splice
    rw [List.take_zero, List.nil_append, Nat.zero_add, List.drop_replicate]
    congr 2; omega
  unfold laidB
  rw [h0]
  unfold splice padB
  rcases Nat.le_total i s.length with h | h
  · rw [List.take_append_of_le_length h, List.take_append_of_le_length h, Nat.sub_eq_zero_of_le h]
    rw [List.drop_append, List.replicate_zero, List.append_nil]
    have : (List.replicate (i + b.length - s.length) (0 : UInt8)).drop (i + b.length - s.length) = [] := List.drop_eq_nil_of_le (by simp)
    rw [this, List.append_nil, List.append_assoc]
  · have e1 : (s ++ List.replicate (i - s.length) (0 : UInt8)).drop (i + b.length) = [] := List.drop_eq_nil_of_le (by rw [List.length_append, List.length_replicate]; omega)
    have e2 : (s ++ List.replicate (i + b.length - s.length) (0 : UInt8)).drop (i + b.length) = [] := List.drop_eq_nil_of_le (by rw [List.length_append, List.length_replicate]; omega)
    rw [e1, e2]
    rw [List.take_append, List.take_append, List.take_replicate, List.take_replicate]
    rw [Nat.min_eq_left (by omega), Nat.min_self]
    simp
theorem pad_succ (s : List UInt8) (k : Nat) (h : s.length ≤ k) : padB s k ++ [0] = padB s (k + 1) := by
  unfold padB
  rw [List.append_assoc, ← List.replicate_succ']
  congr 2; omega
theorem pad_eq {s p : List UInt8} {k i : Nat} (h : padB s k = p) (hl : p.length = max s.length k) (hk : k ≤ s.length ∨ k ≤ i) (hi : p.length ≥ i) : padB s i = p := by
  rw [← h]
  unfold padB
  congr 2; omega
theorem pad_max (s : List UInt8) (k : Nat) : padB s k = padB s (max s.length k) := by unfold padB; congr 2; omega

set_option maxRecDepth 100000 in
set_option maxHeartbeats 1000000 in
theorem rlaid_any {w : World} (s : List UInt8) (i : Nat) (b : List UInt8) (hs : s.length ≤ 1000000) (hi : i ≤ 1000000) (hb : b.length ≤ 1000000) :
    Calls Tryz.prog 72 #[.string ⟨s.toArray⟩, .int .i64 (i : Int), .string ⟨b.toArray⟩] w fun e w' => e = .returned (.string ⟨(laidB s i b).toArray⟩) ∧ Keep No w w' := by
  go_enter Tryz.func72, Tryz.ntmps72
  go_wp2_with (first | (at_builtin; refine wl_append rfl _ _ _ _ rfl _ _ rfl rfl ?_) | (at_make; refine wl_make rfl _ _ _ rfl _ _ rfl rfl ?_) | (at_mapUpdate; refine wl_mapUpdate rfl _ _ _ _ rfl _ _ _ rfl rfl rfl ?_) | (at_lookup; refine wl_lookup rfl _ _ _ _ rfl _ _ rfl rfl ?_) | (at_delete; refine wl_delete rfl _ _ _ _ rfl _ _ rfl rfl ?_) | (with_reducible refine wl_len rfl _ _ rfl _ rfl ?_) | (with_reducible refine wl_range rfl _ _ rfl _ rfl ?_) | (with_reducible refine wl_next rfl _ rfl _ rfl ?_) | (with_reducible refine wl_copy rfl _ _ _ _ rfl _ _ rfl rfl ?_) | (with_reducible refine wl_max rfl _ _ _ _ rfl _ _ rfl rfl ?_) | (with_reducible refine wl_min rfl _ _ _ _ rfl _ _ rfl rfl ?_))
  go_loopw [0] (fun sv wr => ∃ k : Nat, sv = .string ⟨(padB s k).toArray⟩ ∧ (k ≤ s.length ∨ k ≤ i) ∧ wr = w) (fun sv _ => i - (match sv with | .string s => s.size | _ => 0))
  case atStart => exact ⟨0, by simp [padB], .inl (Nat.zero_le _), rfl⟩
  case round =>
    obtain ⟨k, rfl, hk, rfl⟩ := hrel
    have hl := padB_len s k
    generalize hp : padB s k = p at *
    have HP := Lib.hid hp
    have HL := Lib.hid hl
    have hpl : p.length ≤ 1000000 := by omega
    clear hp hl
    rcases Nat.lt_or_ge p.length i with hlt | hge
    · go_wp2_with (first | (at_builtin; refine wl_append rfl _ _ _ _ rfl _ _ rfl rfl ?_) | (at_make; refine wl_make rfl _ _ _ rfl _ _ rfl rfl ?_) | (at_mapUpdate; refine wl_mapUpdate rfl _ _ _ _ rfl _ _ _ rfl rfl rfl ?_) | (at_lookup; refine wl_lookup rfl _ _ _ _ rfl _ _ rfl rfl ?_) | (at_delete; refine wl_delete rfl _ _ _ _ rfl _ _ rfl rfl ?_) | (with_reducible refine wl_len rfl _ _ rfl _ rfl ?_) | (with_reducible refine wl_range rfl _ _ rfl _ rfl ?_) | (with_reducible refine wl_next rfl _ rfl _ rfl ?_) | (with_reducible refine wl_copy rfl _ _ _ _ rfl _ _ rfl rfl ?_) | (with_reducible refine wl_max rfl _ _ _ _ rfl _ _ rfl rfl ?_) | (with_reducible refine wl_min rfl _ _ _ _ rfl _ _ rfl rfl ?_))
      go_roundw
      case rel =>
        have hl := HL.out
        refine ⟨max s.length k + 1, ?_, by omega, trivial⟩
        rw [← pad_succ _ _ (by omega), ← pad_max, HP.out]
        rw [str_app]
      case measure =>
        show i - (ByteArray.size (⟨p.toArray⟩ ++ ⟨#[0]⟩)) < i - (ByteArray.size ⟨p.toArray⟩)
        rw [show (⟨#[0]⟩ : ByteArray) = ⟨([0] : List UInt8).toArray⟩ from rfl, str_app]
        show i - (p ++ [0]).toArray.size < i - p.toArray.size
        simp; omega
    · have hge' : (i : Int) ≤ (p.length : Int) := by omega
      rcases Nat.lt_or_ge (i + b.length) p.length with hlt2 | hge2
      · have hlt3 : (i : Int) + (b.length : Int) < (p.length : Int) := by omega
        have s2 : IntKind.i64.wrap ((i : Int) + (b.length : Int)) = (i : Int) + (b.length : Int) := IntWalk.i64_in _ (by omega)
        go_wp2_with (first | (at_builtin; refine wl_append rfl _ _ _ _ rfl _ _ rfl rfl ?_) | (at_make; refine wl_make rfl _ _ _ rfl _ _ rfl rfl ?_) | (at_mapUpdate; refine wl_mapUpdate rfl _ _ _ _ rfl _ _ _ rfl rfl rfl ?_) | (at_lookup; refine wl_lookup rfl _ _ _ _ rfl _ _ rfl rfl ?_) | (at_delete; refine wl_delete rfl _ _ _ _ rfl _ _ rfl rfl ?_) | (with_reducible refine wl_len rfl _ _ rfl _ rfl ?_) | (with_reducible refine wl_range rfl _ _ rfl _ rfl ?_) | (with_reducible refine wl_next rfl _ rfl _ rfl ?_) | (with_reducible refine wl_copy rfl _ _ _ _ rfl _ _ rfl rfl ?_) | (with_reducible refine wl_max rfl _ _ _ _ rfl _ _ rfl rfl ?_) | (with_reducible refine wl_min rfl _ _ _ _ rfl _ _ rfl rfl ?_))
        go_quiet (fail)
        go_wp2_with (first | (at_builtin; refine wl_append rfl _ _ _ _ rfl _ _ rfl rfl ?_) | (at_make; refine wl_make rfl _ _ _ rfl _ _ rfl rfl ?_) | (at_mapUpdate; refine wl_mapUpdate rfl _ _ _ _ rfl _ _ _ rfl rfl rfl ?_) | (at_lookup; refine wl_lookup rfl _ _ _ _ rfl _ _ rfl rfl ?_) | (at_delete; refine wl_delete rfl _ _ _ _ rfl _ _ rfl rfl ?_) | (with_reducible refine wl_len rfl _ _ rfl _ rfl ?_) | (with_reducible refine wl_range rfl _ _ rfl _ rfl ?_) | (with_reducible refine wl_next rfl _ rfl _ rfl ?_) | (with_reducible refine wl_copy rfl _ _ _ _ rfl _ _ rfl rfl ?_) | (with_reducible refine wl_max rfl _ _ _ _ rfl _ _ rfl rfl ?_) | (with_reducible refine wl_min rfl _ _ _ _ rfl _ _ rfl rfl ?_))
        go_ret
        refine ⟨ret_str ?_, (Keep.refl _ _).drewN _⟩
        rw [str_ext, str_ext, str_app, str_app, laidB_pad, pad_eq HP.out HL.out hk hge]
        simp only [Nat.sub_zero, List.drop_zero]
        rw [List.take_of_length_le (l := p.drop _) (by simp)]
      · go_wp2_with (first | (at_builtin; refine wl_append rfl _ _ _ _ rfl _ _ rfl rfl ?_) | (at_make; refine wl_make rfl _ _ _ rfl _ _ rfl rfl ?_) | (at_mapUpdate; refine wl_mapUpdate rfl _ _ _ _ rfl _ _ _ rfl rfl rfl ?_) | (at_lookup; refine wl_lookup rfl _ _ _ _ rfl _ _ rfl rfl ?_) | (at_delete; refine wl_delete rfl _ _ _ _ rfl _ _ rfl rfl ?_) | (with_reducible refine wl_len rfl _ _ rfl _ rfl ?_) | (with_reducible refine wl_range rfl _ _ rfl _ rfl ?_) | (with_reducible refine wl_next rfl _ rfl _ rfl ?_) | (with_reducible refine wl_copy rfl _ _ _ _ rfl _ _ rfl rfl ?_) | (with_reducible refine wl_max rfl _ _ _ _ rfl _ _ rfl rfl ?_) | (with_reducible refine wl_min rfl _ _ _ _ rfl _ _ rfl rfl ?_))
        go_ret
        refine ⟨ret_str ?_, Keep.refl _ _⟩
        rw [str_ext, str_app, laidB_pad, pad_eq HP.out HL.out hk hge, List.drop_eq_nil_of_le hge2]
        simp
end Go.Proofs.YtkmoomgmmhmaeaaGreat
