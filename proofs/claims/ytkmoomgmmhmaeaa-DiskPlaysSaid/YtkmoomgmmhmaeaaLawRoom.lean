/- DiskRoom. No condition. -/
import Derived.Test.YtkmoomgmmhmaeaaLawNil
import Derived.Test.YtkmoomgmmhmaeaaLawRoomM
import Derived.Test.YtkmoomgmmhmaeaaRd
import Derived.IntWalk
namespace Go.Proofs.Ytkmoomgmmhmaeaa
open Go.RowKit Go.Dm Go.Dm.Dk Go.Maps

abbrev ActH : Sh := .pair (.int .i64) (.pair (.int .i64) (.pair (.int .i64) (.pair (.int .i64) (.pair (.slice .u8) (.pair (.slice .bool) .unit)))))
theorem act_cells {A : Nat → Prop} {w : World} {c : List Value} {y : ActH.Ty} (h : Rd A w ActH c y) :
    ∃ vb vk, c = [.int .i64 y.1, .int .i64 y.2.1, .int .i64 y.2.2.1, .int .i64 y.2.2.2.1, vb, vk] ∧ Bts A w vb y.2.2.2.2.1 ∧ Bls A w vk y.2.2.2.2.2.1 := by
  obtain ⟨_, _, rfl, ⟨rfl, _⟩, _, _, rfl, ⟨rfl, _⟩, _, _, rfl, ⟨rfl, _⟩, _, _, rfl, ⟨rfl, _⟩, _, _, rfl, h5, _, _, rfl, h6, h7⟩ := h
  have h5' := h5
  have h6' := h6
  obtain ⟨vb, _, rfl, _⟩ := h5'
  obtain ⟨vk, _, rfl, _⟩ := h6'
  obtain rfl := h7
  exact ⟨vb, vk, rfl, h5.bts, h6.bools⟩

theorem act_at {w : World} {va : Option Addr} {vc : Nat} {l : List ActH.Ty} (hl : Rd (fun k => k < w.heap.size) w (.slice ActH) [.slice va l.length vc] l) {i : Nat} (hi : i < l.length) :
    ∃ g off b1 b2 k1 k2, va = some ⟨g, off, none⟩ ∧ g < w.heap.size ∧ l[i].2.2.2.2.1.length ≤ b2 ∧ b2 ≤ maxLen ∧ l[i].2.2.2.2.2.1.length ≤ k2 ∧ k2 ≤ maxLen ∧ ∀ W, Keep (fun j => w.heap.size ≤ j) w W →
      W.cell? ⟨g, off + i * 6, none⟩ = some (.int .i64 l[i].1) ∧ W.cell? ⟨g, off + i * 6 + 1, none⟩ = some (.int .i64 l[i].2.1) ∧ W.cell? ⟨g, off + i * 6 + 3, none⟩ = some (.int .i64 l[i].2.2.2.1) ∧
      W.cell? ⟨g, off + i * 6 + 4, none⟩ = some (.slice b1 l[i].2.2.2.2.1.length b2) ∧ W.cell? ⟨g, off + i * 6 + 5, none⟩ = some (.slice k1 l[i].2.2.2.2.2.1.length k2) ∧
      Bts (fun k => k < w.heap.size) W (.slice b1 l[i].2.2.2.2.1.length b2) l[i].2.2.2.2.1 ∧ Bls (fun k => k < w.heap.size) W (.slice k1 l[i].2.2.2.2.2.1.length k2) l[i].2.2.2.2.2.1 := by
  obtain ⟨g, off, cap, e1, hg1, hg2, _, _, c, hc, hcell⟩ := hl.at (n := 6) rfl hi
  cases e1
  obtain ⟨vb, vk, rfl, hvb, hvk⟩ := act_cells hc
  obtain ⟨b1, b2, rfl, hb3, hb4⟩ := hvb.shape
  obtain ⟨k1, k2, rfl, hk3, hk4⟩ := hvk.shape
  refine ⟨g, off, b1, b2, k1, k2, rfl, hg1, hb3, hb4, hk3, hk4, fun W hK => ?_⟩
  have hL : ∀ (o : Nat) (u : Value), w.cell? ⟨g, o, none⟩ = some u → W.cell? ⟨g, o, none⟩ = some u := fun o u h => (hK.cell (p := ⟨g, o, none⟩) hg1 (fun h => absurd hg1 (Nat.not_lt.2 h))).trans h
  exact ⟨hL _ _ (hcell 0 _ rfl), hL _ _ (hcell 1 _ rfl), hL _ _ (hcell 3 _ rfl), hL _ _ (hcell 4 _ rfl), hL _ _ (hcell 5 _ rfl), Sl.keep hvb hK fun j hj _ h => absurd h (by omega), Sl.keep hvk hK fun j hj _ h => absurd h (by omega)⟩
theorem wf_byte (z : Int) : ∃ b : UInt8, Value.int .u8 (IntKind.u8.wrap z) = bv b := by
  refine ⟨UInt8.ofNat (IntKind.u8.wrap z).toNat, ?_⟩
  unfold bv
  congr 1
  have : 0 ≤ IntKind.u8.wrap z ∧ IntKind.u8.wrap z < 256 := by
    show 0 ≤ z % 256 ∧ z % 256 < 256
    omega
  simp only [UInt8.toNat_ofNat']
  omega

set_option maxRecDepth 100000 in
set_option maxHeartbeats 8000000 in
theorem diskroom_any (room : Int) (hroom : room ≤ 9223372036854775807) (v : Value) (l : List ActH.Ty) (w : World) (hl : Rd (fun k => k < w.heap.size) w (.slice ActH) [v] l) :
    Calls Try.prog 7 #[.int .i64 room, v] w fun e w' => e = .returned (.bool true) ∧ Keep No w w' := by
  obtain ⟨va, vc, rfl, hvc, hvm⟩ := hl.shape
  go_enter Try.func7, Try.ntmps7
  go_wp2_with (first | (at_builtin; refine wl_append rfl _ _ _ _ rfl _ _ rfl rfl ?_) | (at_make; refine wl_make rfl _ _ _ rfl _ _ rfl rfl ?_) | (at_mapUpdate; refine wl_mapUpdate rfl _ _ _ _ rfl _ _ _ rfl rfl rfl ?_) | (at_lookup; refine wl_lookup rfl _ _ _ _ rfl _ _ rfl rfl ?_) | (at_delete; refine wl_delete rfl _ _ _ _ rfl _ _ rfl rfl ?_) | (with_reducible refine wl_len rfl _ _ rfl _ rfl ?_) | (with_reducible refine wl_range rfl _ _ rfl _ rfl ?_) | (with_reducible refine wl_next rfl _ rfl _ rfl ?_) | (with_reducible refine wl_copy rfl _ _ _ _ rfl _ _ rfl rfl ?_) | (with_reducible refine wl_max rfl _ _ _ _ rfl _ _ rfl rfl ?_) | (with_reducible refine wl_min rfl _ _ _ _ rfl _ _ rfl rfl ?_))
  refine (awake_any w).mono ?_
  rintro e w0 ⟨rfl, k0⟩
  go_wp2_with (first | (at_builtin; refine wl_append rfl _ _ _ _ rfl _ _ rfl rfl ?_) | (at_make; refine wl_make rfl _ _ _ rfl _ _ rfl rfl ?_) | (at_mapUpdate; refine wl_mapUpdate rfl _ _ _ _ rfl _ _ _ rfl rfl rfl ?_) | (at_lookup; refine wl_lookup rfl _ _ _ _ rfl _ _ rfl rfl ?_) | (at_delete; refine wl_delete rfl _ _ _ _ rfl _ _ rfl rfl ?_) | (with_reducible refine wl_len rfl _ _ rfl _ rfl ?_) | (with_reducible refine wl_range rfl _ _ rfl _ rfl ?_) | (with_reducible refine wl_next rfl _ rfl _ rfl ?_) | (with_reducible refine wl_copy rfl _ _ _ _ rfl _ _ rfl rfl ?_) | (with_reducible refine wl_max rfl _ _ _ _ rfl _ _ rfl rfl ?_) | (with_reducible refine wl_min rfl _ _ _ _ rfl _ _ rfl rfl ?_))
  refine (crash_nil _).mono ?_
  rintro e w1 ⟨rfl, k1⟩
  replace k1 := k0.trans' k1
  clear k0
  go_wp2_with (first | (at_builtin; refine wl_append rfl _ _ _ _ rfl _ _ rfl rfl ?_) | (at_make; refine wl_make rfl _ _ _ rfl _ _ rfl rfl ?_) | (at_mapUpdate; refine wl_mapUpdate rfl _ _ _ _ rfl _ _ _ rfl rfl rfl ?_) | (at_lookup; refine wl_lookup rfl _ _ _ _ rfl _ _ rfl rfl ?_) | (at_delete; refine wl_delete rfl _ _ _ _ rfl _ _ rfl rfl ?_) | (with_reducible refine wl_len rfl _ _ rfl _ rfl ?_) | (with_reducible refine wl_range rfl _ _ rfl _ rfl ?_) | (with_reducible refine wl_next rfl _ rfl _ rfl ?_) | (with_reducible refine wl_copy rfl _ _ _ _ rfl _ _ rfl rfl ?_) | (with_reducible refine wl_max rfl _ _ _ _ rfl _ _ rfl rfl ?_) | (with_reducible refine wl_min rfl _ _ _ _ rfl _ _ rfl rfl ?_))
  refine (cut_nil _ _).mono ?_
  rintro e w2 ⟨rfl, rfl⟩
  go_wp2_with (first | (at_builtin; refine wl_append rfl _ _ _ _ rfl _ _ rfl rfl ?_) | (at_make; refine wl_make rfl _ _ _ rfl _ _ rfl rfl ?_) | (at_mapUpdate; refine wl_mapUpdate rfl _ _ _ _ rfl _ _ _ rfl rfl rfl ?_) | (at_lookup; refine wl_lookup rfl _ _ _ _ rfl _ _ rfl rfl ?_) | (at_delete; refine wl_delete rfl _ _ _ _ rfl _ _ rfl rfl ?_) | (with_reducible refine wl_len rfl _ _ rfl _ rfl ?_) | (with_reducible refine wl_range rfl _ _ rfl _ rfl ?_) | (with_reducible refine wl_next rfl _ rfl _ rfl ?_) | (with_reducible refine wl_copy rfl _ _ _ _ rfl _ _ rfl rfl ?_) | (with_reducible refine wl_max rfl _ _ _ _ rfl _ _ rfl rfl ?_) | (with_reducible refine wl_min rfl _ _ _ _ rfl _ _ rfl rfl ?_))
  refine (read_nil _ _).mono ?_
  rintro e w2 ⟨rfl, rfl⟩
  go_wp2_with (first | (at_builtin; refine wl_append rfl _ _ _ _ rfl _ _ rfl rfl ?_) | (at_make; refine wl_make rfl _ _ _ rfl _ _ rfl rfl ?_) | (at_mapUpdate; refine wl_mapUpdate rfl _ _ _ _ rfl _ _ _ rfl rfl rfl ?_) | (at_lookup; refine wl_lookup rfl _ _ _ _ rfl _ _ rfl rfl ?_) | (at_delete; refine wl_delete rfl _ _ _ _ rfl _ _ rfl rfl ?_) | (with_reducible refine wl_len rfl _ _ rfl _ rfl ?_) | (with_reducible refine wl_range rfl _ _ rfl _ rfl ?_) | (with_reducible refine wl_next rfl _ rfl _ rfl ?_) | (with_reducible refine wl_copy rfl _ _ _ _ rfl _ _ rfl rfl ?_) | (with_reducible refine wl_max rfl _ _ _ _ rfl _ _ rfl rfl ?_) | (with_reducible refine wl_min rfl _ _ _ _ rfl _ _ rfl rfl ?_))
  refine (create_nil _ _).mono ?_
  rintro e w2 ⟨rfl, k2⟩
  replace k2 := k1.trans' k2
  clear k1
  go_wp2_with (first | (at_builtin; refine wl_append rfl _ _ _ _ rfl _ _ rfl rfl ?_) | (at_make; refine wl_make rfl _ _ _ rfl _ _ rfl rfl ?_) | (at_mapUpdate; refine wl_mapUpdate rfl _ _ _ _ rfl _ _ _ rfl rfl rfl ?_) | (at_lookup; refine wl_lookup rfl _ _ _ _ rfl _ _ rfl rfl ?_) | (at_delete; refine wl_delete rfl _ _ _ _ rfl _ _ rfl rfl ?_) | (with_reducible refine wl_len rfl _ _ rfl _ rfl ?_) | (with_reducible refine wl_range rfl _ _ rfl _ rfl ?_) | (with_reducible refine wl_next rfl _ rfl _ rfl ?_) | (with_reducible refine wl_copy rfl _ _ _ _ rfl _ _ rfl rfl ?_) | (with_reducible refine wl_max rfl _ _ _ _ rfl _ _ rfl rfl ?_) | (with_reducible refine wl_min rfl _ _ _ _ rfl _ _ rfl rfl ?_))
  refine (write_nil _ _ _).mono ?_
  rintro e w3 ⟨rfl, k3⟩
  replace k3 := k2.trans' k3
  clear k2
  go_wp2_with (first | (at_builtin; refine wl_append rfl _ _ _ _ rfl _ _ rfl rfl ?_) | (at_make; refine wl_make rfl _ _ _ rfl _ _ rfl rfl ?_) | (at_mapUpdate; refine wl_mapUpdate rfl _ _ _ _ rfl _ _ _ rfl rfl rfl ?_) | (at_lookup; refine wl_lookup rfl _ _ _ _ rfl _ _ rfl rfl ?_) | (at_delete; refine wl_delete rfl _ _ _ _ rfl _ _ rfl rfl ?_) | (with_reducible refine wl_len rfl _ _ rfl _ rfl ?_) | (with_reducible refine wl_range rfl _ _ rfl _ rfl ?_) | (with_reducible refine wl_next rfl _ rfl _ rfl ?_) | (with_reducible refine wl_copy rfl _ _ _ _ rfl _ _ rfl rfl ?_) | (with_reducible refine wl_max rfl _ _ _ _ rfl _ _ rfl rfl ?_) | (with_reducible refine wl_min rfl _ _ _ _ rfl _ _ rfl rfl ?_))
  refine (sync_nil _ _).mono ?_
  rintro e w4 ⟨rfl, k4⟩
  replace k4 := k3.trans' k4
  clear k3
  go_wp2_with (first | (at_builtin; refine wl_append rfl _ _ _ _ rfl _ _ rfl rfl ?_) | (at_make; refine wl_make rfl _ _ _ rfl _ _ rfl rfl ?_) | (at_mapUpdate; refine wl_mapUpdate rfl _ _ _ _ rfl _ _ _ rfl rfl rfl ?_) | (at_lookup; refine wl_lookup rfl _ _ _ _ rfl _ _ rfl rfl ?_) | (at_delete; refine wl_delete rfl _ _ _ _ rfl _ _ rfl rfl ?_) | (with_reducible refine wl_len rfl _ _ rfl _ rfl ?_) | (with_reducible refine wl_range rfl _ _ rfl _ rfl ?_) | (with_reducible refine wl_next rfl _ rfl _ rfl ?_) | (with_reducible refine wl_copy rfl _ _ _ _ rfl _ _ rfl rfl ?_) | (with_reducible refine wl_max rfl _ _ _ _ rfl _ _ rfl rfl ?_) | (with_reducible refine wl_min rfl _ _ _ _ rfl _ _ rfl rfl ?_))
  refine (rename_nil _ _ _).mono ?_
  rintro e w5 ⟨rfl, k5⟩
  replace k5 := k4.trans' k5
  clear k4
  go_wp2_with (first | (at_builtin; refine wl_append rfl _ _ _ _ rfl _ _ rfl rfl ?_) | (at_make; refine wl_make rfl _ _ _ rfl _ _ rfl rfl ?_) | (at_mapUpdate; refine wl_mapUpdate rfl _ _ _ _ rfl _ _ _ rfl rfl rfl ?_) | (at_lookup; refine wl_lookup rfl _ _ _ _ rfl _ _ rfl rfl ?_) | (at_delete; refine wl_delete rfl _ _ _ _ rfl _ _ rfl rfl ?_) | (with_reducible refine wl_len rfl _ _ rfl _ rfl ?_) | (with_reducible refine wl_range rfl _ _ rfl _ rfl ?_) | (with_reducible refine wl_next rfl _ rfl _ rfl ?_) | (with_reducible refine wl_copy rfl _ _ _ _ rfl _ _ rfl rfl ?_) | (with_reducible refine wl_max rfl _ _ _ _ rfl _ _ rfl rfl ?_) | (with_reducible refine wl_min rfl _ _ _ _ rfl _ _ rfl rfl ?_))
  refine (remove_nil _ _).mono ?_
  rintro e w6 ⟨rfl, k6⟩
  replace k6 := k5.trans' k6
  clear k5
  go_wp2_with (first | (at_builtin; refine wl_append rfl _ _ _ _ rfl _ _ rfl rfl ?_) | (at_make; refine wl_make rfl _ _ _ rfl _ _ rfl rfl ?_) | (at_mapUpdate; refine wl_mapUpdate rfl _ _ _ _ rfl _ _ _ rfl rfl rfl ?_) | (at_lookup; refine wl_lookup rfl _ _ _ _ rfl _ _ rfl rfl ?_) | (at_delete; refine wl_delete rfl _ _ _ _ rfl _ _ rfl rfl ?_) | (with_reducible refine wl_len rfl _ _ rfl _ rfl ?_) | (with_reducible refine wl_range rfl _ _ rfl _ rfl ?_) | (with_reducible refine wl_next rfl _ rfl _ rfl ?_) | (with_reducible refine wl_copy rfl _ _ _ _ rfl _ _ rfl rfl ?_) | (with_reducible refine wl_max rfl _ _ _ _ rfl _ _ rfl rfl ?_) | (with_reducible refine wl_min rfl _ _ _ _ rfl _ _ rfl rfl ?_))
  refine (syncnames_nil _).mono ?_
  rintro e w7 ⟨rfl, k7⟩
  replace k7 := k6.trans' k7
  clear k6
  go_wp2_with (first | (at_builtin; refine wl_append rfl _ _ _ _ rfl _ _ rfl rfl ?_) | (at_make; refine wl_make rfl _ _ _ rfl _ _ rfl rfl ?_) | (at_mapUpdate; refine wl_mapUpdate rfl _ _ _ _ rfl _ _ _ rfl rfl rfl ?_) | (at_lookup; refine wl_lookup rfl _ _ _ _ rfl _ _ rfl rfl ?_) | (at_delete; refine wl_delete rfl _ _ _ _ rfl _ _ rfl rfl ?_) | (with_reducible refine wl_len rfl _ _ rfl _ rfl ?_) | (with_reducible refine wl_range rfl _ _ rfl _ rfl ?_) | (with_reducible refine wl_next rfl _ rfl _ rfl ?_) | (with_reducible refine wl_copy rfl _ _ _ _ rfl _ _ rfl rfl ?_) | (with_reducible refine wl_max rfl _ _ _ _ rfl _ _ rfl rfl ?_) | (with_reducible refine wl_min rfl _ _ _ _ rfl _ _ rfl rfl ?_))
  refine (off_nil _).mono ?_
  rintro e w8 ⟨rfl, rfl⟩
  go_wp2_with (first | (at_builtin; refine wl_append rfl _ _ _ _ rfl _ _ rfl rfl ?_) | (at_make; refine wl_make rfl _ _ _ rfl _ _ rfl rfl ?_) | (at_mapUpdate; refine wl_mapUpdate rfl _ _ _ _ rfl _ _ _ rfl rfl rfl ?_) | (at_lookup; refine wl_lookup rfl _ _ _ _ rfl _ _ rfl rfl ?_) | (at_delete; refine wl_delete rfl _ _ _ _ rfl _ _ rfl rfl ?_) | (with_reducible refine wl_len rfl _ _ rfl _ rfl ?_) | (with_reducible refine wl_range rfl _ _ rfl _ rfl ?_) | (with_reducible refine wl_next rfl _ rfl _ rfl ?_) | (with_reducible refine wl_copy rfl _ _ _ _ rfl _ _ rfl rfl ?_) | (with_reducible refine wl_max rfl _ _ _ _ rfl _ _ rfl rfl ?_) | (with_reducible refine wl_min rfl _ _ _ _ rfl _ _ rfl rfl ?_))
  refine (used_nil _).mono ?_
  rintro e w8 ⟨rfl, rfl⟩
  go_wp2_with (first | (at_builtin; refine wl_append rfl _ _ _ _ rfl _ _ rfl rfl ?_) | (at_make; refine wl_make rfl _ _ _ rfl _ _ rfl rfl ?_) | (at_mapUpdate; refine wl_mapUpdate rfl _ _ _ _ rfl _ _ _ rfl rfl rfl ?_) | (at_lookup; refine wl_lookup rfl _ _ _ _ rfl _ _ rfl rfl ?_) | (at_delete; refine wl_delete rfl _ _ _ _ rfl _ _ rfl rfl ?_) | (with_reducible refine wl_len rfl _ _ rfl _ rfl ?_) | (with_reducible refine wl_range rfl _ _ rfl _ rfl ?_) | (with_reducible refine wl_next rfl _ rfl _ rfl ?_) | (with_reducible refine wl_copy rfl _ _ _ _ rfl _ _ rfl rfl ?_) | (with_reducible refine wl_max rfl _ _ _ _ rfl _ _ rfl rfl ?_) | (with_reducible refine wl_min rfl _ _ _ _ rfl _ _ rfl rfl ?_))
  refine (pending_nil _).mono ?_
  rintro e w8 ⟨rfl, rfl⟩
  go_wp2_with (first | (at_builtin; refine wl_append rfl _ _ _ _ rfl _ _ rfl rfl ?_) | (at_make; refine wl_make rfl _ _ _ rfl _ _ rfl rfl ?_) | (at_mapUpdate; refine wl_mapUpdate rfl _ _ _ _ rfl _ _ _ rfl rfl rfl ?_) | (at_lookup; refine wl_lookup rfl _ _ _ _ rfl _ _ rfl rfl ?_) | (at_delete; refine wl_delete rfl _ _ _ _ rfl _ _ rfl rfl ?_) | (with_reducible refine wl_len rfl _ _ rfl _ rfl ?_) | (with_reducible refine wl_range rfl _ _ rfl _ rfl ?_) | (with_reducible refine wl_next rfl _ rfl _ rfl ?_) | (with_reducible refine wl_copy rfl _ _ _ _ rfl _ _ rfl rfl ?_) | (with_reducible refine wl_max rfl _ _ _ _ rfl _ _ rfl rfl ?_) | (with_reducible refine wl_min rfl _ _ _ _ rfl _ _ rfl rfl ?_))
  refine (names_nil _).mono ?_
  rintro e w8 ⟨rfl, rfl⟩
  go_wp2_with (first | (at_builtin; refine wl_append rfl _ _ _ _ rfl _ _ rfl rfl ?_) | (at_make; refine wl_make rfl _ _ _ rfl _ _ rfl rfl ?_) | (at_mapUpdate; refine wl_mapUpdate rfl _ _ _ _ rfl _ _ _ rfl rfl rfl ?_) | (at_lookup; refine wl_lookup rfl _ _ _ _ rfl _ _ rfl rfl ?_) | (at_delete; refine wl_delete rfl _ _ _ _ rfl _ _ rfl rfl ?_) | (with_reducible refine wl_len rfl _ _ rfl _ rfl ?_) | (with_reducible refine wl_range rfl _ _ rfl _ rfl ?_) | (with_reducible refine wl_next rfl _ rfl _ rfl ?_) | (with_reducible refine wl_copy rfl _ _ _ _ rfl _ _ rfl rfl ?_) | (with_reducible refine wl_max rfl _ _ _ _ rfl _ _ rfl rfl ?_) | (with_reducible refine wl_min rfl _ _ _ _ rfl _ _ rfl rfl ?_))
  refine (new_own room w7 (fun k => w.heap.size ≤ k) (fun _ h => Nat.le_trans k7.size h)).mono ?_
  rintro e w8 ⟨d, rfl, h8, k8⟩
  have hk : Keep (fun k => w.heap.size ≤ k) w w8 := (k7.trans' k8).mono fun _ _ h => h.elim
  clear k7 k8
  have hm : RoomInv (Dk.new room) := RoomInv.new room
  have hs := Small.new room hroom
  have hrm : (Dk.new room).room = room.toNat := rfl
  generalize Dk.new room = m at *
  unfold ptrTo
  go_wp2_with (first | (at_builtin; refine wl_append rfl _ _ _ _ rfl _ _ rfl rfl ?_) | (at_make; refine wl_make rfl _ _ _ rfl _ _ rfl rfl ?_) | (at_mapUpdate; refine wl_mapUpdate rfl _ _ _ _ rfl _ _ _ rfl rfl rfl ?_) | (at_lookup; refine wl_lookup rfl _ _ _ _ rfl _ _ rfl rfl ?_) | (at_delete; refine wl_delete rfl _ _ _ _ rfl _ _ rfl rfl ?_) | (with_reducible refine wl_len rfl _ _ rfl _ rfl ?_) | (with_reducible refine wl_range rfl _ _ rfl _ rfl ?_) | (with_reducible refine wl_next rfl _ rfl _ rfl ?_) | (with_reducible refine wl_copy rfl _ _ _ _ rfl _ _ rfl rfl ?_) | (with_reducible refine wl_max rfl _ _ _ _ rfl _ _ rfl rfl ?_) | (with_reducible refine wl_min rfl _ _ _ _ rfl _ _ rfl rfl ?_))
  go_loopw [10] (fun iv wr => ∃ (i : Nat) (m : M), iv = .int .i64 i ∧ i ≤ 40 ∧ RoomInv m ∧ m.room = room.toNat ∧ Small m (2 * i) (600 * i) ∧ Own (fun j => w.heap.size ≤ j) wr d m ∧ Keep (fun j => w.heap.size ≤ j) w wr) (fun iv _ => 40 - (intOf iv).toNat)
  case atStart => exact ⟨0, m, rfl, by omega, hm, hrm, hs, h8, hk⟩
  case round =>
    clear hm hs h8 hk hrm
    obtain ⟨i, m, rfl, hi, hm, hrm, hs, hO, hK⟩ := hrel
    rcases Nat.lt_or_ge i l.length with hil | hil
    · rcases Nat.lt_or_ge i 40 with hi4 | hi4
      · obtain ⟨g, off, b1, b2, k1, k2, e1, hg1, hb3, hb4, hk3, hk4, hQ⟩ := act_at hl hil
        cases e1
        generalize l[i] = y at *
        obtain ⟨kd, ia, ib, at_, body, keep, _⟩ := y
        obtain ⟨q0, q1, q3, q4, q5, hvb, hvk⟩ := hQ _ hK
        have HQ := Lib.hid hQ
        clear hQ
        simp only at *
        have hlb : 300 < body.length ∨ body.length ≤ 300 := by omega
        rcases hlb with hlb | hlb
        · go_wp2_with (first | (at_builtin; refine wl_append rfl _ _ _ _ rfl _ _ rfl rfl ?_) | (at_make; refine wl_make rfl _ _ _ rfl _ _ rfl rfl ?_) | (at_mapUpdate; refine wl_mapUpdate rfl _ _ _ _ rfl _ _ _ rfl rfl rfl ?_) | (at_lookup; refine wl_lookup rfl _ _ _ _ rfl _ _ rfl rfl ?_) | (at_delete; refine wl_delete rfl _ _ _ _ rfl _ _ rfl rfl ?_) | (with_reducible refine wl_len rfl _ _ rfl _ rfl ?_) | (with_reducible refine wl_range rfl _ _ rfl _ rfl ?_) | (with_reducible refine wl_next rfl _ rfl _ rfl ?_) | (with_reducible refine wl_copy rfl _ _ _ _ rfl _ _ rfl rfl ?_) | (with_reducible refine wl_max rfl _ _ _ _ rfl _ _ rfl rfl ?_) | (with_reducible refine wl_min rfl _ _ _ _ rfl _ _ rfl rfl ?_))
          go_ret
          exact ⟨rfl, hK.os, hK.tape, hK.output, hK.size, fun j hj _ => hK.block j hj (by omega)⟩
        have hlk : 100 < keep.length ∨ keep.length ≤ 100 := by omega
        rcases hlk with hlk | hlk
        · go_wp2_with (first | (at_builtin; refine wl_append rfl _ _ _ _ rfl _ _ rfl rfl ?_) | (at_make; refine wl_make rfl _ _ _ rfl _ _ rfl rfl ?_) | (at_mapUpdate; refine wl_mapUpdate rfl _ _ _ _ rfl _ _ _ rfl rfl rfl ?_) | (at_lookup; refine wl_lookup rfl _ _ _ _ rfl _ _ rfl rfl ?_) | (at_delete; refine wl_delete rfl _ _ _ _ rfl _ _ rfl rfl ?_) | (with_reducible refine wl_len rfl _ _ rfl _ rfl ?_) | (with_reducible refine wl_range rfl _ _ rfl _ rfl ?_) | (with_reducible refine wl_next rfl _ rfl _ rfl ?_) | (with_reducible refine wl_copy rfl _ _ _ _ rfl _ _ rfl rfl ?_) | (with_reducible refine wl_max rfl _ _ _ _ rfl _ _ rfl rfl ?_) | (with_reducible refine wl_min rfl _ _ _ _ rfl _ _ rfl rfl ?_))
          go_ret
          exact ⟨rfl, hK.os, hK.tape, hK.output, hK.size, fun j hj _ => hK.block j hj (by omega)⟩
        go_wp2_with (first | (at_builtin; refine wl_append rfl _ _ _ _ rfl _ _ rfl rfl ?_) | (at_make; refine wl_make rfl _ _ _ rfl _ _ rfl rfl ?_) | (at_mapUpdate; refine wl_mapUpdate rfl _ _ _ _ rfl _ _ _ rfl rfl rfl ?_) | (at_lookup; refine wl_lookup rfl _ _ _ _ rfl _ _ rfl rfl ?_) | (at_delete; refine wl_delete rfl _ _ _ _ rfl _ _ rfl rfl ?_) | (with_reducible refine wl_len rfl _ _ rfl _ rfl ?_) | (with_reducible refine wl_range rfl _ _ rfl _ rfl ?_) | (with_reducible refine wl_next rfl _ rfl _ rfl ?_) | (with_reducible refine wl_copy rfl _ _ _ _ rfl _ _ rfl rfl ?_) | (with_reducible refine wl_max rfl _ _ _ _ rfl _ _ rfl rfl ?_) | (with_reducible refine wl_min rfl _ _ _ _ rfl _ _ rfl rfl ?_))
        have hown0 : wr.ownsRow wr.heap.size 5 1 (.slice none 0 0) 0 [] := World.ownsRow_nil _ _ _ _
        refine rg_append wr.heap.size 5 _ 1 1 Try.underlying29 info_u8 rfl (by decide) hown0 hvb (bv_one _) (by unfold maxLen; omega) (by omega) (Nat.le_refl _) ?_
        intro v' wa ho ka hz _
        rw [Nat.zero_add, List.nil_append] at ho
        replace ka : Keep No wr wa := ka.mono fun k _ h => by cases h
        obtain ⟨vb1, vb2, rfl, hvb3, hvb4⟩ := (Sl.of_own ho).shape
        have hPa : ∀ k, wa.heap.size ≤ k → (fun k => w.heap.size ≤ k ∧ some k ≠ (Value.slice vb1 body.length vb2).ownBlock) k := fun k hk => ⟨by have := ka.size; have := hK.size; omega, fun e => by have := (ho.lt k e.symm).2; omega⟩
        have hOa : Own (fun k => w.heap.size ≤ k ∧ some k ≠ (Value.slice vb1 body.length vb2).ownBlock) wa d m :=
          (DR.keep hO (fun k hk => hk.2) ka fun _ _ h => h).mono fun k hk hk2 => ⟨⟨hk2.1, fun e => by have := (ho.lt k e.symm).1; have := hk2.2; omega⟩, hk⟩
        have hKa := hK.trans' (ka.mono fun _ _ h => h.elim)
        clear hown0 hz ka hO q0 q1 q3 q4 q5 hvb hvk
        obtain ⟨q0, q1, q3, q4, q5, hvb, hvk⟩ := HQ.out _ hKa
        go_wp2_with (first | (at_builtin; refine wl_append rfl _ _ _ _ rfl _ _ rfl rfl ?_) | (at_make; refine wl_make rfl _ _ _ rfl _ _ rfl rfl ?_) | (at_mapUpdate; refine wl_mapUpdate rfl _ _ _ _ rfl _ _ _ rfl rfl rfl ?_) | (at_lookup; refine wl_lookup rfl _ _ _ _ rfl _ _ rfl rfl ?_) | (at_delete; refine wl_delete rfl _ _ _ _ rfl _ _ rfl rfl ?_) | (with_reducible refine wl_len rfl _ _ rfl _ rfl ?_) | (with_reducible refine wl_range rfl _ _ rfl _ rfl ?_) | (with_reducible refine wl_next rfl _ rfl _ rfl ?_) | (with_reducible refine wl_copy rfl _ _ _ _ rfl _ _ rfl rfl ?_) | (with_reducible refine wl_max rfl _ _ _ _ rfl _ _ rfl rfl ?_) | (with_reducible refine wl_min rfl _ _ _ _ rfl _ _ rfl rfl ?_))
        refine (nm_any ia _).mono ?_
        rintro e wb ⟨rfl, kb⟩
        have hPb := fun k hk => hPa k (Nat.le_trans kb.size hk)
        have hOb := hOa.keep kb fun _ _ h => h
        have hob : wb.ownsRow wr.heap.size 5 1 (.slice vb1 body.length vb2) body.length (body.map bv) := ownsRow_same ho fun g hg => kb.block g (ho.lt g hg).2 fun h => h
        have hKb := hKa.trans' (kb.mono fun _ _ h => h.elim)
        clear hOa ho kb q0 q1 q3 q4 q5 hvb hvk hPa
        obtain ⟨q0, q1, q3, q4, q5, hvb, hvk⟩ := HQ.out _ hKb
        go_wp2_with (first | (at_builtin; refine wl_append rfl _ _ _ _ rfl _ _ rfl rfl ?_) | (at_make; refine wl_make rfl _ _ _ rfl _ _ rfl rfl ?_) | (at_mapUpdate; refine wl_mapUpdate rfl _ _ _ _ rfl _ _ _ rfl rfl rfl ?_) | (at_lookup; refine wl_lookup rfl _ _ _ _ rfl _ _ rfl rfl ?_) | (at_delete; refine wl_delete rfl _ _ _ _ rfl _ _ rfl rfl ?_) | (with_reducible refine wl_len rfl _ _ rfl _ rfl ?_) | (with_reducible refine wl_range rfl _ _ rfl _ rfl ?_) | (with_reducible refine wl_next rfl _ rfl _ rfl ?_) | (with_reducible refine wl_copy rfl _ _ _ _ rfl _ _ rfl rfl ?_) | (with_reducible refine wl_max rfl _ _ _ _ rfl _ _ rfl rfl ?_) | (with_reducible refine wl_min rfl _ _ _ _ rfl _ _ rfl rfl ?_))
        have hnl := nm_len ia
        refine (create_own (nm ia) hOb hPb hs (by omega) (by omega) (by omega)).mono ?_
        rintro e wc ⟨rfl, hOc, kc⟩
        obtain ⟨hm1, hE1, hrm1⟩ := hm.create (nm ia)
        have hs1 := hs.call (b := 1) 1 (nm ia) [] 0 [] (by omega) (by simp) (by simp)
        generalize call m 1 (nm ia) [] 0 [] = c1 at *
        obtain ⟨m1, E1⟩ := c1
        simp only at *
        have hPc := fun k hk => hPb k (Nat.le_trans kc.size hk)
        have hoc : wc.ownsRow wr.heap.size 5 1 (.slice vb1 body.length vb2) body.length (body.map bv) := ownsRow_same hob fun g hg => kc.block g (hob.lt g hg).2 fun h => h.2 hg.symm
        have hKc := hKb.trans kc fun j _ h => h.1
        clear hOb hob hKb hPb kc q0 q1 q3 q4 q5 hvb hvk hm hs
        obtain ⟨q0, q1, q3, q4, q5, hvb, hvk⟩ := HQ.out _ hKc
        go_wp2_with (first | (at_builtin; refine wl_append rfl _ _ _ _ rfl _ _ rfl rfl ?_) | (at_make; refine wl_make rfl _ _ _ rfl _ _ rfl rfl ?_) | (at_mapUpdate; refine wl_mapUpdate rfl _ _ _ _ rfl _ _ _ rfl rfl rfl ?_) | (at_lookup; refine wl_lookup rfl _ _ _ _ rfl _ _ rfl rfl ?_) | (at_delete; refine wl_delete rfl _ _ _ _ rfl _ _ rfl rfl ?_) | (with_reducible refine wl_len rfl _ _ rfl _ rfl ?_) | (with_reducible refine wl_range rfl _ _ rfl _ rfl ?_) | (with_reducible refine wl_next rfl _ rfl _ rfl ?_) | (with_reducible refine wl_copy rfl _ _ _ _ rfl _ _ rfl rfl ?_) | (with_reducible refine wl_max rfl _ _ _ _ rfl _ _ rfl rfl ?_) | (with_reducible refine wl_min rfl _ _ _ _ rfl _ _ rfl rfl ?_))
        have hgc : g < wc.heap.size := Nat.lt_of_lt_of_le hg1 hKc.size
        refine wp_region_sig (fun w' => w'.cell? ⟨g, off + i * 6 + 1, none⟩ = some (.int .i64 ia) ∧ w'.cell? ⟨g, off + i * 6 + 3, none⟩ = some (.int .i64 at_)) (fun j => decide (j ≤ 99)) [(0, true), (1, true), (2, true), (3, true), (4, true), (5, true), (7, true), (8, true), (9, true), (10, true), (11, true), (12, true), (6, false), (13, false), (14, false)] (by kernel_rfl) (by kernel_rfl) (by intro c a d v w h; cases d <;> exact h) ⟨q1, q3⟩ ?_
        apply sig_still (o := ⟨some 128, _, _, _, _, _⟩) rfl rfl
        · intro w' hS
          obtain ⟨q1, q2⟩ := hS
          first | (go_simp; done) | (go_simp; rfl) | rfl
        go_frame
        apply sig_still (o := ⟨some 129, _, _, _, _, _⟩) rfl rfl
        · intro w' hS
          obtain ⟨q1, q2⟩ := hS
          first | (go_simp; done) | (go_simp; rfl) | rfl
        go_frame
        apply sig_still (o := ⟨some 130, _, _, _, _, _⟩) rfl rfl
        · intro w' hS
          obtain ⟨q1, q2⟩ := hS
          first | (go_simp; done) | (go_simp; rfl) | rfl
        go_frame
        apply sig_still (o := ⟨some 131, _, _, _, _, _⟩) rfl rfl
        · intro w' hS
          obtain ⟨q1, q2⟩ := hS
          first | (go_simp; done) | (go_simp; rfl) | rfl
        go_frame
        apply sig_still (o := ⟨some 132, _, _, _, _, _⟩) rfl rfl
        · intro w' hS
          obtain ⟨q1, q2⟩ := hS
          first | (go_simp; done) | (go_simp; rfl) | rfl
        go_frame
        apply sig_still (o := ⟨some 133, _, _, _, _, _⟩) rfl rfl
        · intro w' hS
          obtain ⟨q1, q2⟩ := hS
          first | (go_simp; done) | (go_simp; rfl) | rfl
        go_frame
        apply sig_still (o := ⟨some 135, _, _, _, _, _⟩) rfl rfl
        · intro w' hS
          obtain ⟨q1, q2⟩ := hS
          first | (go_simp; done) | (go_simp; rfl) | rfl
        go_frame
        apply sig_still (o := ⟨some 136, _, _, _, _, _⟩) rfl rfl
        · intro w' hS
          obtain ⟨q1, q2⟩ := hS
          first | (go_simp; done) | (go_simp; rfl) | rfl
        go_frame
        apply sig_still (o := ⟨some 137, _, _, _, _, _⟩) rfl rfl
        · intro w' hS
          obtain ⟨q1, q2⟩ := hS
          first | (go_simp; done) | (go_simp; rfl) | rfl
        go_frame
        apply sig_still (o := ⟨some 138, _, _, _, _, _⟩) rfl rfl
        · intro w' hS
          obtain ⟨q1, q2⟩ := hS
          first | (go_simp; done) | (go_simp; rfl) | rfl
        go_frame
        apply sig_still (o := ⟨some 139, _, _, _, _, _⟩) rfl rfl
        · intro w' hS
          obtain ⟨q1, q2⟩ := hS
          first | (go_simp; done) | (go_simp; rfl) | rfl
        go_frame
        apply sig_still (o := ⟨some 140, _, _, _, _, _⟩) rfl rfl
        · intro w' hS
          obtain ⟨q1, q2⟩ := hS
          first | (go_simp; done) | (go_simp; rfl) | rfl
        go_frame
        refine sig_eff (o := ⟨some 134, _, _, _, _, _⟩) rfl rfl (fun K hKe => ?_)
        go_wp2_with (first | (at_builtin; refine wl_append rfl _ _ _ _ rfl _ _ rfl rfl ?_) | (at_make; refine wl_make rfl _ _ _ rfl _ _ rfl rfl ?_) | (at_mapUpdate; refine wl_mapUpdate rfl _ _ _ _ rfl _ _ _ rfl rfl rfl ?_) | (at_lookup; refine wl_lookup rfl _ _ _ _ rfl _ _ rfl rfl ?_) | (at_delete; refine wl_delete rfl _ _ _ _ rfl _ _ rfl rfl ?_) | (with_reducible refine wl_len rfl _ _ rfl _ rfl ?_) | (with_reducible refine wl_range rfl _ _ rfl _ rfl ?_) | (with_reducible refine wl_next rfl _ rfl _ rfl ?_) | (with_reducible refine wl_copy rfl _ _ _ _ rfl _ _ rfl rfl ?_) | (with_reducible refine wl_max rfl _ _ _ _ rfl _ _ rfl rfl ?_) | (with_reducible refine wl_min rfl _ _ _ _ rfl _ _ rfl rfl ?_))
        refine (nm_any ia _).mono ?_
        rintro e we ⟨rfl, ke⟩
        replace ke : Keep No wc we := ⟨ke.os, ke.tape, ke.output, ke.size, ke.block⟩
        have q1' : we.cell? ⟨g, off + i * 6 + 1, none⟩ = _ := (ke.cell (p := ⟨g, off + i * 6 + 1, none⟩) hgc (fun h => h)).trans q1
        have q3' : we.cell? ⟨g, off + i * 6 + 3, none⟩ = _ := (ke.cell (p := ⟨g, off + i * 6 + 3, none⟩) hgc (fun h => h)).trans q3
        go_wp2_with (first | (at_builtin; refine wl_append rfl _ _ _ _ rfl _ _ rfl rfl ?_) | (at_make; refine wl_make rfl _ _ _ rfl _ _ rfl rfl ?_) | (at_mapUpdate; refine wl_mapUpdate rfl _ _ _ _ rfl _ _ _ rfl rfl rfl ?_) | (at_lookup; refine wl_lookup rfl _ _ _ _ rfl _ _ rfl rfl ?_) | (at_delete; refine wl_delete rfl _ _ _ _ rfl _ _ rfl rfl ?_) | (with_reducible refine wl_len rfl _ _ rfl _ rfl ?_) | (with_reducible refine wl_range rfl _ _ rfl _ rfl ?_) | (with_reducible refine wl_next rfl _ rfl _ rfl ?_) | (with_reducible refine wl_copy rfl _ _ _ _ rfl _ _ rfl rfl ?_) | (with_reducible refine wl_max rfl _ _ _ _ rfl _ _ rfl rfl ?_) | (with_reducible refine wl_min rfl _ _ _ _ rfl _ _ rfl rfl ?_))
        refine ⟨fun _ => ⟨q1', q3'⟩, ?_⟩
        refine sig_eff (o := ⟨some 141, _, _, _, _, _⟩) rfl rfl (fun K hKe => ?_)
        have hPe := fun k hk => hPc k (Nat.le_trans ke.size hk)
        have hOe := hOc.keep ke fun _ _ h => h
        have hoe : we.ownsRow wr.heap.size 5 1 (.slice vb1 body.length vb2) body.length (body.map bv) := ownsRow_same hoc fun g hg => ke.block g (hoc.lt g hg).2 fun h => h
        have hKe := hKc.trans' (ke.mono fun _ _ h => h.elim)
        clear hOc hoc ke q0 q1 q3 q4 q5 hvb hvk q1' q3'
        go_wp2_with (first | (at_builtin; refine wl_append rfl _ _ _ _ rfl _ _ rfl rfl ?_) | (at_make; refine wl_make rfl _ _ _ rfl _ _ rfl rfl ?_) | (at_mapUpdate; refine wl_mapUpdate rfl _ _ _ _ rfl _ _ _ rfl rfl rfl ?_) | (at_lookup; refine wl_lookup rfl _ _ _ _ rfl _ _ rfl rfl ?_) | (at_delete; refine wl_delete rfl _ _ _ _ rfl _ _ rfl rfl ?_) | (with_reducible refine wl_len rfl _ _ rfl _ rfl ?_) | (with_reducible refine wl_range rfl _ _ rfl _ rfl ?_) | (with_reducible refine wl_next rfl _ rfl _ rfl ?_) | (with_reducible refine wl_copy rfl _ _ _ _ rfl _ _ rfl rfl ?_) | (with_reducible refine wl_max rfl _ _ _ _ rfl _ _ rfl rfl ?_) | (with_reducible refine wl_min rfl _ _ _ _ rfl _ _ rfl rfl ?_))
        refine (write_own (P := fun k => w.heap.size ≤ k ∧ some k ≠ (Value.slice vb1 body.length vb2).ownBlock) (nm ia) body at_ hOe (fun k hk => hk) hPe hs1 (by omega) (by omega) (by omega) (by omega) (Sl.of_own hoe) (fun k hk ha => ha.1.2 hk.2)).mono ?_
        rintro e wf ⟨rfl, hOf, kf⟩
        obtain ⟨hm2, hrm2, hwr⟩ := hm1.write (nm ia) at_ body
        have hs2 := hs1.call (b := 300) 2 (nm ia) [] at_ body (by omega) (by simp) (by omega)
        generalize call m1 2 (nm ia) [] at_ body = c2 at *
        obtain ⟨m2, E2⟩ := c2
        simp only at *
        have hof : wf.ownsRow wr.heap.size 5 1 (.slice vb1 body.length vb2) body.length (body.map bv) := ownsRow_same hoe fun g hg => kf.block g (hoe.lt g hg).2 fun h => h.1.2 hg.symm
        have hKf := hKe.trans kf fun j _ h => h.1.1
        have HW := Lib.hid hwr
        clear hOe hoe hKe hPe kf hm1 hs1 hwr
        obtain ⟨q0, q1, q3, q4, q5, hvb, hvk⟩ := HQ.out _ hKf
        go_wp2_with (first | (at_builtin; refine wl_append rfl _ _ _ _ rfl _ _ rfl rfl ?_) | (at_make; refine wl_make rfl _ _ _ rfl _ _ rfl rfl ?_) | (at_mapUpdate; refine wl_mapUpdate rfl _ _ _ _ rfl _ _ _ rfl rfl rfl ?_) | (at_lookup; refine wl_lookup rfl _ _ _ _ rfl _ _ rfl rfl ?_) | (at_delete; refine wl_delete rfl _ _ _ _ rfl _ _ rfl rfl ?_) | (with_reducible refine wl_len rfl _ _ rfl _ rfl ?_) | (with_reducible refine wl_range rfl _ _ rfl _ rfl ?_) | (with_reducible refine wl_next rfl _ rfl _ rfl ?_) | (with_reducible refine wl_copy rfl _ _ _ _ rfl _ _ rfl rfl ?_) | (with_reducible refine wl_max rfl _ _ _ _ rfl _ _ rfl rfl ?_) | (with_reducible refine wl_min rfl _ _ _ _ rfl _ _ rfl rfl ?_))
        refine ⟨fun _ => ⟨q1, q3⟩, ?_⟩
        refine sig_eff (o := ⟨some 13, _, _, _, _, _⟩) rfl rfl (fun K hKe => ?_)
        go_wp2_with (first | (at_builtin; refine wl_append rfl _ _ _ _ rfl _ _ rfl rfl ?_) | (at_make; refine wl_make rfl _ _ _ rfl _ _ rfl rfl ?_) | (at_mapUpdate; refine wl_mapUpdate rfl _ _ _ _ rfl _ _ _ rfl rfl rfl ?_) | (at_lookup; refine wl_lookup rfl _ _ _ _ rfl _ _ rfl rfl ?_) | (at_delete; refine wl_delete rfl _ _ _ _ rfl _ _ rfl rfl ?_) | (with_reducible refine wl_len rfl _ _ rfl _ rfl ?_) | (with_reducible refine wl_range rfl _ _ rfl _ rfl ?_) | (with_reducible refine wl_next rfl _ rfl _ rfl ?_) | (with_reducible refine wl_copy rfl _ _ _ _ rfl _ _ rfl rfl ?_) | (with_reducible refine wl_max rfl _ _ _ _ rfl _ _ rfl rfl ?_) | (with_reducible refine wl_min rfl _ _ _ _ rfl _ _ rfl rfl ?_))
        refine ⟨fun _ => ⟨q1, q3⟩, sig_nil ?_⟩
        go_wp2_with (first | (at_builtin; refine wl_append rfl _ _ _ _ rfl _ _ rfl rfl ?_) | (at_make; refine wl_make rfl _ _ _ rfl _ _ rfl rfl ?_) | (at_mapUpdate; refine wl_mapUpdate rfl _ _ _ _ rfl _ _ _ rfl rfl rfl ?_) | (at_lookup; refine wl_lookup rfl _ _ _ _ rfl _ _ rfl rfl ?_) | (at_delete; refine wl_delete rfl _ _ _ _ rfl _ _ rfl rfl ?_) | (with_reducible refine wl_len rfl _ _ rfl _ rfl ?_) | (with_reducible refine wl_range rfl _ _ rfl _ rfl ?_) | (with_reducible refine wl_next rfl _ rfl _ rfl ?_) | (with_reducible refine wl_copy rfl _ _ _ _ rfl _ _ rfl rfl ?_) | (with_reducible refine wl_max rfl _ _ _ _ rfl _ _ rfl rfl ?_) | (with_reducible refine wl_min rfl _ _ _ _ rfl _ _ rfl rfl ?_))
        clear q0 q1 q3 q4 q5 hvb hvk
        have hKB := hK.size
        generalize wr.heap.size = B at *
        clear hK
        go_loopw [14] (fun kv wx => ∃ (k : Nat) (lb : List UInt8), kv = .int .i64 k ∧ k ≤ body.length ∧ lb.length = body.length ∧ wx.ownsRow B 5 1 (.slice vb1 body.length vb2) body.length (lb.map bv) ∧ Keep (fun j => some j = (Value.slice vb1 body.length vb2).ownBlock) wf wx) (fun kv _ => body.length - (intOf kv).toNat)
        case atStart => exact ⟨0, body, rfl, Nat.zero_le _, rfl, hof, Keep.refl _ _⟩
        case round =>
          obtain ⟨k, lb, rfl, hk, hlbb, hob, hkb⟩ := hrel
          rcases Nat.lt_or_ge k body.length with hkl | hkl
          · obtain ⟨bg, rfl⟩ : ∃ bg, vb1 = some ⟨bg, 0, none⟩ := by
              rcases hob.2 with ⟨_, h⟩ | ⟨g', _, _, h, _⟩
              · omega
              · cases h; exact ⟨_, rfl⟩
            have c1 := hob.cellAt k (by omega)
            have f1 := hob.frozenAt k
            rw [List.getElem?_map, List.getElem?_eq_getElem (by omega), Option.map_some] at c1
            generalize lb[k]'(by omega) = bb at c1
            unfold bv at c1
            go_wp2_with (first | (at_builtin; refine wl_append rfl _ _ _ _ rfl _ _ rfl rfl ?_) | (at_make; refine wl_make rfl _ _ _ rfl _ _ rfl rfl ?_) | (at_mapUpdate; refine wl_mapUpdate rfl _ _ _ _ rfl _ _ _ rfl rfl rfl ?_) | (at_lookup; refine wl_lookup rfl _ _ _ _ rfl _ _ rfl rfl ?_) | (at_delete; refine wl_delete rfl _ _ _ _ rfl _ _ rfl rfl ?_) | (with_reducible refine wl_len rfl _ _ rfl _ rfl ?_) | (with_reducible refine wl_range rfl _ _ rfl _ rfl ?_) | (with_reducible refine wl_next rfl _ rfl _ rfl ?_) | (with_reducible refine wl_copy rfl _ _ _ _ rfl _ _ rfl rfl ?_) | (with_reducible refine wl_max rfl _ _ _ _ rfl _ _ rfl rfl ?_) | (with_reducible refine wl_min rfl _ _ _ _ rfl _ _ rfl rfl ?_))
            obtain ⟨b', hb'⟩ := wf_byte ((BitVec.ofInt 8 (bb.toNat : Int) ^^^ BitVec.ofInt 8 255).toNat : Int)
            have hst := hob.stored k (bv b')
            rw [← List.map_set] at hst
            go_roundw
            case rel => exact ⟨k + 1, lb.set k b', by go_num, by omega, by simpa using hlbb, by have := hst.1; rw [← hb'] at this; exact this, hkb.setCell (p := ⟨bg, k, none⟩) (fun _ => rfl) _⟩
            case measure => simp [intOf]; omega
          · have hOg := hOf.keep hkb fun j hj h => hj.2 h
            have hKg := hKf.trans hkb fun j hj h => by have := (hof.lt j h.symm).1; omega
            have hPg : ∀ k, wr.heap.size ≤ k → (fun k => w.heap.size ≤ k ∧ some k ≠ (Value.slice vb1 body.length vb2).ownBlock) k := fun k hk => ⟨Nat.le_trans hKg.size hk, fun e => by have := (hob.lt k e.symm).2; omega⟩
            obtain ⟨q0, q1, q3, q4, q5, hvb, hvk⟩ := HQ.out _ hKg
            have er : bits .and .i64 kd 3 = (mask kd 3 : Int) := mask_eq kd 3 (by omega)
            have b8 : ((E1 : Int) == 23) = false := by simp; omega
            have hrm2' : m2.room = room.toNat := by omega
            generalize mask kd 3 = r at er
            clear hOf hof hkb hKf hob hrm hrm1 hrm2
            rcases Nat.eq_zero_or_pos r with h0 | h0
            · subst h0
              go_wp2_with (first | (at_builtin; refine wl_append rfl _ _ _ _ rfl _ _ rfl rfl ?_) | (at_make; refine wl_make rfl _ _ _ rfl _ _ rfl rfl ?_) | (at_mapUpdate; refine wl_mapUpdate rfl _ _ _ _ rfl _ _ _ rfl rfl rfl ?_) | (at_lookup; refine wl_lookup rfl _ _ _ _ rfl _ _ rfl rfl ?_) | (at_delete; refine wl_delete rfl _ _ _ _ rfl _ _ rfl rfl ?_) | (with_reducible refine wl_len rfl _ _ rfl _ rfl ?_) | (with_reducible refine wl_range rfl _ _ rfl _ rfl ?_) | (with_reducible refine wl_next rfl _ rfl _ rfl ?_) | (with_reducible refine wl_copy rfl _ _ _ _ rfl _ _ rfl rfl ?_) | (with_reducible refine wl_max rfl _ _ _ _ rfl _ _ rfl rfl ?_) | (with_reducible refine wl_min rfl _ _ _ _ rfl _ _ rfl rfl ?_))
              refine (crash_own (P := fun k => w.heap.size ≤ k ∧ some k ≠ (Value.slice vb1 body.length vb2).ownBlock) keep hOg (fun k hk => hk) hPg hs2 (by omega) (by omega) hvk (fun k hk ha => by have := ha.1.1; omega)).mono ?_
              rintro e wh ⟨rfl, hOh, kh⟩
              have hs3 := hs2.crash keep
              obtain ⟨hm3, hrm3⟩ := hm2.crash keep
              rw [hrm2'] at hrm3
              generalize Dk.crash m2 keep = m3 at *
              have hKh := hKg.trans kh fun j _ h => h.1.1
              clear q0 q1 q3 q4 q5 hvb hvk hOg kh hm2 hs2 hKg hPg hrm2'
              obtain ⟨q0, q1, q3, q4, q5, hvb, hvk⟩ := HQ.out _ hKh
              rcases Nat.eq_zero_or_pos E2 with h0 | h0
              · subst h0
                go_wp2_with (first | (at_builtin; refine wl_append rfl _ _ _ _ rfl _ _ rfl rfl ?_) | (at_make; refine wl_make rfl _ _ _ rfl _ _ rfl rfl ?_) | (at_mapUpdate; refine wl_mapUpdate rfl _ _ _ _ rfl _ _ _ rfl rfl rfl ?_) | (at_lookup; refine wl_lookup rfl _ _ _ _ rfl _ _ rfl rfl ?_) | (at_delete; refine wl_delete rfl _ _ _ _ rfl _ _ rfl rfl ?_) | (with_reducible refine wl_len rfl _ _ rfl _ rfl ?_) | (with_reducible refine wl_range rfl _ _ rfl _ rfl ?_) | (with_reducible refine wl_next rfl _ rfl _ rfl ?_) | (with_reducible refine wl_copy rfl _ _ _ _ rfl _ _ rfl rfl ?_) | (with_reducible refine wl_max rfl _ _ _ _ rfl _ _ rfl rfl ?_) | (with_reducible refine wl_min rfl _ _ _ _ rfl _ _ rfl rfl ?_))
                refine (used_own hOh hs3 (by omega) (by omega)).mono ?_
                rintro e wu ⟨rfl, ku⟩
                have hOu := hOh.keep ku fun _ _ h => h
                have hKu := hKh.trans' (ku.mono fun _ _ h => h.elim)
                have hus := hm3.us
                rw [hrm3] at hus
                have b9 : decide (max room 0 < (used m3 : Int)) = false := by simp; omega
                have b10 : decide ((used m3 : Int) > max room 0) = false := by simp; omega
                go_wp2_with (first | (at_builtin; refine wl_append rfl _ _ _ _ rfl _ _ rfl rfl ?_) | (at_make; refine wl_make rfl _ _ _ rfl _ _ rfl rfl ?_) | (at_mapUpdate; refine wl_mapUpdate rfl _ _ _ _ rfl _ _ _ rfl rfl rfl ?_) | (at_lookup; refine wl_lookup rfl _ _ _ _ rfl _ _ rfl rfl ?_) | (at_delete; refine wl_delete rfl _ _ _ _ rfl _ _ rfl rfl ?_) | (with_reducible refine wl_len rfl _ _ rfl _ rfl ?_) | (with_reducible refine wl_range rfl _ _ rfl _ rfl ?_) | (with_reducible refine wl_next rfl _ rfl _ rfl ?_) | (with_reducible refine wl_copy rfl _ _ _ _ rfl _ _ rfl rfl ?_) | (with_reducible refine wl_max rfl _ _ _ _ rfl _ _ rfl rfl ?_) | (with_reducible refine wl_min rfl _ _ _ _ rfl _ _ rfl rfl ?_))
                refine rg_max2 ?_
                go_wp2_with (first | (at_builtin; refine wl_append rfl _ _ _ _ rfl _ _ rfl rfl ?_) | (at_make; refine wl_make rfl _ _ _ rfl _ _ rfl rfl ?_) | (at_mapUpdate; refine wl_mapUpdate rfl _ _ _ _ rfl _ _ _ rfl rfl rfl ?_) | (at_lookup; refine wl_lookup rfl _ _ _ _ rfl _ _ rfl rfl ?_) | (at_delete; refine wl_delete rfl _ _ _ _ rfl _ _ rfl rfl ?_) | (with_reducible refine wl_len rfl _ _ rfl _ rfl ?_) | (with_reducible refine wl_range rfl _ _ rfl _ rfl ?_) | (with_reducible refine wl_next rfl _ rfl _ rfl ?_) | (with_reducible refine wl_copy rfl _ _ _ _ rfl _ _ rfl rfl ?_) | (with_reducible refine wl_max rfl _ _ _ _ rfl _ _ rfl rfl ?_) | (with_reducible refine wl_min rfl _ _ _ _ rfl _ _ rfl rfl ?_))
                go_roundw
                case rel => exact ⟨i + 1, m3, by simp, by omega, hm3, hrm3, hs3.mono (by omega) (by omega), hOu.mono fun k hk ha => ⟨ha.1.1, ha.2⟩, hKu⟩
                case measure => simp [intOf]; omega
              · have b7 : ((E2 : Int) == 0) = false := by simp; omega
                go_wp2_with (first | (at_builtin; refine wl_append rfl _ _ _ _ rfl _ _ rfl rfl ?_) | (at_make; refine wl_make rfl _ _ _ rfl _ _ rfl rfl ?_) | (at_mapUpdate; refine wl_mapUpdate rfl _ _ _ _ rfl _ _ _ rfl rfl rfl ?_) | (at_lookup; refine wl_lookup rfl _ _ _ _ rfl _ _ rfl rfl ?_) | (at_delete; refine wl_delete rfl _ _ _ _ rfl _ _ rfl rfl ?_) | (with_reducible refine wl_len rfl _ _ rfl _ rfl ?_) | (with_reducible refine wl_range rfl _ _ rfl _ rfl ?_) | (with_reducible refine wl_next rfl _ rfl _ rfl ?_) | (with_reducible refine wl_copy rfl _ _ _ _ rfl _ _ rfl rfl ?_) | (with_reducible refine wl_max rfl _ _ _ _ rfl _ _ rfl rfl ?_) | (with_reducible refine wl_min rfl _ _ _ _ rfl _ _ rfl rfl ?_))
                refine (used_own hOh hs3 (by omega) (by omega)).mono ?_
                rintro e wu ⟨rfl, ku⟩
                have hOu := hOh.keep ku fun _ _ h => h
                have hKu := hKh.trans' (ku.mono fun _ _ h => h.elim)
                have hus := hm3.us
                rw [hrm3] at hus
                have b9 : decide (max room 0 < (used m3 : Int)) = false := by simp; omega
                have b10 : decide ((used m3 : Int) > max room 0) = false := by simp; omega
                go_wp2_with (first | (at_builtin; refine wl_append rfl _ _ _ _ rfl _ _ rfl rfl ?_) | (at_make; refine wl_make rfl _ _ _ rfl _ _ rfl rfl ?_) | (at_mapUpdate; refine wl_mapUpdate rfl _ _ _ _ rfl _ _ _ rfl rfl rfl ?_) | (at_lookup; refine wl_lookup rfl _ _ _ _ rfl _ _ rfl rfl ?_) | (at_delete; refine wl_delete rfl _ _ _ _ rfl _ _ rfl rfl ?_) | (with_reducible refine wl_len rfl _ _ rfl _ rfl ?_) | (with_reducible refine wl_range rfl _ _ rfl _ rfl ?_) | (with_reducible refine wl_next rfl _ rfl _ rfl ?_) | (with_reducible refine wl_copy rfl _ _ _ _ rfl _ _ rfl rfl ?_) | (with_reducible refine wl_max rfl _ _ _ _ rfl _ _ rfl rfl ?_) | (with_reducible refine wl_min rfl _ _ _ _ rfl _ _ rfl rfl ?_))
                refine rg_max2 ?_
                go_wp2_with (first | (at_builtin; refine wl_append rfl _ _ _ _ rfl _ _ rfl rfl ?_) | (at_make; refine wl_make rfl _ _ _ rfl _ _ rfl rfl ?_) | (at_mapUpdate; refine wl_mapUpdate rfl _ _ _ _ rfl _ _ _ rfl rfl rfl ?_) | (at_lookup; refine wl_lookup rfl _ _ _ _ rfl _ _ rfl rfl ?_) | (at_delete; refine wl_delete rfl _ _ _ _ rfl _ _ rfl rfl ?_) | (with_reducible refine wl_len rfl _ _ rfl _ rfl ?_) | (with_reducible refine wl_range rfl _ _ rfl _ rfl ?_) | (with_reducible refine wl_next rfl _ rfl _ rfl ?_) | (with_reducible refine wl_copy rfl _ _ _ _ rfl _ _ rfl rfl ?_) | (with_reducible refine wl_max rfl _ _ _ _ rfl _ _ rfl rfl ?_) | (with_reducible refine wl_min rfl _ _ _ _ rfl _ _ rfl rfl ?_))
                go_roundw
                case rel => exact ⟨i + 1, m3, by simp, by omega, hm3, hrm3, hs3.mono (by omega) (by omega), hOu.mono fun k hk ha => ⟨ha.1.1, ha.2⟩, hKu⟩
                case measure => simp [intOf]; omega
            · have b5 : ((r : Int) == 0) = false := by simp; omega
              have b6 : ((r : Int) != 0) = true := by simp; omega
              rcases Nat.eq_zero_or_pos E2 with h0 | h0
              · subst h0
                obtain ⟨hat, old, ho1, ho2, ho3⟩ := HW.out rfl
                obtain ⟨a0, rfl⟩ : ∃ n : Nat, at_ = (n : Int) := ⟨Int.toNat at_, (Int.toNat_of_nonneg hat).symm⟩
                rw [Int.toNat_natCast] at ho1 ho2
                obtain ⟨hx1, hx2⟩ := laid_read old body a0 ho1
                generalize laidB old a0 body = X at *
                have H2 := Lib.hid ho2
                have H3 := Lib.hid ho3
                have HX := Lib.hid hx2
                clear ho2 ho3 hx2
                go_wp2_with (first | (at_builtin; refine wl_append rfl _ _ _ _ rfl _ _ rfl rfl ?_) | (at_make; refine wl_make rfl _ _ _ rfl _ _ rfl rfl ?_) | (at_mapUpdate; refine wl_mapUpdate rfl _ _ _ _ rfl _ _ _ rfl rfl rfl ?_) | (at_lookup; refine wl_lookup rfl _ _ _ _ rfl _ _ rfl rfl ?_) | (at_delete; refine wl_delete rfl _ _ _ _ rfl _ _ rfl rfl ?_) | (with_reducible refine wl_len rfl _ _ rfl _ rfl ?_) | (with_reducible refine wl_range rfl _ _ rfl _ rfl ?_) | (with_reducible refine wl_next rfl _ rfl _ rfl ?_) | (with_reducible refine wl_copy rfl _ _ _ _ rfl _ _ rfl rfl ?_) | (with_reducible refine wl_max rfl _ _ _ _ rfl _ _ rfl rfl ?_) | (with_reducible refine wl_min rfl _ _ _ _ rfl _ _ rfl rfl ?_))
                refine (nm_any ia _).mono ?_
                rintro e wh ⟨rfl, kh⟩
                have hPh : ∀ k, wh.heap.size ≤ k → (fun k => w.heap.size ≤ k ∧ some k ≠ (Value.slice vb1 body.length vb2).ownBlock) k := fun k hk => hPg k (Nat.le_trans kh.size hk)
                have hOh := hOg.keep kh fun _ _ h => h
                have hKh := hKg.trans' (kh.mono fun _ _ h => h.elim)
                clear hOg hKg hPg kh q0 q1 q3 q4 q5 hvb hvk HW
                go_wp2_with (first | (at_builtin; refine wl_append rfl _ _ _ _ rfl _ _ rfl rfl ?_) | (at_make; refine wl_make rfl _ _ _ rfl _ _ rfl rfl ?_) | (at_mapUpdate; refine wl_mapUpdate rfl _ _ _ _ rfl _ _ _ rfl rfl rfl ?_) | (at_lookup; refine wl_lookup rfl _ _ _ _ rfl _ _ rfl rfl ?_) | (at_delete; refine wl_delete rfl _ _ _ _ rfl _ _ rfl rfl ?_) | (with_reducible refine wl_len rfl _ _ rfl _ rfl ?_) | (with_reducible refine wl_range rfl _ _ rfl _ rfl ?_) | (with_reducible refine wl_next rfl _ rfl _ rfl ?_) | (with_reducible refine wl_copy rfl _ _ _ _ rfl _ _ rfl rfl ?_) | (with_reducible refine wl_max rfl _ _ _ _ rfl _ _ rfl rfl ?_) | (with_reducible refine wl_min rfl _ _ _ _ rfl _ _ rfl rfl ?_))
                refine (read_own (nm ia) hOh hs2 (by omega) (by omega)).mono ?_
                rintro e wi ⟨v', rfl, hx, ki⟩
                rw [H2.out] at hx
                rw [H3.out]
                obtain ⟨av, cv, rfl, hcv1, hcv2⟩ := (Sl.of_own hx).shape
                have hOi : Own (fun k => w.heap.size ≤ k ∧ some k ≠ (Value.slice av X.length cv).ownBlock) wi d m2 :=
                  (DR.keep hOh (fun k hk => hk.2) ki fun _ _ h => h).mono fun k hk hk2 => ⟨⟨hk2.1.1, fun e => by have := (hx.lt k e.symm).1; have := hk2.2; omega⟩, hk⟩
                have hKi := hKh.trans' (ki.mono fun _ _ h => h.elim)
                have hwi := Nat.le_trans hKh.size (Nat.le_refl _)
                clear hOh hKh hPh ki
                obtain ⟨q0, q1, q3, q4, q5, hvb, hvk⟩ := HQ.out _ hKi
                go_wp2_with (first | (at_builtin; refine wl_append rfl _ _ _ _ rfl _ _ rfl rfl ?_) | (at_make; refine wl_make rfl _ _ _ rfl _ _ rfl rfl ?_) | (at_mapUpdate; refine wl_mapUpdate rfl _ _ _ _ rfl _ _ _ rfl rfl rfl ?_) | (at_lookup; refine wl_lookup rfl _ _ _ _ rfl _ _ rfl rfl ?_) | (at_delete; refine wl_delete rfl _ _ _ _ rfl _ _ rfl rfl ?_) | (with_reducible refine wl_len rfl _ _ rfl _ rfl ?_) | (with_reducible refine wl_range rfl _ _ rfl _ rfl ?_) | (with_reducible refine wl_next rfl _ rfl _ rfl ?_) | (with_reducible refine wl_copy rfl _ _ _ _ rfl _ _ rfl rfl ?_) | (with_reducible refine wl_max rfl _ _ _ _ rfl _ _ rfl rfl ?_) | (with_reducible refine wl_min rfl _ _ _ _ rfl _ _ rfl rfl ?_))
                have hx9 : X.length ≤ 9223372036854775807 := by unfold maxLen at hcv2; omega
                have s1 : decide ((X.length : Int) < (a0 : Int) + (body.length : Int)) = false := by simp; omega
                have s2 : IntKind.i64.wrap ((a0 : Int) + (body.length : Int)) = (a0 : Int) + (body.length : Int) := IntWalk.i64_in _ (by omega)
                obtain ⟨a', cap', hsl, hsb⟩ := Bts.sub (P := Try.prog) (lo := a0) (hi := a0 + body.length) 29 Try.underlying29 (fun W => by kernel_rfl) (Sl.of_own hx) (by omega) hx1
                rw [Nat.add_sub_cancel_left, HX.out] at hsb
                rw [Nat.add_sub_cancel_left, Int.natCast_add] at hsl
                have hc1 : ∀ n, (convert 29 9 (.slice a' body.length cap')).run Try.prog (wi.drewN n) = .ok (.string ⟨body.toArray⟩) (wi.drewN n) := fun n => conv_str (w := wi.drewN n) hsb
                have hc2 : ∀ n, (convert 29 9 (.slice b1 body.length b2)).run Try.prog (wi.drewN n) = .ok (.string ⟨body.toArray⟩) (wi.drewN n) := fun n => conv_str (w := wi.drewN n) hvb
                go_quiet (fail)
                go_wp2_with (first | (at_builtin; refine wl_append rfl _ _ _ _ rfl _ _ rfl rfl ?_) | (at_make; refine wl_make rfl _ _ _ rfl _ _ rfl rfl ?_) | (at_mapUpdate; refine wl_mapUpdate rfl _ _ _ _ rfl _ _ _ rfl rfl rfl ?_) | (at_lookup; refine wl_lookup rfl _ _ _ _ rfl _ _ rfl rfl ?_) | (at_delete; refine wl_delete rfl _ _ _ _ rfl _ _ rfl rfl ?_) | (with_reducible refine wl_len rfl _ _ rfl _ rfl ?_) | (with_reducible refine wl_range rfl _ _ rfl _ rfl ?_) | (with_reducible refine wl_next rfl _ rfl _ rfl ?_) | (with_reducible refine wl_copy rfl _ _ _ _ rfl _ _ rfl rfl ?_) | (with_reducible refine wl_max rfl _ _ _ _ rfl _ _ rfl rfl ?_) | (with_reducible refine wl_min rfl _ _ _ _ rfl _ _ rfl rfl ?_))
                have hOj : Own (fun k => w.heap.size ≤ k ∧ some k ≠ (Value.slice av X.length cv).ownBlock) (wi.drewN nq) d m2 := hOi.keep ((Keep.refl No wi).drewN nq) fun _ _ h => h
                have hKj : Keep (fun j => w.heap.size ≤ j) w (wi.drewN nq) := hKi.drewN nq
                have hxj : (wi.drewN nq).ownsRow wh.heap.size 5 1 (.slice av X.length cv) X.length (X.map bv) := hx
                clear q0 q1 q3 q4 q5 hvb hvk hOi hKi hx s1 s2 hsl hsb hc1 hc2
                generalize wi.drewN nq = wj at *
                generalize wh.heap.size = B2 at *
                go_loopw [18] (fun kv wx => ∃ (k : Nat) (lb : List UInt8), kv = .int .i64 k ∧ k ≤ X.length ∧ lb.length = X.length ∧ wx.ownsRow B2 5 1 (.slice av X.length cv) X.length (lb.map bv) ∧ Keep (fun j => some j = (Value.slice av X.length cv).ownBlock) wj wx) (fun kv _ => X.length - (intOf kv).toNat)
                case atStart => exact ⟨0, X, rfl, Nat.zero_le _, rfl, hxj, Keep.refl _ _⟩
                case round =>
                  obtain ⟨k, lb, rfl, hk, hlbb, hob, hkb⟩ := hrel
                  rcases Nat.lt_or_ge k X.length with hkl | hkl
                  · obtain ⟨bg, rfl⟩ : ∃ bg, av = some ⟨bg, 0, none⟩ := by
                      rcases hob.2 with ⟨_, h⟩ | ⟨g', _, _, h, _⟩
                      · omega
                      · cases h; exact ⟨_, rfl⟩
                    have c1 := hob.cellAt k (by omega)
                    have f1 := hob.frozenAt k
                    rw [List.getElem?_map, List.getElem?_eq_getElem (by omega), Option.map_some] at c1
                    generalize lb[k]'(by omega) = bb at c1
                    unfold bv at c1
                    go_wp2_with (first | (at_builtin; refine wl_append rfl _ _ _ _ rfl _ _ rfl rfl ?_) | (at_make; refine wl_make rfl _ _ _ rfl _ _ rfl rfl ?_) | (at_mapUpdate; refine wl_mapUpdate rfl _ _ _ _ rfl _ _ _ rfl rfl rfl ?_) | (at_lookup; refine wl_lookup rfl _ _ _ _ rfl _ _ rfl rfl ?_) | (at_delete; refine wl_delete rfl _ _ _ _ rfl _ _ rfl rfl ?_) | (with_reducible refine wl_len rfl _ _ rfl _ rfl ?_) | (with_reducible refine wl_range rfl _ _ rfl _ rfl ?_) | (with_reducible refine wl_next rfl _ rfl _ rfl ?_) | (with_reducible refine wl_copy rfl _ _ _ _ rfl _ _ rfl rfl ?_) | (with_reducible refine wl_max rfl _ _ _ _ rfl _ _ rfl rfl ?_) | (with_reducible refine wl_min rfl _ _ _ _ rfl _ _ rfl rfl ?_))
                    obtain ⟨b', hb'⟩ := wf_byte ((BitVec.ofInt 8 (bb.toNat : Int) ^^^ BitVec.ofInt 8 255).toNat : Int)
                    have hst := hob.stored k (bv b')
                    rw [← List.map_set] at hst
                    go_roundw
                    case rel => exact ⟨k + 1, lb.set k b', by go_num, by omega, by simpa using hlbb, by have := hst.1; rw [← hb'] at this; exact this, hkb.setCell (p := ⟨bg, k, none⟩) (fun _ => rfl) _⟩
                    case measure => simp [intOf]; omega
                  · have hOk := hOj.keep hkb fun j hj h => hj.2 h
                    have hKk := hKj.trans hkb fun j hj h => by have := (hxj.lt j h.symm).1; omega
                    clear hOj hKj hkb hob
                    obtain ⟨q0, q1, q3, q4, q5, hvb, hvk⟩ := HQ.out _ hKk
                    go_wp2_with (first | (at_builtin; refine wl_append rfl _ _ _ _ rfl _ _ rfl rfl ?_) | (at_make; refine wl_make rfl _ _ _ rfl _ _ rfl rfl ?_) | (at_mapUpdate; refine wl_mapUpdate rfl _ _ _ _ rfl _ _ _ rfl rfl rfl ?_) | (at_lookup; refine wl_lookup rfl _ _ _ _ rfl _ _ rfl rfl ?_) | (at_delete; refine wl_delete rfl _ _ _ _ rfl _ _ rfl rfl ?_) | (with_reducible refine wl_len rfl _ _ rfl _ rfl ?_) | (with_reducible refine wl_range rfl _ _ rfl _ rfl ?_) | (with_reducible refine wl_next rfl _ rfl _ rfl ?_) | (with_reducible refine wl_copy rfl _ _ _ _ rfl _ _ rfl rfl ?_) | (with_reducible refine wl_max rfl _ _ _ _ rfl _ _ rfl rfl ?_) | (with_reducible refine wl_min rfl _ _ _ _ rfl _ _ rfl rfl ?_))
                    refine (nm_any ia _).mono ?_
                    rintro e wl ⟨rfl, kl⟩
                    have hOl := hOk.keep kl fun _ _ h => h
                    have hKl := hKk.trans' (kl.mono fun _ _ h => h.elim)
                    clear hOk hKk kl q0 q1 q3 q4 q5 hvb hvk
                    go_wp2_with (first | (at_builtin; refine wl_append rfl _ _ _ _ rfl _ _ rfl rfl ?_) | (at_make; refine wl_make rfl _ _ _ rfl _ _ rfl rfl ?_) | (at_mapUpdate; refine wl_mapUpdate rfl _ _ _ _ rfl _ _ _ rfl rfl rfl ?_) | (at_lookup; refine wl_lookup rfl _ _ _ _ rfl _ _ rfl rfl ?_) | (at_delete; refine wl_delete rfl _ _ _ _ rfl _ _ rfl rfl ?_) | (with_reducible refine wl_len rfl _ _ rfl _ rfl ?_) | (with_reducible refine wl_range rfl _ _ rfl _ rfl ?_) | (with_reducible refine wl_next rfl _ rfl _ rfl ?_) | (with_reducible refine wl_copy rfl _ _ _ _ rfl _ _ rfl rfl ?_) | (with_reducible refine wl_max rfl _ _ _ _ rfl _ _ rfl rfl ?_) | (with_reducible refine wl_min rfl _ _ _ _ rfl _ _ rfl rfl ?_))
                    refine (read_own (nm ia) hOl hs2 (by omega) (by omega)).mono ?_
                    rintro e wm ⟨v', rfl, hy, km⟩
                    rw [H2.out] at hy
                    rw [H3.out]
                    obtain ⟨ay, cy, rfl, hcy1, hcy2⟩ := (Sl.of_own hy).shape
                    have hOm := hOl.keep km fun _ _ h => h
                    have hKm := hKl.trans' (km.mono fun _ _ h => h.elim)
                    clear hOl hKl km
                    obtain ⟨q0, q1, q3, q4, q5, hvb, hvk⟩ := HQ.out _ hKm
                    go_wp2_with (first | (at_builtin; refine wl_append rfl _ _ _ _ rfl _ _ rfl rfl ?_) | (at_make; refine wl_make rfl _ _ _ rfl _ _ rfl rfl ?_) | (at_mapUpdate; refine wl_mapUpdate rfl _ _ _ _ rfl _ _ _ rfl rfl rfl ?_) | (at_lookup; refine wl_lookup rfl _ _ _ _ rfl _ _ rfl rfl ?_) | (at_delete; refine wl_delete rfl _ _ _ _ rfl _ _ rfl rfl ?_) | (with_reducible refine wl_len rfl _ _ rfl _ rfl ?_) | (with_reducible refine wl_range rfl _ _ rfl _ rfl ?_) | (with_reducible refine wl_next rfl _ rfl _ rfl ?_) | (with_reducible refine wl_copy rfl _ _ _ _ rfl _ _ rfl rfl ?_) | (with_reducible refine wl_max rfl _ _ _ _ rfl _ _ rfl rfl ?_) | (with_reducible refine wl_min rfl _ _ _ _ rfl _ _ rfl rfl ?_))
                    have s2 : IntKind.i64.wrap ((a0 : Int) + (body.length : Int)) = (a0 : Int) + (body.length : Int) := IntWalk.i64_in _ (by omega)
                    obtain ⟨a', cap', hsl, hsb⟩ := Bts.sub (P := Try.prog) (lo := a0) (hi := a0 + body.length) 29 Try.underlying29 (fun W => by kernel_rfl) (Sl.of_own hy) (by omega) hx1
                    rw [Nat.add_sub_cancel_left, HX.out] at hsb
                    rw [Nat.add_sub_cancel_left, Int.natCast_add] at hsl
                    have hc1 : ∀ n, (convert 29 9 (.slice a' body.length cap')).run Try.prog (wm.drewN n) = .ok (.string ⟨body.toArray⟩) (wm.drewN n) := fun n => conv_str (w := wm.drewN n) hsb
                    have hc2 : ∀ n, (convert 29 9 (.slice b1 body.length b2)).run Try.prog (wm.drewN n) = .ok (.string ⟨body.toArray⟩) (wm.drewN n) := fun n => conv_str (w := wm.drewN n) hvb
                    go_quiet (fail)
                    go_wp2_with (first | (at_builtin; refine wl_append rfl _ _ _ _ rfl _ _ rfl rfl ?_) | (at_make; refine wl_make rfl _ _ _ rfl _ _ rfl rfl ?_) | (at_mapUpdate; refine wl_mapUpdate rfl _ _ _ _ rfl _ _ _ rfl rfl rfl ?_) | (at_lookup; refine wl_lookup rfl _ _ _ _ rfl _ _ rfl rfl ?_) | (at_delete; refine wl_delete rfl _ _ _ _ rfl _ _ rfl rfl ?_) | (with_reducible refine wl_len rfl _ _ rfl _ rfl ?_) | (with_reducible refine wl_range rfl _ _ rfl _ rfl ?_) | (with_reducible refine wl_next rfl _ rfl _ rfl ?_) | (with_reducible refine wl_copy rfl _ _ _ _ rfl _ _ rfl rfl ?_) | (with_reducible refine wl_max rfl _ _ _ _ rfl _ _ rfl rfl ?_) | (with_reducible refine wl_min rfl _ _ _ _ rfl _ _ rfl rfl ?_))
                    have hOn : Own (fun k => w.heap.size ≤ k ∧ some k ≠ (Value.slice av X.length cv).ownBlock) (wm.drewN nq) d m2 := hOm.keep ((Keep.refl No wm).drewN nq) fun _ _ h => h
                    have hKn : Keep (fun j => w.heap.size ≤ j) w (wm.drewN nq) := hKm.drewN nq
                    clear q0 q1 q3 q4 q5 hvb hvk hOm hKm hy s2 hsl hsb hc1 hc2
                    generalize wm.drewN nq = wn at *
                    refine (used_own hOn hs2 (by omega) (by omega)).mono ?_
                    rintro e wu ⟨rfl, ku⟩
                    have hOu := hOn.keep ku fun _ _ h => h
                    have hKu := hKn.trans' (ku.mono fun _ _ h => h.elim)
                    have hus := hm2.us
                    rw [hrm2'] at hus
                    have b9 : decide (max room 0 < (used m2 : Int)) = false := by simp; omega
                    have b10 : decide ((used m2 : Int) > max room 0) = false := by simp; omega
                    go_wp2_with (first | (at_builtin; refine wl_append rfl _ _ _ _ rfl _ _ rfl rfl ?_) | (at_make; refine wl_make rfl _ _ _ rfl _ _ rfl rfl ?_) | (at_mapUpdate; refine wl_mapUpdate rfl _ _ _ _ rfl _ _ _ rfl rfl rfl ?_) | (at_lookup; refine wl_lookup rfl _ _ _ _ rfl _ _ rfl rfl ?_) | (at_delete; refine wl_delete rfl _ _ _ _ rfl _ _ rfl rfl ?_) | (with_reducible refine wl_len rfl _ _ rfl _ rfl ?_) | (with_reducible refine wl_range rfl _ _ rfl _ rfl ?_) | (with_reducible refine wl_next rfl _ rfl _ rfl ?_) | (with_reducible refine wl_copy rfl _ _ _ _ rfl _ _ rfl rfl ?_) | (with_reducible refine wl_max rfl _ _ _ _ rfl _ _ rfl rfl ?_) | (with_reducible refine wl_min rfl _ _ _ _ rfl _ _ rfl rfl ?_))
                    refine rg_max2 ?_
                    go_wp2_with (first | (at_builtin; refine wl_append rfl _ _ _ _ rfl _ _ rfl rfl ?_) | (at_make; refine wl_make rfl _ _ _ rfl _ _ rfl rfl ?_) | (at_mapUpdate; refine wl_mapUpdate rfl _ _ _ _ rfl _ _ _ rfl rfl rfl ?_) | (at_lookup; refine wl_lookup rfl _ _ _ _ rfl _ _ rfl rfl ?_) | (at_delete; refine wl_delete rfl _ _ _ _ rfl _ _ rfl rfl ?_) | (with_reducible refine wl_len rfl _ _ rfl _ rfl ?_) | (with_reducible refine wl_range rfl _ _ rfl _ rfl ?_) | (with_reducible refine wl_next rfl _ rfl _ rfl ?_) | (with_reducible refine wl_copy rfl _ _ _ _ rfl _ _ rfl rfl ?_) | (with_reducible refine wl_max rfl _ _ _ _ rfl _ _ rfl rfl ?_) | (with_reducible refine wl_min rfl _ _ _ _ rfl _ _ rfl rfl ?_))
                    go_roundw
                    case rel => exact ⟨i + 1, m2, by simp, by omega, hm2, hrm2', hs2.mono (by omega) (by omega), hOu.mono fun k hk ha => ⟨ha.1.1, ha.2⟩, hKu⟩
                    case measure => simp [intOf]; omega
              · have b7 : ((E2 : Int) == 0) = false := by simp; omega
                go_wp2_with (first | (at_builtin; refine wl_append rfl _ _ _ _ rfl _ _ rfl rfl ?_) | (at_make; refine wl_make rfl _ _ _ rfl _ _ rfl rfl ?_) | (at_mapUpdate; refine wl_mapUpdate rfl _ _ _ _ rfl _ _ _ rfl rfl rfl ?_) | (at_lookup; refine wl_lookup rfl _ _ _ _ rfl _ _ rfl rfl ?_) | (at_delete; refine wl_delete rfl _ _ _ _ rfl _ _ rfl rfl ?_) | (with_reducible refine wl_len rfl _ _ rfl _ rfl ?_) | (with_reducible refine wl_range rfl _ _ rfl _ rfl ?_) | (with_reducible refine wl_next rfl _ rfl _ rfl ?_) | (with_reducible refine wl_copy rfl _ _ _ _ rfl _ _ rfl rfl ?_) | (with_reducible refine wl_max rfl _ _ _ _ rfl _ _ rfl rfl ?_) | (with_reducible refine wl_min rfl _ _ _ _ rfl _ _ rfl rfl ?_))
                refine (used_own hOg hs2 (by omega) (by omega)).mono ?_
                rintro e wu ⟨rfl, ku⟩
                have hOu := hOg.keep ku fun _ _ h => h
                have hKu := hKg.trans' (ku.mono fun _ _ h => h.elim)
                have hus := hm2.us
                rw [hrm2'] at hus
                have b9 : decide (max room 0 < (used m2 : Int)) = false := by simp; omega
                have b10 : decide ((used m2 : Int) > max room 0) = false := by simp; omega
                go_wp2_with (first | (at_builtin; refine wl_append rfl _ _ _ _ rfl _ _ rfl rfl ?_) | (at_make; refine wl_make rfl _ _ _ rfl _ _ rfl rfl ?_) | (at_mapUpdate; refine wl_mapUpdate rfl _ _ _ _ rfl _ _ _ rfl rfl rfl ?_) | (at_lookup; refine wl_lookup rfl _ _ _ _ rfl _ _ rfl rfl ?_) | (at_delete; refine wl_delete rfl _ _ _ _ rfl _ _ rfl rfl ?_) | (with_reducible refine wl_len rfl _ _ rfl _ rfl ?_) | (with_reducible refine wl_range rfl _ _ rfl _ rfl ?_) | (with_reducible refine wl_next rfl _ rfl _ rfl ?_) | (with_reducible refine wl_copy rfl _ _ _ _ rfl _ _ rfl rfl ?_) | (with_reducible refine wl_max rfl _ _ _ _ rfl _ _ rfl rfl ?_) | (with_reducible refine wl_min rfl _ _ _ _ rfl _ _ rfl rfl ?_))
                refine rg_max2 ?_
                go_wp2_with (first | (at_builtin; refine wl_append rfl _ _ _ _ rfl _ _ rfl rfl ?_) | (at_make; refine wl_make rfl _ _ _ rfl _ _ rfl rfl ?_) | (at_mapUpdate; refine wl_mapUpdate rfl _ _ _ _ rfl _ _ _ rfl rfl rfl ?_) | (at_lookup; refine wl_lookup rfl _ _ _ _ rfl _ _ rfl rfl ?_) | (at_delete; refine wl_delete rfl _ _ _ _ rfl _ _ rfl rfl ?_) | (with_reducible refine wl_len rfl _ _ rfl _ rfl ?_) | (with_reducible refine wl_range rfl _ _ rfl _ rfl ?_) | (with_reducible refine wl_next rfl _ rfl _ rfl ?_) | (with_reducible refine wl_copy rfl _ _ _ _ rfl _ _ rfl rfl ?_) | (with_reducible refine wl_max rfl _ _ _ _ rfl _ _ rfl rfl ?_) | (with_reducible refine wl_min rfl _ _ _ _ rfl _ _ rfl rfl ?_))
                go_roundw
                case rel => exact ⟨i + 1, m2, by simp, by omega, hm2, hrm2', hs2.mono (by omega) (by omega), hOu.mono fun k hk ha => ⟨ha.1.1, ha.2⟩, hKu⟩
                case measure => simp [intOf]; omega
      · obtain rfl : i = 40 := by omega
        go_wp2_with (first | (at_builtin; refine wl_append rfl _ _ _ _ rfl _ _ rfl rfl ?_) | (at_make; refine wl_make rfl _ _ _ rfl _ _ rfl rfl ?_) | (at_mapUpdate; refine wl_mapUpdate rfl _ _ _ _ rfl _ _ _ rfl rfl rfl ?_) | (at_lookup; refine wl_lookup rfl _ _ _ _ rfl _ _ rfl rfl ?_) | (at_delete; refine wl_delete rfl _ _ _ _ rfl _ _ rfl rfl ?_) | (with_reducible refine wl_len rfl _ _ rfl _ rfl ?_) | (with_reducible refine wl_range rfl _ _ rfl _ rfl ?_) | (with_reducible refine wl_next rfl _ rfl _ rfl ?_) | (with_reducible refine wl_copy rfl _ _ _ _ rfl _ _ rfl rfl ?_) | (with_reducible refine wl_max rfl _ _ _ _ rfl _ _ rfl rfl ?_) | (with_reducible refine wl_min rfl _ _ _ _ rfl _ _ rfl rfl ?_))
        go_ret
        exact ⟨rfl, hK.os, hK.tape, hK.output, hK.size, fun j hj _ => hK.block j hj (by omega)⟩
    · go_wp2_with (first | (at_builtin; refine wl_append rfl _ _ _ _ rfl _ _ rfl rfl ?_) | (at_make; refine wl_make rfl _ _ _ rfl _ _ rfl rfl ?_) | (at_mapUpdate; refine wl_mapUpdate rfl _ _ _ _ rfl _ _ _ rfl rfl rfl ?_) | (at_lookup; refine wl_lookup rfl _ _ _ _ rfl _ _ rfl rfl ?_) | (at_delete; refine wl_delete rfl _ _ _ _ rfl _ _ rfl rfl ?_) | (with_reducible refine wl_len rfl _ _ rfl _ rfl ?_) | (with_reducible refine wl_range rfl _ _ rfl _ rfl ?_) | (with_reducible refine wl_next rfl _ rfl _ rfl ?_) | (with_reducible refine wl_copy rfl _ _ _ _ rfl _ _ rfl rfl ?_) | (with_reducible refine wl_max rfl _ _ _ _ rfl _ _ rfl rfl ?_) | (with_reducible refine wl_min rfl _ _ _ _ rfl _ _ rfl rfl ?_))
      go_ret
      exact ⟨rfl, hK.os, hK.tape, hK.output, hK.size, fun j hj _ => hK.block j hj (by omega)⟩
end Go.Proofs.Ytkmoomgmmhmaeaa
