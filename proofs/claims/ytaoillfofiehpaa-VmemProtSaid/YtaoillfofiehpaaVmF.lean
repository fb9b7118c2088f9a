/- number, Load, Fetch, Peek, Poke, Store. No condition. -/
import Derived.Test.YtaoillfofiehpaaRvM
import Derived.Test.YtaoillfofiehpaaOct
namespace Go.Dm.Vm
open Go Go.Proofs.Ytaoillfofiehpaa Go.Dm.Oc
theorem num_parts {m : V} {addr : Nat} {n : Int} {what : Nat} (h : numE m addr n what = 0) : (n = 1 ∨ n = 2 ∨ n = 4 ∨ n = 8) ∧ heldE m addr n.toNat = 0 ∧ allowedE m addr n.toNat what = 0 := by
  unfold numE at h
  split at h
  · rename_i hn
    split at h
    · rename_i hh
      exact ⟨hn, hh, h⟩
    · rename_i hh
      exact absurd h hh
  · cases h
theorem dirt_ok (p : Pg) (h : PgOk p) : PgOk (dirt p) := ⟨h.al, h.lt, h.pr, h.bl, h.ol, h.fl⟩
end Go.Dm.Vm
namespace Go.Proofs.Ytaoillfofiehpaa
open Go.RowKit Go.Dm Go.Dm.Vm Go.Maps Go.Dm.Oc

section
variable {A : Nat → Prop} {w : World} {d mb x y : Nat} {f : Nat → Nat} {m : V}
theorem World.ownsRow.base_le {base base' : Nat} {e : TypeId} {size : Nat} {v : Value} {k : Nat} {xs : List Value} (h : w.ownsRow base e size v k xs) (hb : base' ≤ base) : w.ownsRow base' e size v k xs := by
  refine ⟨h.1, h.2.imp id ?_⟩
  rintro ⟨g, cap, cur, rfl, a, b, r⟩
  exact ⟨g, cap, cur, rfl, Nat.le_trans hb a, b, r⟩
theorem SRep.no (h : SRep A w d m mb f) (hA : ∀ k, A k → k < w.heap.size) {w' : World} (hk : Keep No w w') : SRep A w' d m mb f := h.same fun j hj => hk.block j (hA j hj) fun h => h
set_option maxRecDepth 100000 in
set_option maxHeartbeats 2000000 in
theorem vnumber_any (addr : Nat) (n : Int) (what : Nat) (hw : what < 8) (ha : addr < 18446744073709551616) (h0 : -9223372036854775808 ≤ n) (h1 : n < 9223372036854775808) (h : SRep A w d m mb f) (hA : ∀ k, A k → k < w.heap.size) :
    Calls Try.prog 37 #[ptrTo d, .int .u64 (addr : Int), .int .i64 n, .int .i64 (what : Int)] w fun e w' => e = .returned (.int .i64 (numE m addr n what : Nat)) ∧ Keep No w w' := by
  have hdef : numE m addr n what = if n = 1 ∨ n = 2 ∨ n = 4 ∨ n = 8 then if Vm.heldE m addr n.toNat = 0 then allowedE m addr n.toNat what else Vm.heldE m addr n.toNat else 1 := rfl
  by_cases hn : n = 1 ∨ n = 2 ∨ n = 4 ∨ n = 8
  · rw [if_pos hn] at hdef
    have hheld := vheld_any (w := w) addr n.toNat (by omega) ha (by omega) h hA
    have hallow : Vm.heldE m addr n.toNat = 0 → ∀ w', Keep No w w' → _ := fun h0 w' hk => vallowed_any (w := w') addr n.toNat what hw (by omega) (held_parts h0).1 (held_parts h0).2.1 (held_parts h0).2.2.2 (h.no hA hk) (fun k hk2 => Nat.lt_of_lt_of_le (hA k hk2) hk.size)
    have HD := Lib.hid hdef
    have HH := Lib.hid hallow
    clear hdef hallow
    unfold ptrTo at *
    generalize numE m addr n what = X at *
    generalize Vm.heldE m addr n.toNat = er at *
    generalize allowedE m addr n.toNat what = al at *
    rcases hn with rfl | rfl | rfl | rfl
    all_goals
      go_enter Try.func37, Try.ntmps37
      go_wp2_with (first | (at_builtin; refine wl_append rfl _ _ _ _ rfl _ _ rfl rfl ?_) | (at_make; refine wl_make rfl _ _ _ rfl _ _ rfl rfl ?_) | (at_mapUpdate; refine wl_mapUpdate rfl _ _ _ _ rfl _ _ _ rfl rfl rfl ?_) | (at_lookup; refine wl_lookup rfl _ _ _ _ rfl _ _ rfl rfl ?_) | (at_delete; refine wl_delete rfl _ _ _ _ rfl _ _ rfl rfl ?_) | (with_reducible refine wl_len rfl _ _ rfl _ rfl ?_) | (with_reducible refine wl_range rfl _ _ rfl _ rfl ?_) | (with_reducible refine wl_next rfl _ rfl _ rfl ?_) | (with_reducible refine wl_copy rfl _ _ _ _ rfl _ _ rfl rfl ?_) | (with_reducible refine wl_max rfl _ _ _ _ rfl _ _ rfl rfl ?_) | (with_reducible refine wl_min rfl _ _ _ _ rfl _ _ rfl rfl ?_))
      refine hheld.mono ?_
      rintro e W ⟨rfl, hk⟩
      by_cases he : er = 0
      · subst he
        rw [if_pos rfl] at HD
        have hal := HH.out rfl W hk
        clear HH hheld
        go_wp2_with (first | (at_builtin; refine wl_append rfl _ _ _ _ rfl _ _ rfl rfl ?_) | (at_make; refine wl_make rfl _ _ _ rfl _ _ rfl rfl ?_) | (at_mapUpdate; refine wl_mapUpdate rfl _ _ _ _ rfl _ _ _ rfl rfl rfl ?_) | (at_lookup; refine wl_lookup rfl _ _ _ _ rfl _ _ rfl rfl ?_) | (at_delete; refine wl_delete rfl _ _ _ _ rfl _ _ rfl rfl ?_) | (with_reducible refine wl_len rfl _ _ rfl _ rfl ?_) | (with_reducible refine wl_range rfl _ _ rfl _ rfl ?_) | (with_reducible refine wl_next rfl _ rfl _ rfl ?_) | (with_reducible refine wl_copy rfl _ _ _ _ rfl _ _ rfl rfl ?_) | (with_reducible refine wl_max rfl _ _ _ _ rfl _ _ rfl rfl ?_) | (with_reducible refine wl_min rfl _ _ _ _ rfl _ _ rfl rfl ?_))
        refine hal.mono ?_
        rintro e W2 ⟨rfl, hk2⟩
        go_wp2_with (first | (at_builtin; refine wl_append rfl _ _ _ _ rfl _ _ rfl rfl ?_) | (at_make; refine wl_make rfl _ _ _ rfl _ _ rfl rfl ?_) | (at_mapUpdate; refine wl_mapUpdate rfl _ _ _ _ rfl _ _ _ rfl rfl rfl ?_) | (at_lookup; refine wl_lookup rfl _ _ _ _ rfl _ _ rfl rfl ?_) | (at_delete; refine wl_delete rfl _ _ _ _ rfl _ _ rfl rfl ?_) | (with_reducible refine wl_len rfl _ _ rfl _ rfl ?_) | (with_reducible refine wl_range rfl _ _ rfl _ rfl ?_) | (with_reducible refine wl_next rfl _ rfl _ rfl ?_) | (with_reducible refine wl_copy rfl _ _ _ _ rfl _ _ rfl rfl ?_) | (with_reducible refine wl_max rfl _ _ _ _ rfl _ _ rfl rfl ?_) | (with_reducible refine wl_min rfl _ _ _ _ rfl _ _ rfl rfl ?_))
        go_ret
        rw [HD.out]
        exact ⟨rfl, hk.trans' hk2⟩
      · rw [if_neg he] at HD
        clear HH hheld
        have hne : (er : Int) ≠ 0 := by omega
        go_wp2_with (first | (at_builtin; refine wl_append rfl _ _ _ _ rfl _ _ rfl rfl ?_) | (at_make; refine wl_make rfl _ _ _ rfl _ _ rfl rfl ?_) | (at_mapUpdate; refine wl_mapUpdate rfl _ _ _ _ rfl _ _ _ rfl rfl rfl ?_) | (at_lookup; refine wl_lookup rfl _ _ _ _ rfl _ _ rfl rfl ?_) | (at_delete; refine wl_delete rfl _ _ _ _ rfl _ _ rfl rfl ?_) | (with_reducible refine wl_len rfl _ _ rfl _ rfl ?_) | (with_reducible refine wl_range rfl _ _ rfl _ rfl ?_) | (with_reducible refine wl_next rfl _ rfl _ rfl ?_) | (with_reducible refine wl_copy rfl _ _ _ _ rfl _ _ rfl rfl ?_) | (with_reducible refine wl_max rfl _ _ _ _ rfl _ _ rfl rfl ?_) | (with_reducible refine wl_min rfl _ _ _ _ rfl _ _ rfl rfl ?_))
        go_ret
        rw [HD.out]
        exact ⟨rfl, hk⟩
  · rw [if_neg hn] at hdef
    have HD := Lib.hid hdef
    clear hdef
    have n1 : (n != 1) = true := by simp; omega
    have n2 : (n != 2) = true := by simp; omega
    have n4 : (n != 4) = true := by simp; omega
    have n8 : (n != 8) = true := by simp; omega
    clear hn
    unfold ptrTo
    go_enter Try.func37, Try.ntmps37
    go_wp2_with (first | (at_builtin; refine wl_append rfl _ _ _ _ rfl _ _ rfl rfl ?_) | (at_make; refine wl_make rfl _ _ _ rfl _ _ rfl rfl ?_) | (at_mapUpdate; refine wl_mapUpdate rfl _ _ _ _ rfl _ _ _ rfl rfl rfl ?_) | (at_lookup; refine wl_lookup rfl _ _ _ _ rfl _ _ rfl rfl ?_) | (at_delete; refine wl_delete rfl _ _ _ _ rfl _ _ rfl rfl ?_) | (with_reducible refine wl_len rfl _ _ rfl _ rfl ?_) | (with_reducible refine wl_range rfl _ _ rfl _ rfl ?_) | (with_reducible refine wl_next rfl _ rfl _ rfl ?_) | (with_reducible refine wl_copy rfl _ _ _ _ rfl _ _ rfl rfl ?_) | (with_reducible refine wl_max rfl _ _ _ _ rfl _ _ rfl rfl ?_) | (with_reducible refine wl_min rfl _ _ _ _ rfl _ _ rfl rfl ?_))
    go_ret
    rw [HD.out]
    exact ⟨rfl, Keep.refl _ _⟩
set_option maxRecDepth 100000 in
set_option maxHeartbeats 2000000 in
theorem vload_any (addr : Nat) (n : Int) (ha : addr < 18446744073709551616) (h0 : -9223372036854775808 ≤ n) (h1 : n < 9223372036854775808) (h : SRep A w d m mb f) (hA : ∀ k, A k → k < w.heap.size) :
    Calls Try.prog 19 #[ptrTo d, .int .u64 (addr : Int), .int .i64 n] w fun e w' => e = .returned (.tuple #[.int .u64 (loadX m addr n : Nat), .int .i64 (loadE m addr n : Nat)]) ∧ Keep No w w' := by
  have hx : loadX m addr n = if loadE m addr n = 0 then leN (readB m addr n.toNat) else 0 := rfl
  have hnum := vnumber_any addr n 4 (by omega) ha h0 h1 h hA
  have hp := @num_parts m addr n 4
  unfold loadE at *
  generalize numE m addr n 4 = er at *
  generalize loadX m addr n = X at *
  have HX := Lib.hid hx
  clear hx
  unfold ptrTo at *
  go_enter Try.func19, Try.ntmps19
  go_wp2_with (first | (at_builtin; refine wl_append rfl _ _ _ _ rfl _ _ rfl rfl ?_) | (at_make; refine wl_make rfl _ _ _ rfl _ _ rfl rfl ?_) | (at_mapUpdate; refine wl_mapUpdate rfl _ _ _ _ rfl _ _ _ rfl rfl rfl ?_) | (at_lookup; refine wl_lookup rfl _ _ _ _ rfl _ _ rfl rfl ?_) | (at_delete; refine wl_delete rfl _ _ _ _ rfl _ _ rfl rfl ?_) | (with_reducible refine wl_len rfl _ _ rfl _ rfl ?_) | (with_reducible refine wl_range rfl _ _ rfl _ rfl ?_) | (with_reducible refine wl_next rfl _ rfl _ rfl ?_) | (with_reducible refine wl_copy rfl _ _ _ _ rfl _ _ rfl rfl ?_) | (with_reducible refine wl_max rfl _ _ _ _ rfl _ _ rfl rfl ?_) | (with_reducible refine wl_min rfl _ _ _ _ rfl _ _ rfl rfl ?_))
  refine hnum.mono ?_
  rintro e W ⟨rfl, hk⟩
  by_cases he : er = 0
  · subst he
    rw [if_pos rfl] at HX
    obtain ⟨hn, hh, _⟩ := hp rfl
    obtain ⟨q1, q2, q3, q4⟩ := held_parts hh
    clear hh hnum
    have hnn : n = (n.toNat : Int) := by omega
    have hn' : n.toNat = 1 ∨ n.toNat = 2 ∨ n.toNat = 4 ∨ n.toNat = 8 := by omega
    generalize n.toNat = k at *
    subst hnn
    clear hn hp
    have hrd := vread_any (w := W) addr k q1 q2 (by omega) q4 (h.no hA hk) (fun j hj => Nat.lt_of_lt_of_le (hA j hj) hk.size)
    unfold ptrTo at hrd
    have hk8 : (k : Int) ≤ 8 := by omega
    go_wp2_with (first | (at_builtin; refine wl_append rfl _ _ _ _ rfl _ _ rfl rfl ?_) | (at_make; refine wl_make rfl _ _ _ rfl _ _ rfl rfl ?_) | (at_mapUpdate; refine wl_mapUpdate rfl _ _ _ _ rfl _ _ _ rfl rfl rfl ?_) | (at_lookup; refine wl_lookup rfl _ _ _ _ rfl _ _ rfl rfl ?_) | (at_delete; refine wl_delete rfl _ _ _ _ rfl _ _ rfl rfl ?_) | (with_reducible refine wl_len rfl _ _ rfl _ rfl ?_) | (with_reducible refine wl_range rfl _ _ rfl _ rfl ?_) | (with_reducible refine wl_next rfl _ rfl _ rfl ?_) | (with_reducible refine wl_copy rfl _ _ _ _ rfl _ _ rfl rfl ?_) | (with_reducible refine wl_max rfl _ _ _ _ rfl _ _ rfl rfl ?_) | (with_reducible refine wl_min rfl _ _ _ _ rfl _ _ rfl rfl ?_))
    refine hrd.mono ?_
    rintro e W2 ⟨v', rfl, ho, hk2⟩
    clear hrd
    have hg := oget_any (w := W2) (readB m addr k) 0 k (A := fun j => W.heap.size ≤ j ∧ some j = v'.ownBlock) (by unfold Bts; rw [readB_len]; exact Sl.of_own ho) (by rw [readB_len]; omega) (by omega) (by omega) (by omega)
    rw [(getX_whole _ k (readB_len _ _ _) hn').1, (getX_whole _ k (readB_len _ _ _) hn').2] at hg
    generalize readB m addr k = b at *
    obtain ⟨a2, c2, rfl⟩ : ∃ a2 c2, v' = .slice a2 k c2 := by
      rcases ho.2 with ⟨rfl, e0⟩ | ⟨g, cap, cur, rfl, _⟩
      · exact ⟨none, 0, by rw [e0]⟩
      · exact ⟨_, _, rfl⟩
    go_wp2_with (first | (at_builtin; refine wl_append rfl _ _ _ _ rfl _ _ rfl rfl ?_) | (at_make; refine wl_make rfl _ _ _ rfl _ _ rfl rfl ?_) | (at_mapUpdate; refine wl_mapUpdate rfl _ _ _ _ rfl _ _ _ rfl rfl rfl ?_) | (at_lookup; refine wl_lookup rfl _ _ _ _ rfl _ _ rfl rfl ?_) | (at_delete; refine wl_delete rfl _ _ _ _ rfl _ _ rfl rfl ?_) | (with_reducible refine wl_len rfl _ _ rfl _ rfl ?_) | (with_reducible refine wl_range rfl _ _ rfl _ rfl ?_) | (with_reducible refine wl_next rfl _ rfl _ rfl ?_) | (with_reducible refine wl_copy rfl _ _ _ _ rfl _ _ rfl rfl ?_) | (with_reducible refine wl_max rfl _ _ _ _ rfl _ _ rfl rfl ?_) | (with_reducible refine wl_min rfl _ _ _ _ rfl _ _ rfl rfl ?_))
    refine hg.mono ?_
    rintro e W3 ⟨rfl, rfl⟩
    go_wp2_with (first | (at_builtin; refine wl_append rfl _ _ _ _ rfl _ _ rfl rfl ?_) | (at_make; refine wl_make rfl _ _ _ rfl _ _ rfl rfl ?_) | (at_mapUpdate; refine wl_mapUpdate rfl _ _ _ _ rfl _ _ _ rfl rfl rfl ?_) | (at_lookup; refine wl_lookup rfl _ _ _ _ rfl _ _ rfl rfl ?_) | (at_delete; refine wl_delete rfl _ _ _ _ rfl _ _ rfl rfl ?_) | (with_reducible refine wl_len rfl _ _ rfl _ rfl ?_) | (with_reducible refine wl_range rfl _ _ rfl _ rfl ?_) | (with_reducible refine wl_next rfl _ rfl _ rfl ?_) | (with_reducible refine wl_copy rfl _ _ _ _ rfl _ _ rfl rfl ?_) | (with_reducible refine wl_max rfl _ _ _ _ rfl _ _ rfl rfl ?_) | (with_reducible refine wl_min rfl _ _ _ _ rfl _ _ rfl rfl ?_))
    go_ret2
    rw [HX.out]
    exact ⟨rfl, hk.trans' hk2⟩
  · rw [if_neg he] at HX
    have hne : (er : Int) ≠ 0 := by omega
    clear hp hnum
    go_wp2_with (first | (at_builtin; refine wl_append rfl _ _ _ _ rfl _ _ rfl rfl ?_) | (at_make; refine wl_make rfl _ _ _ rfl _ _ rfl rfl ?_) | (at_mapUpdate; refine wl_mapUpdate rfl _ _ _ _ rfl _ _ _ rfl rfl rfl ?_) | (at_lookup; refine wl_lookup rfl _ _ _ _ rfl _ _ rfl rfl ?_) | (at_delete; refine wl_delete rfl _ _ _ _ rfl _ _ rfl rfl ?_) | (with_reducible refine wl_len rfl _ _ rfl _ rfl ?_) | (with_reducible refine wl_range rfl _ _ rfl _ rfl ?_) | (with_reducible refine wl_next rfl _ rfl _ rfl ?_) | (with_reducible refine wl_copy rfl _ _ _ _ rfl _ _ rfl rfl ?_) | (with_reducible refine wl_max rfl _ _ _ _ rfl _ _ rfl rfl ?_) | (with_reducible refine wl_min rfl _ _ _ _ rfl _ _ rfl rfl ?_))
    go_ret2
    rw [HX.out]
    exact ⟨rfl, hk⟩
set_option maxRecDepth 100000 in
set_option maxHeartbeats 2000000 in
theorem vfetch_any (addr : Nat) (ha : addr < 18446744073709551616) (h : SRep A w d m mb f) (hA : ∀ k, A k → k < w.heap.size) :
    Calls Try.prog 21 #[ptrTo d, .int .u64 (addr : Int)] w fun e w' => e = .returned (.tuple #[.int .u64 (fetchX m addr : Nat), .int .i64 (fetchE m addr : Nat)]) ∧ Keep No w w' := by
  have hx : fetchX m addr = if fetchE m addr = 0 then leN (readB m addr 8) else 0 := rfl
  have hy : fetchE m addr = if addr % 8 = 0 then numE m addr 8 1 else 1 := rfl
  have hnum := vnumber_any addr 8 1 (by omega) ha (by omega) (by omega) h hA
  have hp := @num_parts m addr 8 1
  generalize numE m addr 8 1 = er at *
  generalize fetchX m addr = X at *
  generalize fetchE m addr = Y at *
  have hr : (addr : Int).tmod 8 = ((addr % 8 : Nat) : Int) := by rw [IntWalk.rem_in _ _ (by omega)]; omega
  unfold ptrTo at *
  by_cases h8 : addr % 8 = 0
  · rw [if_pos h8] at hy
    rw [h8] at hr
    subst hy
    have HX := Lib.hid hx
    clear hx h8
    go_enter Try.func21, Try.ntmps21
    go_wp2_with (first | (at_builtin; refine wl_append rfl _ _ _ _ rfl _ _ rfl rfl ?_) | (at_make; refine wl_make rfl _ _ _ rfl _ _ rfl rfl ?_) | (at_mapUpdate; refine wl_mapUpdate rfl _ _ _ _ rfl _ _ _ rfl rfl rfl ?_) | (at_lookup; refine wl_lookup rfl _ _ _ _ rfl _ _ rfl rfl ?_) | (at_delete; refine wl_delete rfl _ _ _ _ rfl _ _ rfl rfl ?_) | (with_reducible refine wl_len rfl _ _ rfl _ rfl ?_) | (with_reducible refine wl_range rfl _ _ rfl _ rfl ?_) | (with_reducible refine wl_next rfl _ rfl _ rfl ?_) | (with_reducible refine wl_copy rfl _ _ _ _ rfl _ _ rfl rfl ?_) | (with_reducible refine wl_max rfl _ _ _ _ rfl _ _ rfl rfl ?_) | (with_reducible refine wl_min rfl _ _ _ _ rfl _ _ rfl rfl ?_))
    refine hnum.mono ?_
    rintro e W ⟨rfl, hk⟩
    by_cases he : Y = 0
    · subst he
      rw [if_pos rfl] at HX
      obtain ⟨_, hh, _⟩ := hp rfl
      obtain ⟨q1, q2, q3, q4⟩ := held_parts hh
      clear hh hnum hp
      have hrd := vread_any (w := W) addr 8 q1 q2 (by omega) q4 (h.no hA hk) (fun j hj => Nat.lt_of_lt_of_le (hA j hj) hk.size)
      unfold ptrTo at hrd
      go_wp2_with (first | (at_builtin; refine wl_append rfl _ _ _ _ rfl _ _ rfl rfl ?_) | (at_make; refine wl_make rfl _ _ _ rfl _ _ rfl rfl ?_) | (at_mapUpdate; refine wl_mapUpdate rfl _ _ _ _ rfl _ _ _ rfl rfl rfl ?_) | (at_lookup; refine wl_lookup rfl _ _ _ _ rfl _ _ rfl rfl ?_) | (at_delete; refine wl_delete rfl _ _ _ _ rfl _ _ rfl rfl ?_) | (with_reducible refine wl_len rfl _ _ rfl _ rfl ?_) | (with_reducible refine wl_range rfl _ _ rfl _ rfl ?_) | (with_reducible refine wl_next rfl _ rfl _ rfl ?_) | (with_reducible refine wl_copy rfl _ _ _ _ rfl _ _ rfl rfl ?_) | (with_reducible refine wl_max rfl _ _ _ _ rfl _ _ rfl rfl ?_) | (with_reducible refine wl_min rfl _ _ _ _ rfl _ _ rfl rfl ?_))
      refine hrd.mono ?_
      rintro e W2 ⟨v', rfl, ho, hk2⟩
      clear hrd
      have hg := oget_any (w := W2) (readB m addr 8) 0 8 (A := fun j => W.heap.size ≤ j ∧ some j = v'.ownBlock) (by unfold Bts; rw [readB_len]; exact Sl.of_own ho) (by rw [readB_len]; omega) (by omega) (by omega) (by omega)
      rw [show (8 : Int) = ((8 : Nat) : Int) from rfl, (getX_whole _ 8 (readB_len _ _ _) (by omega)).1, (getX_whole _ 8 (readB_len _ _ _) (by omega)).2] at hg
      generalize readB m addr 8 = b at *
      obtain ⟨a2, c2, rfl⟩ : ∃ a2 c2, v' = .slice a2 8 c2 := by
        rcases ho.2 with ⟨rfl, e0⟩ | ⟨g, cap, cur, rfl, _⟩
        · exact ⟨none, 0, by rw [e0]⟩
        · exact ⟨_, _, rfl⟩
      go_wp2_with (first | (at_builtin; refine wl_append rfl _ _ _ _ rfl _ _ rfl rfl ?_) | (at_make; refine wl_make rfl _ _ _ rfl _ _ rfl rfl ?_) | (at_mapUpdate; refine wl_mapUpdate rfl _ _ _ _ rfl _ _ _ rfl rfl rfl ?_) | (at_lookup; refine wl_lookup rfl _ _ _ _ rfl _ _ rfl rfl ?_) | (at_delete; refine wl_delete rfl _ _ _ _ rfl _ _ rfl rfl ?_) | (with_reducible refine wl_len rfl _ _ rfl _ rfl ?_) | (with_reducible refine wl_range rfl _ _ rfl _ rfl ?_) | (with_reducible refine wl_next rfl _ rfl _ rfl ?_) | (with_reducible refine wl_copy rfl _ _ _ _ rfl _ _ rfl rfl ?_) | (with_reducible refine wl_max rfl _ _ _ _ rfl _ _ rfl rfl ?_) | (with_reducible refine wl_min rfl _ _ _ _ rfl _ _ rfl rfl ?_))
      refine hg.mono ?_
      rintro e W3 ⟨rfl, rfl⟩
      go_wp2_with (first | (at_builtin; refine wl_append rfl _ _ _ _ rfl _ _ rfl rfl ?_) | (at_make; refine wl_make rfl _ _ _ rfl _ _ rfl rfl ?_) | (at_mapUpdate; refine wl_mapUpdate rfl _ _ _ _ rfl _ _ _ rfl rfl rfl ?_) | (at_lookup; refine wl_lookup rfl _ _ _ _ rfl _ _ rfl rfl ?_) | (at_delete; refine wl_delete rfl _ _ _ _ rfl _ _ rfl rfl ?_) | (with_reducible refine wl_len rfl _ _ rfl _ rfl ?_) | (with_reducible refine wl_range rfl _ _ rfl _ rfl ?_) | (with_reducible refine wl_next rfl _ rfl _ rfl ?_) | (with_reducible refine wl_copy rfl _ _ _ _ rfl _ _ rfl rfl ?_) | (with_reducible refine wl_max rfl _ _ _ _ rfl _ _ rfl rfl ?_) | (with_reducible refine wl_min rfl _ _ _ _ rfl _ _ rfl rfl ?_))
      go_ret2
      rw [HX.out]
      exact ⟨rfl, hk.trans' hk2⟩
    · rw [if_neg he] at HX
      have hne : (Y : Int) ≠ 0 := by omega
      clear hp hnum
      go_wp2_with (first | (at_builtin; refine wl_append rfl _ _ _ _ rfl _ _ rfl rfl ?_) | (at_make; refine wl_make rfl _ _ _ rfl _ _ rfl rfl ?_) | (at_mapUpdate; refine wl_mapUpdate rfl _ _ _ _ rfl _ _ _ rfl rfl rfl ?_) | (at_lookup; refine wl_lookup rfl _ _ _ _ rfl _ _ rfl rfl ?_) | (at_delete; refine wl_delete rfl _ _ _ _ rfl _ _ rfl rfl ?_) | (with_reducible refine wl_len rfl _ _ rfl _ rfl ?_) | (with_reducible refine wl_range rfl _ _ rfl _ rfl ?_) | (with_reducible refine wl_next rfl _ rfl _ rfl ?_) | (with_reducible refine wl_copy rfl _ _ _ _ rfl _ _ rfl rfl ?_) | (with_reducible refine wl_max rfl _ _ _ _ rfl _ _ rfl rfl ?_) | (with_reducible refine wl_min rfl _ _ _ _ rfl _ _ rfl rfl ?_))
      go_ret2
      rw [HX.out]
      exact ⟨rfl, hk⟩
  · rw [if_neg h8] at hy
    subst hy
    rw [if_neg (by decide)] at hx
    have HX := Lib.hid hx
    have hr' : ((addr % 8 : Nat) : Int) ≠ 0 := by omega
    generalize addr % 8 = r at *
    clear hx hnum hp
    go_enter Try.func21, Try.ntmps21
    go_wp2_with (first | (at_builtin; refine wl_append rfl _ _ _ _ rfl _ _ rfl rfl ?_) | (at_make; refine wl_make rfl _ _ _ rfl _ _ rfl rfl ?_) | (at_mapUpdate; refine wl_mapUpdate rfl _ _ _ _ rfl _ _ _ rfl rfl rfl ?_) | (at_lookup; refine wl_lookup rfl _ _ _ _ rfl _ _ rfl rfl ?_) | (at_delete; refine wl_delete rfl _ _ _ _ rfl _ _ rfl rfl ?_) | (with_reducible refine wl_len rfl _ _ rfl _ rfl ?_) | (with_reducible refine wl_range rfl _ _ rfl _ rfl ?_) | (with_reducible refine wl_next rfl _ rfl _ rfl ?_) | (with_reducible refine wl_copy rfl _ _ _ _ rfl _ _ rfl rfl ?_) | (with_reducible refine wl_max rfl _ _ _ _ rfl _ _ rfl rfl ?_) | (with_reducible refine wl_min rfl _ _ _ _ rfl _ _ rfl rfl ?_))
    go_ret2
    rw [HX.out]
    exact ⟨rfl, Keep.refl _ _⟩
set_option maxRecDepth 100000 in
set_option maxHeartbeats 2000000 in
theorem vpeek_any (addr size : Nat) (ha : addr < 18446744073709551616) (hs : size < 18446744073709551616) (h : SRep A w d m mb f) (hA : ∀ k, A k → k < w.heap.size) :
    Calls Try.prog 24 #[ptrTo d, .int .u64 (addr : Int), .int .u64 (size : Int)] w fun e w' => ∃ v', e = .returned (.tuple #[v', .int .i64 (peekE m addr size : Nat)]) ∧ w'.ownsRow w.heap.size 5 1 v' (peekB m addr size).length ((peekB m addr size).map bv) ∧ Keep No w w' := by
  have hx : peekB m addr size = if size = 0 then [] else if Vm.heldE m addr size = 0 then readB m addr size else [] := rfl
  have hy : peekE m addr size = if size = 0 then 0 else Vm.heldE m addr size := rfl
  generalize peekB m addr size = X at *
  generalize peekE m addr size = Y at *
  by_cases h0 : size = 0
  · subst h0
    rw [if_pos rfl] at hx hy
    subst hx hy
    unfold ptrTo
    go_enter Try.func24, Try.ntmps24
    go_wp2_with (first | (at_builtin; refine wl_append rfl _ _ _ _ rfl _ _ rfl rfl ?_) | (at_make; refine wl_make rfl _ _ _ rfl _ _ rfl rfl ?_) | (at_mapUpdate; refine wl_mapUpdate rfl _ _ _ _ rfl _ _ _ rfl rfl rfl ?_) | (at_lookup; refine wl_lookup rfl _ _ _ _ rfl _ _ rfl rfl ?_) | (at_delete; refine wl_delete rfl _ _ _ _ rfl _ _ rfl rfl ?_) | (with_reducible refine wl_len rfl _ _ rfl _ rfl ?_) | (with_reducible refine wl_range rfl _ _ rfl _ rfl ?_) | (with_reducible refine wl_next rfl _ rfl _ rfl ?_) | (with_reducible refine wl_copy rfl _ _ _ _ rfl _ _ rfl rfl ?_) | (with_reducible refine wl_max rfl _ _ _ _ rfl _ _ rfl rfl ?_) | (with_reducible refine wl_min rfl _ _ _ _ rfl _ _ rfl rfl ?_))
    go_ret2
    exact ⟨_, rfl, World.ownsRow_nil _ _ _ _, Keep.refl _ _⟩
  · rw [if_neg h0] at hx hy
    have hheld := vheld_any (w := w) addr size (by omega) ha hs h hA
    have hp := @held_parts m addr size
    have hne0 : (size : Int) ≠ 0 := by omega
    have hne1 : ((size : Int) == 0) = false := by simpa using h0
    generalize Vm.heldE m addr size = er at *
    subst hy
    have HX := Lib.hid hx
    clear hx
    unfold ptrTo at *
    go_enter Try.func24, Try.ntmps24
    go_wp2_with (first | (at_builtin; refine wl_append rfl _ _ _ _ rfl _ _ rfl rfl ?_) | (at_make; refine wl_make rfl _ _ _ rfl _ _ rfl rfl ?_) | (at_mapUpdate; refine wl_mapUpdate rfl _ _ _ _ rfl _ _ _ rfl rfl rfl ?_) | (at_lookup; refine wl_lookup rfl _ _ _ _ rfl _ _ rfl rfl ?_) | (at_delete; refine wl_delete rfl _ _ _ _ rfl _ _ rfl rfl ?_) | (with_reducible refine wl_len rfl _ _ rfl _ rfl ?_) | (with_reducible refine wl_range rfl _ _ rfl _ rfl ?_) | (with_reducible refine wl_next rfl _ rfl _ rfl ?_) | (with_reducible refine wl_copy rfl _ _ _ _ rfl _ _ rfl rfl ?_) | (with_reducible refine wl_max rfl _ _ _ _ rfl _ _ rfl rfl ?_) | (with_reducible refine wl_min rfl _ _ _ _ rfl _ _ rfl rfl ?_))
    refine hheld.mono ?_
    rintro e W ⟨rfl, hk⟩
    by_cases he : Y = 0
    · subst he
      rw [if_pos rfl] at HX
      obtain ⟨q1, q2, q3, q4⟩ := hp rfl
      clear hheld hp
      have hrd := vread_any (w := W) addr size q1 q2 (by omega) q4 (h.no hA hk) (fun j hj => Nat.lt_of_lt_of_le (hA j hj) hk.size)
      unfold ptrTo at hrd
      go_wp2_with (first | (at_builtin; refine wl_append rfl _ _ _ _ rfl _ _ rfl rfl ?_) | (at_make; refine wl_make rfl _ _ _ rfl _ _ rfl rfl ?_) | (at_mapUpdate; refine wl_mapUpdate rfl _ _ _ _ rfl _ _ _ rfl rfl rfl ?_) | (at_lookup; refine wl_lookup rfl _ _ _ _ rfl _ _ rfl rfl ?_) | (at_delete; refine wl_delete rfl _ _ _ _ rfl _ _ rfl rfl ?_) | (with_reducible refine wl_len rfl _ _ rfl _ rfl ?_) | (with_reducible refine wl_range rfl _ _ rfl _ rfl ?_) | (with_reducible refine wl_next rfl _ rfl _ rfl ?_) | (with_reducible refine wl_copy rfl _ _ _ _ rfl _ _ rfl rfl ?_) | (with_reducible refine wl_max rfl _ _ _ _ rfl _ _ rfl rfl ?_) | (with_reducible refine wl_min rfl _ _ _ _ rfl _ _ rfl rfl ?_))
      refine hrd.mono ?_
      rintro e W2 ⟨v', rfl, ho, hk2⟩
      clear hrd
      go_wp2_with (first | (at_builtin; refine wl_append rfl _ _ _ _ rfl _ _ rfl rfl ?_) | (at_make; refine wl_make rfl _ _ _ rfl _ _ rfl rfl ?_) | (at_mapUpdate; refine wl_mapUpdate rfl _ _ _ _ rfl _ _ _ rfl rfl rfl ?_) | (at_lookup; refine wl_lookup rfl _ _ _ _ rfl _ _ rfl rfl ?_) | (at_delete; refine wl_delete rfl _ _ _ _ rfl _ _ rfl rfl ?_) | (with_reducible refine wl_len rfl _ _ rfl _ rfl ?_) | (with_reducible refine wl_range rfl _ _ rfl _ rfl ?_) | (with_reducible refine wl_next rfl _ rfl _ rfl ?_) | (with_reducible refine wl_copy rfl _ _ _ _ rfl _ _ rfl rfl ?_) | (with_reducible refine wl_max rfl _ _ _ _ rfl _ _ rfl rfl ?_) | (with_reducible refine wl_min rfl _ _ _ _ rfl _ _ rfl rfl ?_))
      go_ret2
      rw [HX.out, readB_len]
      exact ⟨_, rfl, World.ownsRow.base_le ho hk.size, hk.trans' hk2⟩
    · rw [if_neg he] at HX
      have hne : (Y : Int) ≠ 0 := by omega
      clear hp hheld
      go_wp2_with (first | (at_builtin; refine wl_append rfl _ _ _ _ rfl _ _ rfl rfl ?_) | (at_make; refine wl_make rfl _ _ _ rfl _ _ rfl rfl ?_) | (at_mapUpdate; refine wl_mapUpdate rfl _ _ _ _ rfl _ _ _ rfl rfl rfl ?_) | (at_lookup; refine wl_lookup rfl _ _ _ _ rfl _ _ rfl rfl ?_) | (at_delete; refine wl_delete rfl _ _ _ _ rfl _ _ rfl rfl ?_) | (with_reducible refine wl_len rfl _ _ rfl _ rfl ?_) | (with_reducible refine wl_range rfl _ _ rfl _ rfl ?_) | (with_reducible refine wl_next rfl _ rfl _ rfl ?_) | (with_reducible refine wl_copy rfl _ _ _ _ rfl _ _ rfl rfl ?_) | (with_reducible refine wl_max rfl _ _ _ _ rfl _ _ rfl rfl ?_) | (with_reducible refine wl_min rfl _ _ _ _ rfl _ _ rfl rfl ?_))
      go_ret2
      rw [HX.out]
      exact ⟨_, rfl, World.ownsRow_nil _ _ _ _, hk⟩
set_option maxRecDepth 100000 in
set_option maxHeartbeats 2000000 in
theorem vpoke_any {B : Nat → Prop} {vb : Value} (addr : Nat) (b : List UInt8) (ha : addr < 18446744073709551616) (hl : b.length ≤ 1099511627776) (h : SRep A w d m mb f) (hA : ∀ k, A k → k < w.heap.size) (hb : Bts B w vb b) (hBA : ∀ k, B k → ¬ A k) :
    Calls Try.prog 27 #[ptrTo d, .int .u64 (addr : Int), vb] w fun e w' => e = .returned (.int .i64 (peekE m addr b.length : Nat)) ∧ SRep A w' d (pokeV m addr b) mb f ∧ Keep A w w' := by
  have hx : pokeV m addr b = if peekE m addr b.length = 0 then writeB m addr b else m := rfl
  have hpk := vpeek_any (w := w) addr b.length ha (by omega) h hA
  have hp : peekE m addr b.length = 0 → b.length = 0 ∨ Vm.heldE m addr b.length = 0 := fun e => by
    unfold peekE at e
    split at e
    · exact .inl (by assumption)
    · exact .inr e
  generalize pokeV m addr b = X at *
  generalize peekE m addr b.length = er at *
  generalize peekB m addr b.length = pb at *
  have HX := Lib.hid hx
  clear hx
  obtain ⟨ab, cb, rfl, hc, hc2⟩ := hb.shape
  unfold ptrTo at *
  go_enter Try.func27, Try.ntmps27
  go_wp2_with (first | (at_builtin; refine wl_append rfl _ _ _ _ rfl _ _ rfl rfl ?_) | (at_make; refine wl_make rfl _ _ _ rfl _ _ rfl rfl ?_) | (at_mapUpdate; refine wl_mapUpdate rfl _ _ _ _ rfl _ _ _ rfl rfl rfl ?_) | (at_lookup; refine wl_lookup rfl _ _ _ _ rfl _ _ rfl rfl ?_) | (at_delete; refine wl_delete rfl _ _ _ _ rfl _ _ rfl rfl ?_) | (with_reducible refine wl_len rfl _ _ rfl _ rfl ?_) | (with_reducible refine wl_range rfl _ _ rfl _ rfl ?_) | (with_reducible refine wl_next rfl _ rfl _ rfl ?_) | (with_reducible refine wl_copy rfl _ _ _ _ rfl _ _ rfl rfl ?_) | (with_reducible refine wl_max rfl _ _ _ _ rfl _ _ rfl rfl ?_) | (with_reducible refine wl_min rfl _ _ _ _ rfl _ _ rfl rfl ?_))
  refine hpk.mono ?_
  rintro e W ⟨v', rfl, ho, hk⟩
  clear hpk
  by_cases he : er = 0
  · subst he
    rw [if_pos rfl] at HX
    have hW : Calls Try.prog 39 #[.pointer (some ⟨d, 0, none⟩), .int .u64 (addr : Int), .slice ab b.length cb] W fun e w' => e = .returned (.tuple #[]) ∧ SRep A w' d (writeB m addr b) mb f ∧ Keep A W w' := by
      rcases hp rfl with h0 | hh
      · obtain rfl : b = [] := List.eq_nil_of_length_eq_zero h0
        go_enter Try.func39, Try.ntmps39
        go_wp2_with (first | (at_builtin; refine wl_append rfl _ _ _ _ rfl _ _ rfl rfl ?_) | (at_make; refine wl_make rfl _ _ _ rfl _ _ rfl rfl ?_) | (at_mapUpdate; refine wl_mapUpdate rfl _ _ _ _ rfl _ _ _ rfl rfl rfl ?_) | (at_lookup; refine wl_lookup rfl _ _ _ _ rfl _ _ rfl rfl ?_) | (at_delete; refine wl_delete rfl _ _ _ _ rfl _ _ rfl rfl ?_) | (with_reducible refine wl_len rfl _ _ rfl _ rfl ?_) | (with_reducible refine wl_range rfl _ _ rfl _ rfl ?_) | (with_reducible refine wl_next rfl _ rfl _ rfl ?_) | (with_reducible refine wl_copy rfl _ _ _ _ rfl _ _ rfl rfl ?_) | (with_reducible refine wl_max rfl _ _ _ _ rfl _ _ rfl rfl ?_) | (with_reducible refine wl_min rfl _ _ _ _ rfl _ _ rfl rfl ?_))
        go_loopw [11] (fun iv wr => iv = .int .i64 0 ∧ wr = W) (fun _ _ => 0)
        case atStart => exact ⟨rfl, rfl⟩
        case round =>
          obtain ⟨rfl, rfl⟩ := hrel
          go_wp2_with (first | (at_builtin; refine wl_append rfl _ _ _ _ rfl _ _ rfl rfl ?_) | (at_make; refine wl_make rfl _ _ _ rfl _ _ rfl rfl ?_) | (at_mapUpdate; refine wl_mapUpdate rfl _ _ _ _ rfl _ _ _ rfl rfl rfl ?_) | (at_lookup; refine wl_lookup rfl _ _ _ _ rfl _ _ rfl rfl ?_) | (at_delete; refine wl_delete rfl _ _ _ _ rfl _ _ rfl rfl ?_) | (with_reducible refine wl_len rfl _ _ rfl _ rfl ?_) | (with_reducible refine wl_range rfl _ _ rfl _ rfl ?_) | (with_reducible refine wl_next rfl _ rfl _ rfl ?_) | (with_reducible refine wl_copy rfl _ _ _ _ rfl _ _ rfl rfl ?_) | (with_reducible refine wl_max rfl _ _ _ _ rfl _ _ rfl rfl ?_) | (with_reducible refine wl_min rfl _ _ _ _ rfl _ _ rfl rfl ?_))
          go_end0
          exact ⟨rfl, h.no hA hk, Keep.refl _ _⟩
      · obtain ⟨q1, q2, q3, q4⟩ := held_parts hh
        exact vwrite_any (w := W) addr b q1 q2 (by omega) q4 (h.no hA hk) (fun j hj => Nat.lt_of_lt_of_le (hA j hj) hk.size) (hb.keep hk fun _ _ _ h => h) hBA
    obtain ⟨a2, c2, rfl⟩ : ∃ a2 c2, v' = .slice a2 pb.length c2 := by
      rcases ho.2 with ⟨rfl, e0⟩ | ⟨g, cap, cur, rfl, _⟩
      · exact ⟨none, 0, by rw [e0]⟩
      · exact ⟨_, _, rfl⟩
    clear hp
    go_wp2_with (first | (at_builtin; refine wl_append rfl _ _ _ _ rfl _ _ rfl rfl ?_) | (at_make; refine wl_make rfl _ _ _ rfl _ _ rfl rfl ?_) | (at_mapUpdate; refine wl_mapUpdate rfl _ _ _ _ rfl _ _ _ rfl rfl rfl ?_) | (at_lookup; refine wl_lookup rfl _ _ _ _ rfl _ _ rfl rfl ?_) | (at_delete; refine wl_delete rfl _ _ _ _ rfl _ _ rfl rfl ?_) | (with_reducible refine wl_len rfl _ _ rfl _ rfl ?_) | (with_reducible refine wl_range rfl _ _ rfl _ rfl ?_) | (with_reducible refine wl_next rfl _ rfl _ rfl ?_) | (with_reducible refine wl_copy rfl _ _ _ _ rfl _ _ rfl rfl ?_) | (with_reducible refine wl_max rfl _ _ _ _ rfl _ _ rfl rfl ?_) | (with_reducible refine wl_min rfl _ _ _ _ rfl _ _ rfl rfl ?_))
    refine hW.mono ?_
    rintro e W3 ⟨rfl, h3, hk3⟩
    go_wp2_with (first | (at_builtin; refine wl_append rfl _ _ _ _ rfl _ _ rfl rfl ?_) | (at_make; refine wl_make rfl _ _ _ rfl _ _ rfl rfl ?_) | (at_mapUpdate; refine wl_mapUpdate rfl _ _ _ _ rfl _ _ _ rfl rfl rfl ?_) | (at_lookup; refine wl_lookup rfl _ _ _ _ rfl _ _ rfl rfl ?_) | (at_delete; refine wl_delete rfl _ _ _ _ rfl _ _ rfl rfl ?_) | (with_reducible refine wl_len rfl _ _ rfl _ rfl ?_) | (with_reducible refine wl_range rfl _ _ rfl _ rfl ?_) | (with_reducible refine wl_next rfl _ rfl _ rfl ?_) | (with_reducible refine wl_copy rfl _ _ _ _ rfl _ _ rfl rfl ?_) | (with_reducible refine wl_max rfl _ _ _ _ rfl _ _ rfl rfl ?_) | (with_reducible refine wl_min rfl _ _ _ _ rfl _ _ rfl rfl ?_))
    go_ret
    rw [HX.out]
    exact ⟨rfl, h3, (hk.mono fun _ _ h => h.elim).trans' hk3⟩
  · rw [if_neg he] at HX
    have hne : (er : Int) ≠ 0 := by omega
    obtain ⟨a2, c2, rfl⟩ : ∃ a2 c2, v' = .slice a2 pb.length c2 := by
      rcases ho.2 with ⟨rfl, e0⟩ | ⟨g, cap, cur, rfl, _⟩
      · exact ⟨none, 0, by rw [e0]⟩
      · exact ⟨_, _, rfl⟩
    clear hp
    go_wp2_with (first | (at_builtin; refine wl_append rfl _ _ _ _ rfl _ _ rfl rfl ?_) | (at_make; refine wl_make rfl _ _ _ rfl _ _ rfl rfl ?_) | (at_mapUpdate; refine wl_mapUpdate rfl _ _ _ _ rfl _ _ _ rfl rfl rfl ?_) | (at_lookup; refine wl_lookup rfl _ _ _ _ rfl _ _ rfl rfl ?_) | (at_delete; refine wl_delete rfl _ _ _ _ rfl _ _ rfl rfl ?_) | (with_reducible refine wl_len rfl _ _ rfl _ rfl ?_) | (with_reducible refine wl_range rfl _ _ rfl _ rfl ?_) | (with_reducible refine wl_next rfl _ rfl _ rfl ?_) | (with_reducible refine wl_copy rfl _ _ _ _ rfl _ _ rfl rfl ?_) | (with_reducible refine wl_max rfl _ _ _ _ rfl _ _ rfl rfl ?_) | (with_reducible refine wl_min rfl _ _ _ _ rfl _ _ rfl rfl ?_))
    go_ret
    rw [HX.out]
    exact ⟨rfl, h.no hA hk, hk.mono fun _ _ h => h.elim⟩
end
end Go.Proofs.Ytaoillfofiehpaa
