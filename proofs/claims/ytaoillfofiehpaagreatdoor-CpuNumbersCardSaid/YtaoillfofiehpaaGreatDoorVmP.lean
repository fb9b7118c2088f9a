/- number, Load, Fetch, Peek, Poke, Store. Store, Protect, Unmap, New. Map, Copy. No condition. -/
import Derived.Test.YtaoillfofiehpaaGreatDoorVmS
import Derived.Test.YtaoillfofiehpaaGreatDoorOct
import Derived.Laws.EntriesVeiled
set_option linter.unusedVariables false
set_option linter.unusedSimpArgs false
namespace Go.Dm.Vm
open Go Go.Proofs.YtaoillfofiehpaaGreatDoor Go.Dm.Oc
theorem num_parts {m : V} {addr : Nat} {n : Int} {what : Nat} (h : numE m addr n what = 0) : (n = 1 ∨ n = 2 ∨ n = 4 ∨ n = 8) ∧ heldE m addr n.toNat = 0 ∧ allowedE m addr n.toNat what = 0 := by
  unfold numE at h
  split at h
  · rename_i hn
    split at h
    · rename_i hh
      exact ⟨hn, hh, h⟩
    · rename_i hh
      exact absurd h hh
  · cases h
theorem dirt_ok (p : Pg) (h : PgOk p) : PgOk (dirt p) := ⟨h.al, h.lt, h.pr, h.bl, h.ol, h.fl⟩
end Go.Dm.Vm
namespace Go.Proofs.YtaoillfofiehpaaGreatDoor
open Go.RowKit Go.Dm Go.Dm.Vm Go.Maps Go.Dm.Oc

section
variable {A : Nat → Prop} {w : World} {d mb x y : Nat} {f : Nat → Nat} {m : V}
theorem World.ownsRow.base_le {base base' : Nat} {e : TypeId} {size : Nat} {v : Value} {k : Nat} {xs : List Value} (h : w.ownsRow base e size v k xs) (hb : base' ≤ base) : w.ownsRow base' e size v k xs := by
  refine ⟨h.1, h.2.imp id ?_⟩
  rintro ⟨g, cap, cur, rfl, a, b, r⟩
  exact ⟨g, cap, cur, rfl, Nat.le_trans hb a, b, r⟩
theorem SRep.no (h : SRep A w d m mb f) (hA : ∀ k, A k → k < w.heap.size) {w' : World} (hk : Keep No w w') : SRep A w' d m mb f := h.same fun j hj => hk.block j (hA j hj) fun h => h
set_option maxRecDepth 100000 in
set_option maxHeartbeats 2000000 in
theorem vnumber_any (addr : Nat) (n : Int) (what : Nat) (hw : what < 8) (ha : addr < 18446744073709551616) (h0 : -9223372036854775808 ≤ n) (h1 : n < 9223372036854775808) (h : SRep A w d m mb f) (hA : ∀ k, A k → k < w.heap.size) :
    Calls Tryz.prog 44 #[ptrTo d, .int .u64 (addr : Int), .int .i64 n, .int .i64 (what : Int)] w fun e w' => e = .returned (.int .i64 (numE m addr n what : Nat)) ∧ Keep No w w' := by
  have hdef : numE m addr n what = if n = 1 ∨ n = 2 ∨ n = 4 ∨ n = 8 then if Vm.heldE m addr n.toNat = 0 then allowedE m addr n.toNat what else Vm.heldE m addr n.toNat else 1 := rfl
  by_cases hn : n = 1 ∨ n = 2 ∨ n = 4 ∨ n = 8
  · rw [if_pos hn] at hdef
    have hheld := vheld_any (w := w) addr n.toNat (by omega) ha (by omega) h hA
    have hallow : Vm.heldE m addr n.toNat = 0 → ∀ w', Keep No w w' → _ := fun h0 w' hk => vallowed_any (w := w') addr n.toNat what hw (by omega) (held_parts h0).1 (held_parts h0).2.1 (held_parts h0).2.2.2 (h.no hA hk) (fun k hk2 => Nat.lt_of_lt_of_le (hA k hk2) hk.size)
    have HD := Lib.hid hdef
    have HH := Lib.hid hallow
    clear hdef hallow
    unfold ptrTo at *
    generalize numE m addr n what = X at *
    generalize Vm.heldE m addr n.toNat = er at *
    generalize allowedE m addr n.toNat what = al at *
    rcases hn with rfl | rfl | rfl | rfl
    all_goals
      go_enter Tryz.func44, Tryz.ntmps44
      go_wp2_with fail
      refine hheld.mono ?_
      rintro e W ⟨rfl, hk⟩
      by_cases he : er = 0
      · subst he
        rw [if_pos rfl] at HD
        have hal := HH.out rfl W hk
        clear HH hheld
        go_wp2_with fail
        refine hal.mono ?_
        rintro e W2 ⟨rfl, hk2⟩
        go_wp2_with fail
        go_ret
        rw [HD.out]
        exact ⟨rfl, hk.trans' hk2⟩
      · rw [if_neg he] at HD
        clear HH hheld
        have hne : (er : Int) ≠ 0 := by omega
        go_wp2_with fail
        go_ret
        rw [HD.out]
        exact ⟨rfl, hk⟩
  · rw [if_neg hn] at hdef
    have HD := Lib.hid hdef
    clear hdef
    have n1 : (n != 1) = true := by simp; omega
    have n2 : (n != 2) = true := by simp; omega
    have n4 : (n != 4) = true := by simp; omega
    have n8 : (n != 8) = true := by simp; omega
    clear hn
    unfold ptrTo
    go_enter Tryz.func44, Tryz.ntmps44
    go_wp2_with fail
    go_ret
    rw [HD.out]
    exact ⟨rfl, Keep.refl _ _⟩
set_option maxRecDepth 100000 in
set_option maxHeartbeats 2000000 in
theorem vload_any (addr : Nat) (n : Int) (ha : addr < 18446744073709551616) (h0 : -9223372036854775808 ≤ n) (h1 : n < 9223372036854775808) (h : SRep A w d m mb f) (hA : ∀ k, A k → k < w.heap.size) :
    Calls Tryz.prog 64 #[ptrTo d, .int .u64 (addr : Int), .int .i64 n] w fun e w' => e = .returned (.tuple #[.int .u64 (loadX m addr n : Nat), .int .i64 (loadE m addr n : Nat)]) ∧ Keep No w w' := by
  have hx : loadX m addr n = if loadE m addr n = 0 then leN (readB m addr n.toNat) else 0 := rfl
  have hnum := vnumber_any addr n 4 (by omega) ha h0 h1 h hA
  have hp := @num_parts m addr n 4
  unfold loadE at *
  generalize numE m addr n 4 = er at *
  generalize loadX m addr n = X at *
  have HX := Lib.hid hx
  clear hx
  unfold ptrTo at *
  go_enter Tryz.func64, Tryz.ntmps64
  go_wp2_with fail
  refine hnum.mono ?_
  rintro e W ⟨rfl, hk⟩
  by_cases he : er = 0
  · subst he
    rw [if_pos rfl] at HX
    obtain ⟨hn, hh, _⟩ := hp rfl
    obtain ⟨q1, q2, q3, q4⟩ := held_parts hh
    clear hh hnum
    have hnn : n = (n.toNat : Int) := by omega
    have hn' : n.toNat = 1 ∨ n.toNat = 2 ∨ n.toNat = 4 ∨ n.toNat = 8 := by omega
    generalize n.toNat = k at *
    subst hnn
    clear hn hp
    have hrd := vread_any (w := W) addr k q1 q2 (by omega) q4 (h.no hA hk) (fun j hj => Nat.lt_of_lt_of_le (hA j hj) hk.size)
    unfold ptrTo at hrd
    have hk8 : (k : Int) ≤ 8 := by omega
    go_wp2_with fail
    refine hrd.mono ?_
    rintro e W2 ⟨v', rfl, ho, hk2⟩
    clear hrd
    have hg := oget_any (w := W2) (readB m addr k) 0 k (A := fun j => W.heap.size ≤ j ∧ some j = v'.ownBlock) (by unfold Bts; rw [readB_len]; exact Sl.of_own ho) (by rw [readB_len]; omega) (by omega) (by omega) (by omega)
    rw [(getX_whole _ k (readB_len _ _ _) hn').1, (getX_whole _ k (readB_len _ _ _) hn').2] at hg
    generalize readB m addr k = b at *
    obtain ⟨a2, c2, rfl⟩ : ∃ a2 c2, v' = .slice a2 k c2 := by
      rcases ho.2 with ⟨rfl, e0⟩ | ⟨g, cap, cur, rfl, _⟩
      · exact ⟨none, 0, by rw [e0]⟩
      · exact ⟨_, _, rfl⟩
    go_wp2_with fail
    refine hg.mono ?_
    rintro e W3 ⟨rfl, rfl⟩
    go_wp2_with fail
    go_ret2
    rw [HX.out]
    exact ⟨rfl, hk.trans' hk2⟩
  · rw [if_neg he] at HX
    have hne : (er : Int) ≠ 0 := by omega
    clear hp hnum
    go_wp2_with fail
    go_ret2
    rw [HX.out]
    exact ⟨rfl, hk⟩
set_option maxRecDepth 100000 in
set_option maxHeartbeats 2000000 in
theorem vfetch_any (addr : Nat) (ha : addr < 18446744073709551616) (h : SRep A w d m mb f) (hA : ∀ k, A k → k < w.heap.size) :
    Calls Tryz.prog 27 #[ptrTo d, .int .u64 (addr : Int)] w fun e w' => e = .returned (.tuple #[.int .u64 (fetchX m addr : Nat), .int .i64 (fetchE m addr : Nat)]) ∧ Keep No w w' := by
  have hx : fetchX m addr = if fetchE m addr = 0 then leN (readB m addr 8) else 0 := rfl
  have hy : fetchE m addr = if addr % 8 = 0 then numE m addr 8 1 else 1 := rfl
  have hnum := vnumber_any addr 8 1 (by omega) ha (by omega) (by omega) h hA
  have hp := @num_parts m addr 8 1
  generalize numE m addr 8 1 = er at *
  generalize fetchX m addr = X at *
  generalize fetchE m addr = Y at *
  have hr : (addr : Int).tmod 8 = ((addr % 8 : Nat) : Int) := by rw [IntWalk.rem_in _ _ (by omega)]; omega
  unfold ptrTo at *
  by_cases h8 : addr % 8 = 0
  · rw [if_pos h8] at hy
    rw [h8] at hr
    subst hy
    have HX := Lib.hid hx
    clear hx h8
    go_enter Tryz.func27, Tryz.ntmps27
    go_wp2_with fail
    refine hnum.mono ?_
    rintro e W ⟨rfl, hk⟩
    by_cases he : Y = 0
    · subst he
      rw [if_pos rfl] at HX
      obtain ⟨_, hh, _⟩ := hp rfl
      obtain ⟨q1, q2, q3, q4⟩ := held_parts hh
      clear hh hnum hp
      have hrd := vread_any (w := W) addr 8 q1 q2 (by omega) q4 (h.no hA hk) (fun j hj => Nat.lt_of_lt_of_le (hA j hj) hk.size)
      unfold ptrTo at hrd
      go_wp2_with fail
      refine hrd.mono ?_
      rintro e W2 ⟨v', rfl, ho, hk2⟩
      clear hrd
      have hg := oget_any (w := W2) (readB m addr 8) 0 8 (A := fun j => W.heap.size ≤ j ∧ some j = v'.ownBlock) (by unfold Bts; rw [readB_len]; exact Sl.of_own ho) (by rw [readB_len]; omega) (by omega) (by omega) (by omega)
      rw [show (8 : Int) = ((8 : Nat) : Int) from rfl, (getX_whole _ 8 (readB_len _ _ _) (by omega)).1, (getX_whole _ 8 (readB_len _ _ _) (by omega)).2] at hg
      generalize readB m addr 8 = b at *
      obtain ⟨a2, c2, rfl⟩ : ∃ a2 c2, v' = .slice a2 8 c2 := by
        rcases ho.2 with ⟨rfl, e0⟩ | ⟨g, cap, cur, rfl, _⟩
        · exact ⟨none, 0, by rw [e0]⟩
        · exact ⟨_, _, rfl⟩
      go_wp2_with fail
      refine hg.mono ?_
      rintro e W3 ⟨rfl, rfl⟩
      go_wp2_with fail
      go_ret2
      rw [HX.out]
      exact ⟨rfl, hk.trans' hk2⟩
    · rw [if_neg he] at HX
      have hne : (Y : Int) ≠ 0 := by omega
      clear hp hnum
      go_wp2_with fail
      go_ret2
      rw [HX.out]
      exact ⟨rfl, hk⟩
  · rw [if_neg h8] at hy
    subst hy
    rw [if_neg (by decide)] at hx
    have HX := Lib.hid hx
    have hr' : ((addr % 8 : Nat) : Int) ≠ 0 := by omega
    generalize addr % 8 = r at *
    clear hx hnum hp
    go_enter Tryz.func27, Tryz.ntmps27
    go_wp2_with fail
    go_ret2
    rw [HX.out]
    exact ⟨rfl, Keep.refl _ _⟩
set_option maxRecDepth 100000 in
set_option maxHeartbeats 2000000 in
theorem vpeek_any (addr size : Nat) (ha : addr < 18446744073709551616) (hs : size < 18446744073709551616) (h : SRep A w d m mb f) (hA : ∀ k, A k → k < w.heap.size) :
    Calls Tryz.prog 25 #[ptrTo d, .int .u64 (addr : Int), .int .u64 (size : Int)] w fun e w' => ∃ v', e = .returned (.tuple #[v', .int .i64 (peekE m addr size : Nat)]) ∧ w'.ownsRow w.heap.size 5 1 v' (peekB m addr size).length ((peekB m addr size).map bv) ∧ Keep No w w' := by
  have hx : peekB m addr size = if size = 0 then [] else if Vm.heldE m addr size = 0 then readB m addr size else [] := rfl
  have hy : peekE m addr size = if size = 0 then 0 else Vm.heldE m addr size := rfl
  generalize peekB m addr size = X at *
  generalize peekE m addr size = Y at *
  by_cases h0 : size = 0
  · subst h0
    rw [if_pos rfl] at hx hy
    subst hx hy
    unfold ptrTo
    go_enter Tryz.func25, Tryz.ntmps25
    go_wp2_with fail
    go_ret2
    exact ⟨_, rfl, World.ownsRow_nil _ _ _ _, Keep.refl _ _⟩
  · rw [if_neg h0] at hx hy
    have hheld := vheld_any (w := w) addr size (by omega) ha hs h hA
    have hp := @held_parts m addr size
    have hne0 : (size : Int) ≠ 0 := by omega
    have hne1 : ((size : Int) == 0) = false := by simpa using h0
    generalize Vm.heldE m addr size = er at *
    subst hy
    have HX := Lib.hid hx
    clear hx
    unfold ptrTo at *
    go_enter Tryz.func25, Tryz.ntmps25
    go_wp2_with fail
    refine hheld.mono ?_
    rintro e W ⟨rfl, hk⟩
    by_cases he : Y = 0
    · subst he
      rw [if_pos rfl] at HX
      obtain ⟨q1, q2, q3, q4⟩ := hp rfl
      clear hheld hp
      have hrd := vread_any (w := W) addr size q1 q2 (by omega) q4 (h.no hA hk) (fun j hj => Nat.lt_of_lt_of_le (hA j hj) hk.size)
      unfold ptrTo at hrd
      go_wp2_with fail
      refine hrd.mono ?_
      rintro e W2 ⟨v', rfl, ho, hk2⟩
      clear hrd
      go_wp2_with fail
      go_ret2
      rw [HX.out, readB_len]
      exact ⟨_, rfl, World.ownsRow.base_le ho hk.size, hk.trans' hk2⟩
    · rw [if_neg he] at HX
      have hne : (Y : Int) ≠ 0 := by omega
      clear hp hheld
      go_wp2_with fail
      go_ret2
      rw [HX.out]
      exact ⟨_, rfl, World.ownsRow_nil _ _ _ _, hk⟩
set_option maxRecDepth 100000 in
set_option maxHeartbeats 2000000 in
theorem vpoke_any {B : Nat → Prop} {vb : Value} (addr : Nat) (b : List UInt8) (ha : addr < 18446744073709551616) (hl : b.length ≤ 1099511627776) (h : SRep A w d m mb f) (hA : ∀ k, A k → k < w.heap.size) (hb : Bts B w vb b) (hBA : ∀ k, B k → ¬ A k) :
    Calls Tryz.prog 13 #[ptrTo d, .int .u64 (addr : Int), vb] w fun e w' => e = .returned (.int .i64 (peekE m addr b.length : Nat)) ∧ SRep A w' d (pokeV m addr b) mb f ∧ Keep A w w' := by
  have hx : pokeV m addr b = if peekE m addr b.length = 0 then writeB m addr b else m := rfl
  have hpk := vpeek_any (w := w) addr b.length ha (by omega) h hA
  have hp : peekE m addr b.length = 0 → b.length = 0 ∨ Vm.heldE m addr b.length = 0 := fun e => by
    unfold peekE at e
    split at e
    · exact .inl (by assumption)
    · exact .inr e
  generalize pokeV m addr b = X at *
  generalize peekE m addr b.length = er at *
  generalize peekB m addr b.length = pb at *
  have HX := Lib.hid hx
  clear hx
  obtain ⟨ab, cb, rfl, hc, hc2⟩ := hb.shape
  unfold ptrTo at *
  go_enter Tryz.func13, Tryz.ntmps13
  go_wp2_with fail
  refine hpk.mono ?_
  rintro e W ⟨v', rfl, ho, hk⟩
  clear hpk
  by_cases he : er = 0
  · subst he
    rw [if_pos rfl] at HX
    have hW : Calls Tryz.prog 26 #[.pointer (some ⟨d, 0, none⟩), .int .u64 (addr : Int), .slice ab b.length cb] W fun e w' => e = .returned (.tuple #[]) ∧ SRep A w' d (writeB m addr b) mb f ∧ Keep A W w' := by
      rcases hp rfl with h0 | hh
      · obtain rfl : b = [] := List.eq_nil_of_length_eq_zero h0
        go_enter Tryz.func26, Tryz.ntmps26
        go_wp2_with fail
        go_loopw [11] (fun iv wr => iv = .int .i64 0 ∧ wr = W) (fun _ _ => 0)
        case atStart => exact ⟨rfl, rfl⟩
        case round =>
          obtain ⟨rfl, rfl⟩ := hrel
          go_wp2_with fail
          go_end0
          exact ⟨rfl, h.no hA hk, Keep.refl _ _⟩
      · obtain ⟨q1, q2, q3, q4⟩ := held_parts hh
        exact vwrite_any (w := W) addr b q1 q2 (by omega) q4 (h.no hA hk) (fun j hj => Nat.lt_of_lt_of_le (hA j hj) hk.size) (hb.keep hk fun _ _ _ h => h) hBA
    obtain ⟨a2, c2, rfl⟩ : ∃ a2 c2, v' = .slice a2 pb.length c2 := by
      rcases ho.2 with ⟨rfl, e0⟩ | ⟨g, cap, cur, rfl, _⟩
      · exact ⟨none, 0, by rw [e0]⟩
      · exact ⟨_, _, rfl⟩
    clear hp
    go_wp2_with fail
    refine hW.mono ?_
    rintro e W3 ⟨rfl, h3, hk3⟩
    go_wp2_with fail
    go_ret
    rw [HX.out]
    exact ⟨rfl, h3, (hk.mono fun _ _ h => h.elim).trans' hk3⟩
  · rw [if_neg he] at HX
    have hne : (er : Int) ≠ 0 := by omega
    obtain ⟨a2, c2, rfl⟩ : ∃ a2 c2, v' = .slice a2 pb.length c2 := by
      rcases ho.2 with ⟨rfl, e0⟩ | ⟨g, cap, cur, rfl, _⟩
      · exact ⟨none, 0, by rw [e0]⟩
      · exact ⟨_, _, rfl⟩
    clear hp
    go_wp2_with fail
    go_ret
    rw [HX.out]
    exact ⟨rfl, h.no hA hk, hk.mono fun _ _ h => h.elim⟩
end
end Go.Proofs.YtaoillfofiehpaaGreatDoor
namespace Go.Proofs.YtaoillfofiehpaaGreatDoor
open Go.RowKit Go.Dm Go.Dm.Vm Go.Maps Go.Dm.Oc Go.WideMaps Go.WideElems

section
variable {A : Nat → Prop} {w : World} {d mb x y : Nat} {f : Nat → Nat} {m : V}
/-- a page is made another -/
theorem SRep.upd {w' : World} {g : Pg → Pg} (hg : ∀ p, (g p).addr = p.addr) (hok : ∀ p, PgOk p → PgOk (g p)) (h : SRep A w d m mb f) {p : Pg} {a : Nat} (hat : pageAt m a = some p) (hk : Keep (fun j => j = f p.addr) w w') (hB2 : Blk w' (f p.addr) (pgC (g p)) 71) :
    SRep A w' d (Vm.upd m a g) mb f := by
  obtain ⟨hpm, hpa⟩ := get_mem hat
  have hB := (h.pg p hpm).2
  have hdne : d ≠ f p.addr := fun e => by
    have h1 := h.blk
    rw [e] at h1
    unfold Blk at h1 hB
    rw [hB] at h1
    simp at h1
  refine ⟨h.blk.keep hk hdne, ?_, fun q hq => ?_, fun q hq q' hq' e => ?_, upd_ok h.ok hg hok a, h.Ad, h.Am⟩
  · have e : VL f (Vm.upd m a g) = VL f m := by
      unfold VL Vm.upd
      rw [List.map_map]
      apply List.map_congr_left
      intro q _
      simp only [Function.comp, upd_addr hg]
    rw [e]
    exact h.mp.keep hk (h.mp.ne_blk hB)
  · obtain ⟨q, hqm, rfl⟩ := List.mem_map.1 hq
    rw [upd_addr hg]
    refine ⟨(h.pg q hqm).1, ?_⟩
    by_cases e : q.addr = a
    · have eq : q = p := by
        have h1 := get_of_mem h.ok.srt hqm
        rw [e, hat] at h1
        exact (Option.some.inj h1).symm
      subst eq
      rw [if_pos e]
      exact hB2
    · rw [if_neg e]
      refine (h.pg q hqm).2.keep hk fun e2 => e ?_
      rw [h.inj q hqm p hpm e2]; exact hpa
  · obtain ⟨q, hqm, rfl⟩ := List.mem_map.1 hq
    obtain ⟨q', hqm', rfl⟩ := List.mem_map.1 hq'
    rw [upd_addr hg, upd_addr hg] at e ⊢
    exact h.inj q hqm q' hqm' e
theorem pgC_prot (p : Pg) (q : Nat) : (pgC p).setIfInBounds 0 (.int .i64 (q : Int)) = pgC { p with prot := q } := by
  apply Array.toList_inj.1
  rw [Array.toList_setIfInBounds]
  simp [pgC]
theorem pgC_dirt (p : Pg) : (pgC p).setIfInBounds 1 (.bool true) = pgC (dirt p) := by
  apply Array.toList_inj.1
  rw [Array.toList_setIfInBounds]
  simp [pgC, dirt]
theorem Enters.of1 {f : Nat} (h : ∀ a b : Value, Enters f #[a, b]) (b : Value) : ∀ a, Enters f (#[a] ++ #[b]) := fun a => h a b
set_option maxRecDepth 100000 in
set_option maxHeartbeats 1000000 in
theorem vstore1_any (a : Nat) {p : Pg} (ha : a < 18446744073709551616) (h : SRep A w d m mb f) (hat : pageAt m a = some p) (hx : Blk w x #[ptrTo d] 40) :
    Calls Tryz.prog 79 #[.int .u64 (a : Int), ptrTo x] w fun e w' => e = .returned (.int .i64 0) ∧ SRep A w' d (Vm.upd m a dirt) mb f ∧ Keep (fun j => j = f p.addr) w w' := by
  obtain ⟨hpm, hpa⟩ := get_mem hat
  have hB := (h.pg p hpm).2
  have q0 : w.cell? ⟨x, 0, none⟩ = some (ptrTo d) := hx.cell 0
  have q1 : w.cell? ⟨d, 0, none⟩ = some (.map (some mb)) := h.blk.cell 0
  have hlk := h.lk ha hat w rfl
  have qc : w.cell? ⟨f p.addr, 1, none⟩ = some (.bool p.dirty) := hB.cell 1
  have hfz : w.frozen? ⟨f p.addr, 1, none⟩ = false := hB.frozen _
  have hk : Keep (fun j => j = f p.addr) w (w.setCell ⟨f p.addr, 1, none⟩ (.bool true)) := (Keep.refl (fun j => j = f p.addr) w).setCell (p := ⟨f p.addr, 1, none⟩) (fun _ => rfl) _
  have hB2 := hB.set (i := 1) (.bool true)
  rw [pgC_dirt] at hB2
  have hres := h.upd (g := dirt) (fun _ => rfl) dirt_ok hat hk hB2
  clear hB hB2 hx hpa
  unfold ptrTo at *
  generalize f p.addr = g at *
  go_enter Tryz.func79, Tryz.ntmps79
  go_wp2_with (at_lookup; refine wl_lookup rfl _ _ _ _ rfl _ _ rfl rfl ?_)
  refine .mk hlk ?_
  go_wp2_with fail
  go_ret
  exact ⟨rfl, hres, hk⟩
theorem eraseL_VL (f : Nat → Nat) (m : V) (a : Nat) : eraseL (VL f m) (.int .u64 (a : Int)) = VL f (delP m a) := by
  unfold eraseL VL delP
  rw [List.filter_map]
  congr 1
  apply List.filter_congr
  intro p _
  simp only [Lit.sameKey, Function.comp]
  rw [Bool.eq_iff_iff]
  simp
  omega
theorem SRep.blk_ne (h : SRep A w d m mb f) {p : Pg} (hp : p ∈ m) : mb ≠ f p.addr := h.mp.ne_blk (h.pg p hp).2
/-- a page is gone -/
theorem SRep.del {w' : World} (h : SRep A w d m mb f) (a : Nat) (hm : MapL Tryz.prog 22 w' mb (eraseL (VL f m) (.int .u64 (a : Int)))) (hk : Keep (fun j => j = mb) w w') : SRep A w' d (delP m a) mb f := by
  rw [eraseL_VL] at hm
  have hsub : ∀ p ∈ delP m a, p ∈ m := fun p hp => (List.mem_filter.1 hp).1
  exact ⟨h.blk.keep hk (fun e => h.mp.ne_blk h.blk e.symm), hm, fun p hp => ⟨(h.pg p (hsub p hp)).1, (h.pg p (hsub p hp)).2.keep hk fun e => h.blk_ne (hsub p hp) e.symm⟩, fun p hp q hq => h.inj p (hsub p hp) q (hsub q hq), delP_ok h.ok a, h.Ad, h.Am⟩
/-- what is done page by page, over a span that is there -/
theorem each_upd {g : Pg → Pg} {fn : Nat} {c : Array Value} (addr size : Nat) (hg : ∀ p, (g p).addr = p.addr) (hs : 0 < size) (ha : addr ≤ top) (hz : size ≤ top - addr) (hth : there m addr size = true) (hent : ∀ a, Enters fn (#[a] ++ c)) (h : SRep A w d m mb f) (C : World → Prop) (hC : ∀ w' p, p ∈ m → Keep A w w' → C w' → ∀ w'', Keep (fun j => j = f p.addr) w' w'' → C w'') (hC0 : C w)
    (hstep : ∀ a p m' w', a < 18446744073709551616 → SRep A w' d m' mb f → pageAt m' a = some p → C w' → Calls Tryz.prog fn (#[.int .u64 (a : Int)] ++ c) w' fun e w'' => e = .returned (.int .i64 0) ∧ SRep A w'' d (Vm.upd m' a g) mb f ∧ Keep (fun j => j = f p.addr) w' w'') :
    Calls Tryz.prog 23 #[.int .u64 (addr : Int), .int .u64 (size : Int), .func (.func fn) #[] c] w fun e w' => e = .returned (.int .i64 0) ∧ SRep A w' d (updN g m (pageOf addr) (pagesN addr size)) mb f ∧ Keep A w w' := by
  refine (veach_any addr size (fun k w' => SRep A w' d (updN g m (pageOf addr) k) mb f ∧ Keep A w w' ∧ C w') (fun _ _ => False) hs ha hz hent ⟨h, Keep.refl _ _, hC0⟩ ?_).mono ?_
  · rintro k w' hk ⟨hR, hK, hCk⟩
    have hpl := pageOf_le addr
    have hiff := (pages_step addr size k hs).2 hk
    have ht : top = 4294967296 := rfl
    have hsome := (there_take m addr size).1 hth k hk
    rw [← pageAt_updN m hg (pageOf addr) _ k] at hsome
    obtain ⟨p, hp⟩ := Option.isSome_iff_exists.1 hsome
    refine (hstep _ p _ w' (by omega) hR hp hCk).mono ?_
    rintro e w2 ⟨rfl, hR2, hk2⟩
    obtain ⟨hpm, hpa⟩ := get_mem hp
    have hAp : A (f p.addr) := (hR.pg p hpm).1
    have hpm0 : ∃ q ∈ m, q.addr = p.addr := by
      rw [updN_eq m hg] at hpm
      obtain ⟨q, hq, e⟩ := List.mem_map.1 hpm
      refine ⟨q, hq, ?_⟩
      rw [← e]
      split
      · exact (hg q).symm
      · rfl
    obtain ⟨q, hq, eq⟩ := hpm0
    exact .inl ⟨rfl, hR2, hK.trans hk2 (fun j _ e => by rw [e]; exact hAp), hC w' q hq hK hCk w2 (by rw [eq]; exact hk2)⟩
  · rintro e w' (⟨rfl, hR, hK, _⟩ | ⟨_, _, _, hf⟩)
    · exact ⟨rfl, hR, hK⟩
    · exact hf.elim
set_option maxRecDepth 100000 in
set_option maxHeartbeats 2000000 in
theorem vstore_any (addr : Nat) (n : Int) (X : Nat) (ha : addr < 18446744073709551616) (hX : X < 18446744073709551616) (h0 : -9223372036854775808 ≤ n) (h1 : n < 9223372036854775808) (h : SRep A w d m mb f) (hA : ∀ k, A k → k < w.heap.size) :
    Calls Tryz.prog 63 #[ptrTo d, .int .u64 (addr : Int), .int .i64 n, .int .u64 (X : Int)] w fun e w' => e = .returned (.int .i64 (numE m addr n 2 : Nat)) ∧ SRep A w' d (storeV m addr n X) mb f ∧ Keep A w w' := by
  have hx : storeV m addr n X = if numE m addr n 2 = 0 then updN dirt (writeB m addr (le n.toNat X)) (pageOf addr) (pagesN addr n.toNat) else m := rfl
  have hp := @num_parts m addr n 2
  have hdd : d < w.heap.size := hA d h.Ad
  obtain ⟨er, her⟩ : ∃ er, numE m addr n 2 = er := ⟨_, rfl⟩
  obtain ⟨M, hM⟩ : ∃ M, storeV m addr n X = M := ⟨_, rfl⟩
  rw [her, hM] at hx
  rw [her] at hp ⊢
  rw [hM]
  have HX := Lib.hid hx
  clear hx hM
  unfold ptrTo at *
  go_enter Tryz.func63, Tryz.ntmps63
  go_wp2_with fail
  have hkW0 : Keep No w (w.alloc (.cells #[.pointer (some ⟨d, 0, none⟩)] 40)) := (Keep.refl _ _).alloc _
  have hBW0 : Blk (w.alloc (.cells #[.pointer (some ⟨d, 0, none⟩)] 40)) w.heap.size #[.pointer (some ⟨d, 0, none⟩)] 40 := Blk.new _ _ _
  have hzW0 : (w.alloc (.cells #[.pointer (some ⟨d, 0, none⟩)] 40)).heap.size = w.heap.size + 1 := World.size_alloc _ _
  generalize w.alloc (.cells #[.pointer (some ⟨d, 0, none⟩)] 40) = W0 at *
  have hAW : ∀ k, A k → k < W0.heap.size := fun k hk => Nat.lt_of_lt_of_le (hA k hk) hkW0.size
  have h' := h.no hA hkW0
  have q0 : W0.cell? ⟨w.heap.size, 0, none⟩ = some (.pointer (some ⟨d, 0, none⟩)) := hBW0.cell 0
  have hnum := vnumber_any (w := W0) addr n 2 (by omega) ha h0 h1 h' hAW
  unfold ptrTo at hnum
  rw [her] at hnum
  go_wp2_with fail
  refine hnum.mono ?_
  rintro e W ⟨rfl, hk⟩
  clear hnum her
  have hkW := hkW0.trans' hk
  by_cases he : er = 0
  · subst he
    rw [if_pos rfl] at HX
    obtain ⟨hn, hh, _⟩ := hp rfl
    obtain ⟨q1, q2, q3, q4⟩ := held_parts hh
    clear hh
    have hnn : n = (n.toNat : Int) := by omega
    have hn' : n.toNat = 1 ∨ n.toNat = 2 ∨ n.toNat = 4 ∨ n.toNat = 8 := by omega
    generalize n.toNat = k at *
    subst hnn
    clear hn hp
    have hk8 : (k : Int) ≤ 8 := by omega
    have hB1 := hBW0.keep hk fun h => h
    have q0' : W.cell? ⟨w.heap.size, 0, none⟩ = some (.pointer (some ⟨d, 0, none⟩)) := hB1.cell 0
    go_wp2_with (at_make; refine wl_make rfl _ _ _ rfl _ _ rfl rfl ?_)
    refine rg_make 5 (.int .u8 0) 1 1 Tryz.underlying24 o_info (by omega) (by unfold maxLen; omega) ?_
    intro W1 hb1 hk1
    rw [madeCells_u8] at hb1
    have hrep := Bts.of_blk hb1 (by rw [List.length_replicate]; unfold maxLen; omega)
    rw [List.length_replicate] at hrep
    have hfit : fitsE (List.replicate k (0 : UInt8)).length 0 k = 0 := (getX_whole _ k (List.length_replicate ..) hn').1
    have hset := oset_any (w := W1) (List.replicate k (0 : UInt8)) 0 k X hrep (by rw [List.length_replicate]; omega) (by omega) hX hfit
    have hsx : setX (List.replicate k (0 : UInt8)) 0 k X = le k X := by
      unfold setX
      rw [Int.toNat_natCast]
      exact setR_whole _ _ (by rw [le_len, List.length_replicate])
    rw [hsx, List.length_replicate] at hset
    go_wp2_with fail
    refine hset.mono ?_
    rintro e W2 ⟨v', rfl, ho, hk2⟩
    clear hset
    have hle := le_len k X
    have hkW2 := (hk.trans' hk1).trans' hk2
    have hAW2 : ∀ k, A k → k < W2.heap.size := fun k hk => Nat.lt_of_lt_of_le (hAW k hk) hkW2.size
    have h2 := h'.no hAW hkW2
    have hB2 := hBW0.keep hkW2 fun h => h
    have q0'' : W2.cell? ⟨w.heap.size, 0, none⟩ = some (.pointer (some ⟨d, 0, none⟩)) := hB2.cell 0
    have hwr := vwrite_any (w := W2) (B := fun j => W1.heap.size ≤ j ∧ some j = v'.ownBlock) addr (le k X) q1 (by rw [hle]; exact q2) (by rw [hle]; omega) (by rw [hle]; exact q4) h2 hAW2 (by unfold Bts; rw [hle]; exact Sl.of_own ho) (fun j hj ha => by have := hAW j ha; have h1 := (hk.trans' hk1).size; have h3 := hj.1; omega)
    unfold ptrTo at hwr
    obtain ⟨a2, c2, rfl⟩ : ∃ a2 c2, v' = .slice a2 k c2 := by
      rcases ho.2 with ⟨rfl, e0⟩ | ⟨g, cap, cur, rfl, _⟩
      · exact ⟨none, 0, by rw [e0]⟩
      · exact ⟨_, _, rfl⟩
    go_wp2_with fail
    refine hwr.mono ?_
    rintro e W3 ⟨rfl, h3, hk3⟩
    clear hwr
    have hB3 := hB2.keep hk3 fun ha => absurd (hA _ ha) (Nat.lt_irrefl _)
    have hkW3 : Keep A w W3 := ((hkW0.trans' hkW2).mono fun _ _ h => h.elim).trans' hk3
    have hAW3 : ∀ k, A k → k < W3.heap.size := fun k hk => Nat.lt_of_lt_of_le (hAW2 k hk) hk3.size
    have hea := each_upd (w := W3) (g := dirt) (fn := 79) (c := #[.pointer (some ⟨w.heap.size, 0, none⟩)]) addr k (fun _ => rfl) (by omega) q1 q2 (by rw [there_writeB]; exact q4) (Enters.of1 (fun a b w => by kernel_rfl) _) h3 (fun w' => Blk w' w.heap.size #[ptrTo d] 40) (fun w' p hpm hKA hC w'' hk'' => hC.keep hk'' fun e => by
        have := hA _ (h3.pg p hpm).1
        have e2 : w.heap.size = f p.addr := e
        omega) hB3 (fun a p m' w' haa hR hat hC => vstore1_any a haa hR hat hC)
    go_wp2_with fail
    refine hea.mono ?_
    rintro e W4 ⟨rfl, h4, hk4⟩
    go_wp2_with fail
    go_ret
    rw [HX.out]
    exact ⟨rfl, h4, hkW3.trans' hk4⟩
  · rw [if_neg he] at HX
    have hne : (er : Int) ≠ 0 := by omega
    clear hp
    go_wp2_with fail
    go_ret
    rw [HX.out]
    exact ⟨rfl, h.no hA hkW, hkW.mono fun _ _ h => h.elim⟩
theorem unmap_pages {addr size : Nat} (hm : Vm.may addr size 0 = true) : pagesN addr size = size / 256 ∧ pageOf addr = addr := may_pages hm
set_option maxRecDepth 100000 in
set_option maxHeartbeats 1000000 in
theorem vnew_any (w : World) : Calls Tryz.prog 11 #[] w fun e w' => ∃ mb d f, e = .returned (ptrTo d) ∧ SRep (fun k => w.heap.size ≤ k ∧ k < w'.heap.size) w' d [] mb f ∧ Keep No w w' := by
  have hmm := @run_makeMap
  go_enter Tryz.func11, Tryz.ntmps11
  go_wp2_with fail
  go_ret
  have m1 := MapL.made Tryz.prog 22 w
  have b2 := Blk.new (w.alloc (.map #[] 0)) #[.map (some w.heap.size)] 65
  simp only [World.size_alloc] at b2
  refine ⟨w.heap.size, w.heap.size + 1, fun _ => 0, rfl, ⟨b2, m1.same (Below.heap_alloc _ _ _ (by simp)), fun p hp => (by cases hp), fun p hp => (by cases hp), ⟨List.Pairwise.nil, fun p hp => (by cases hp), Nat.zero_le _⟩, ⟨by omega, by simp⟩, ⟨by omega, by simp; omega⟩⟩, ((Keep.refl _ _).alloc _).alloc _⟩
end
end Go.Proofs.YtaoillfofiehpaaGreatDoor
namespace Go.Dm
open Go Go.RowKit
/-- the walk stops at a store of a number -/
def StGoal (P : Program) (ty : TypeId) (p : Addr) (v : Value) (w : World) (K : World → Prop) : Prop := RunGoal P (Instr.storeAt ty (.pointer (some p)) v) w fun _ w' => K w'
theorem wl_stInt {P : Program} {w : World} {ops : Array Oper} {rest : List Oper} {o : Oper} {a : Act} {Q : Exit → Act → World → Prop} (hgd : o.guard = none) (x y : Operand) (ty : TypeId) (ho : o.op = Op.store ty x y) (p : Addr) (k : IntKind) (n : Int)
    (h1 : a.eval x = .pointer (some p)) (h2 : a.eval y = .int k n) (h : StGoal P ty p (.int k n) w fun w' => wpList P ops Q rest (a.put o.dst undef) w') : wpList P ops Q (o :: rest) a w := by
  obtain ⟨v, w', hr, hk⟩ := h
  refine wpList_plain hgd fun K hK => ?_
  unfold Oper.wp execOp
  simp only [ho, h1, h2, hr, Sem.run_bind, Sem.run_pure, Result.andThen_ok]
  exact hK _ _ hk
/-- the walk stops at a load -/
def LdGoal (P : Program) (ty : TypeId) (p : Addr) (w : World) (K : Value → World → Prop) : Prop := RunGoal P (Instr.loadAt ty (.pointer (some p))) w K
theorem wl_ld {P : Program} {w : World} {ops : Array Oper} {rest : List Oper} {o : Oper} {a : Act} {Q : Exit → Act → World → Prop} (hgd : o.guard = none) (x : Operand) (ty : TypeId) (ho : o.op = Op.load ty x) (p : Addr)
    (h1 : a.eval x = .pointer (some p)) (h : LdGoal P ty p w fun v w' => wpList P ops Q rest (a.put o.dst v) w') : wpList P ops Q (o :: rest) a w := by
  obtain ⟨v, w', hr, hk⟩ := h
  refine wpList_plain hgd fun K hK => ?_
  unfold Oper.wp execOp
  simp only [ho, h1, hr, Sem.run_bind, Sem.run_pure, Result.andThen_ok]
  exact hK _ _ hk
theorem rg_ld {P : Program} {w : World} {g : Nat} {ty t : TypeId} {cs : Array Value} {d : TypeDesc} (hB : Blk w g cs t) (hu : P.underlying ty = some d)
    (hd : (match d with | .struct _ | .array _ _ => true | _ => false) = true) (hi : (P.info? ty).map (·.size) = some cs.size) {K : Value → World → Prop} (h : K (.agg cs) w) : LdGoal P ty ⟨g, 0, none⟩ w K := by
  refine .mk (v := .agg cs) (w' := w) ?_ h
  simp only [Instr.loadAt, Instr.sureAddr, Sem.run_bind, Sem.run_pure, Result.andThen_ok, run_loadVar_row w g t ty cs _ d hB hu hd hi]
end Go.Dm
namespace Go.Proofs.YtaoillfofiehpaaGreatDoor
open Go.RowKit Go.Dm Go.Dm.Vm Go.Maps Go.Dm.Oc Go.WideMaps Go.WideElems

section
variable {A : Nat → Prop} {w : World} {d mb x y z u v : Nat} {f : Nat → Nat} {m : V}
theorem VL_len (f : Nat → Nat) (m : V) : (VL f m).length = m.length := by simp [VL]
theorem delP_free {m : V} {a : Nat} (h : ∀ q ∈ m, q.addr ≠ a) : delP m a = m := by
  unfold delP
  rw [List.filter_eq_self]
  intro p hp
  simpa using h p hp
/-- a page is put -/
theorem SRep.put {w0 w' : World} (h : SRep A w d m mb f) (hA : ∀ k, A k → k < w0.heap.size) {p : Pg} {nb : Nat} (hp : PgOk p) (hfree : ∀ q ∈ m, q.addr ≠ p.addr) (hl : m.length < 512)
    (hm : MapL Tryz.prog 22 w' mb ((.int .u64 (p.addr : Int), ptrTo nb) :: eraseL (VL f m) (.int .u64 (p.addr : Int)))) (hk : Keep (fun j => j = mb) w w') (hnb : w0.heap.size ≤ nb) (hB : Blk w nb (pgC p) 71) :
    SRep (Plus A w0 w') w' d (insP p m) mb (fun x => if x = p.addr then nb else f x) := by
  have hf : ∀ q ∈ m, (if q.addr = p.addr then nb else f q.addr) = f q.addr := fun q hq => if_neg (hfree q hq)
  have hlt : ∀ q ∈ m, f q.addr < nb := fun q hq => Nat.lt_of_lt_of_le (hA _ (h.pg q hq).1) hnb
  have hB2 : Blk w' nb (pgC p) 71 := hB.keep hk fun e => h.mp.ne_blk hB e.symm
  rw [eraseL_VL, delP_free hfree] at hm
  refine ⟨h.blk.keep hk (fun e => h.mp.ne_blk h.blk e.symm), hm.perm ?_, fun q hq => ?_, fun q hq q' hq' e => ?_, insP_ok h.ok hp hfree hl, .inl h.Ad, .inl h.Am⟩
  · have e : VL f m = VL (fun x => if x = p.addr then nb else f x) m := by
      unfold VL
      apply List.map_congr_left
      intro q hq
      simp only [hf q hq]
    rw [e]
    have e2 : ((.int .u64 (p.addr : Int), ptrTo nb) : Lit × Value) = (.int .u64 (p.addr : Int), ptrTo (if p.addr = p.addr then nb else f p.addr)) := by rw [if_pos rfl]
    rw [e2]
    exact ((insP_perm p m).map (fun q : Pg => ((.int .u64 (q.addr : Int), ptrTo (if q.addr = p.addr then nb else f q.addr)) : Lit × Value))).symm
  · rcases insP_mem.1 hq with e | hq
    · rw [e]
      simp only [if_true]
      exact ⟨.inr ⟨hnb, hB2.lt⟩, hB2⟩
    · simp only [hf q hq]
      exact ⟨.inl (h.pg q hq).1, (h.pg q hq).2.keep hk fun e => h.blk_ne hq e.symm⟩
  · have e : (if q.addr = p.addr then nb else f q.addr) = (if q'.addr = p.addr then nb else f q'.addr) := e
    rcases insP_mem.1 hq with e1 | hq <;> rcases insP_mem.1 hq' with e2 | hq'
    · rw [e1, e2]
    · rw [e1, if_pos rfl, hf q' hq'] at e
      have := hlt q' hq'
      omega
    · rw [e2, if_pos rfl, hf q hq] at e
      have := hlt q hq
      omega
    · rw [hf q hq, hf q' hq'] at e
      exact h.inj q hq q' hq' e
theorem str_nonempty {l : List UInt8} (h : l ≠ []) : (({ data := l.toArray } : ByteArray) == { data := #[] }) = false := by
  cases l with
  | nil => exact absurd rfl h
  | cons c r =>
    show ((c :: r).toArray == #[]) = false
    simp
theorem pgC_new (a prot off : Nat) (file : List UInt8) : ((Tryz.zeroCells71.setIfInBounds 0 (.int .i64 (prot : Int))).setIfInBounds 2 (.string ⟨file.toArray⟩)).setIfInBounds 3 (.int .u64 (off : Int)) = pgC ⟨a, prot, false, file, off, noughts⟩ := by kernel_rfl
theorem pgC_new0 (a prot : Nat) (file : List UInt8) : (Tryz.zeroCells71.setIfInBounds 0 (.int .i64 (prot : Int))).setIfInBounds 2 (.string ⟨file.toArray⟩) = pgC ⟨a, prot, false, file, 0, noughts⟩ := by kernel_rfl
set_option maxRecDepth 100000 in
set_option maxHeartbeats 1000000 in
theorem vmap1_any (addr k prot off : Nat) (file : List UInt8) (hA : ∀ k, A k → k < w.heap.size) (ha : addr + 256 * k < 18446744073709551616) (ho : off < 18446744073709551616) (hpk : PgOk (newPg addr prot file off k)) (hfree : ∀ q ∈ m, q.addr ≠ addr + 256 * k) (hl : m.length < 512) (h : SRep A w d m mb f)
    (hx : Blk w x #[.int .i64 (prot : Int)] 3) (hy : Blk w y #[.string ⟨file.toArray⟩] 9) (hz : Blk w z #[.int .u64 (off : Int)] 22) (hu : Blk w u #[.int .u64 (addr : Int)] 22) (hv : Blk w v #[ptrTo d] 40) :
    Calls Tryz.prog 24 #[.int .u64 ((addr + 256 * k : Nat) : Int), ptrTo x, ptrTo y, ptrTo z, ptrTo u, ptrTo v] w fun e w' => e = .returned (.int .i64 0) ∧ (∃ f', SRep (Plus A w w') w' d (insP (newPg addr prot file off k) m) mb f') ∧ Keep (fun j => j = mb) w w' := by
  have q0 : w.cell? ⟨x, 0, none⟩ = some (.int .i64 (prot : Int)) := hx.cell 0
  have q1 : w.cell? ⟨y, 0, none⟩ = some (.string ⟨file.toArray⟩) := hy.cell 0
  have hk1 : Keep No w (w.alloc (.cells ((Tryz.zeroCells71.setIfInBounds 0 (.int .i64 (prot : Int))).setIfInBounds 2 (.string ⟨file.toArray⟩)) 71)) := (Keep.refl _ _).alloc _
  have hS : SRep A (w.alloc (.cells ((Tryz.zeroCells71.setIfInBounds 0 (.int .i64 (prot : Int))).setIfInBounds 2 (.string ⟨file.toArray⟩)) 71)) d m mb f := h.no hA hk1
  obtain ⟨at_, hat⟩ : ∃ at_, at_ = addr + 256 * k := ⟨_, rfl⟩
  rw [← hat] at ha hfree ⊢
  obtain ⟨j, hj⟩ : ∃ j, j = 256 * k := ⟨_, rfl⟩
  have hsub : (at_ : Int) - (addr : Int) = (j : Int) := by omega
  have hwr : IntKind.u64.wrap ((off : Int) + (j : Int)) = (((off + j) % 18446744073709551616 : Nat) : Int) := by rw [IntKind.wrap_u64]; omega
  have hnp : newPg addr prot file off k = ⟨at_, prot, false, file, if file = [] then 0 else (off + j) % 18446744073709551616, noughts⟩ := by unfold newPg; rw [hat, hj]
  rw [hnp] at hpk ⊢
  have hj64 : (j : Int) < 18446744073709551616 := by omega
  have hbl := Blk.new w (pgC ⟨at_, prot, false, file, 0, noughts⟩) 71
  rw [← pgC_new0 at_ prot file] at hbl
  have k1 := (hy.alloc (.cells ((Tryz.zeroCells71.setIfInBounds 0 (.int .i64 (prot : Int))).setIfInBounds 2 (.string ⟨file.toArray⟩)) 71)).cell 0
  have k2 := (hz.alloc (.cells ((Tryz.zeroCells71.setIfInBounds 0 (.int .i64 (prot : Int))).setIfInBounds 2 (.string ⟨file.toArray⟩)) 71)).cell 0
  have k3 := (hu.alloc (.cells ((Tryz.zeroCells71.setIfInBounds 0 (.int .i64 (prot : Int))).setIfInBounds 2 (.string ⟨file.toArray⟩)) 71)).cell 0
  have k4 := (hv.alloc (.cells ((Tryz.zeroCells71.setIfInBounds 0 (.int .i64 (prot : Int))).setIfInBounds 2 (.string ⟨file.toArray⟩)) 71)).cell 0
  have k5 := (h.blk.alloc (.cells ((Tryz.zeroCells71.setIfInBounds 0 (.int .i64 (prot : Int))).setIfInBounds 2 (.string ⟨file.toArray⟩)) 71)).cell 0
  have k6 : (w.alloc (.cells ((Tryz.zeroCells71.setIfInBounds 0 (.int .i64 (prot : Int))).setIfInBounds 2 (.string ⟨file.toArray⟩)) 71)).cell? ⟨w.heap.size, 3, none⟩ = some (.int .u64 0) := hbl.cell 3
  have k7 : (w.alloc (.cells ((Tryz.zeroCells71.setIfInBounds 0 (.int .i64 (prot : Int))).setIfInBounds 2 (.string ⟨file.toArray⟩)) 71)).frozen? ⟨w.heap.size, 3, none⟩ = false := hbl.frozen 3
  simp only [List.getElem?_toArray, List.getElem?_cons_zero] at k1 k2 k3 k4 k5
  have HS := Lib.hid hS
  have HK := Lib.hid hk1
  have HB := Lib.hid hbl
  clear hbl hk1 hS hat hj hnp
  unfold ptrTo at hv k4 ⊢
  by_cases hfe : file = []
  · subst hfe
    rw [if_pos rfl] at hpk ⊢
    have hdf : (({ data := ([] : List UInt8).toArray } : ByteArray) == { data := #[] }) = true := rfl
    have HP := Lib.hid hpk
    clear hpk
    go_enter Tryz.func24, Tryz.ntmps24
    go_wp2_with (at_mapUpdate; refine wl_mapUpdate rfl _ _ _ _ rfl _ _ _ rfl rfl rfl ?_)
    refine rg_store HS.out.mp kU64 Tryz.underlying63 (by rw [VL_len]; unfold maxLen; omega) (kOf ha) ?_
    intro w2 hm2 hk2 hs2
    have hB := HB.out
    rw [pgC_new0 at_ prot []] at hB
    have hres := SRep.put (w0 := w) (p := ⟨at_, prot, false, [], 0, noughts⟩) HS.out hA HP.out hfree hl hm2 hk2 (Nat.le_refl _) hB
    go_wp2_with fail
    go_ret
    exact ⟨rfl, ⟨_, hres⟩, (HK.out.mono fun _ _ h => h.elim).trans' hk2⟩
  · obtain ⟨c0, r0, hcr⟩ := List.exists_cons_of_ne_nil hfe
    have hdf : ({ data := file.toArray } : ByteArray).toList = c0 :: r0 := by rw [ByteArray.toList_eq, hcr]
    have hde : ({ data := #[] } : ByteArray).toList = [] := by rw [ByteArray.toList_eq]
    rw [if_neg hfe] at hpk ⊢
    have HP := Lib.hid hpk
    clear hpk
    generalize (off + j) % 18446744073709551616 = o2 at *
    generalize hbs : ({ data := file.toArray } : ByteArray) = bs at *
    have HBS := Lib.hid hbs
    clear hbs
    go_enter Tryz.func24, Tryz.ntmps24
    go_wp2_with (with_reducible refine wl_stInt rfl _ _ _ rfl _ _ _ rfl rfl ?_)
    obtain ⟨W, hW⟩ : ∃ W, w.alloc (.cells ((Tryz.zeroCells71.setIfInBounds 0 (.int .i64 (prot : Int))).setIfInBounds 2 (.string bs)) 71) = W := ⟨_, rfl⟩
    rw [hW] at HS HK HB k1 k2 k3 k4 k5 k6 k7 ⊢
    clear hW
    have hB := HB.out.set (i := 3) (.int .u64 (o2 : Int))
    rw [← HBS.out, pgC_new at_ prot o2 file] at hB
    have hkS : Keep (fun j => j = w.heap.size) W (W.setCell ⟨w.heap.size, 3, none⟩ (.int .u64 (o2 : Int))) := (Keep.refl (fun j => j = w.heap.size) W).setCell (p := ⟨w.heap.size, 3, none⟩) (fun _ => rfl) _
    have hS := HS.out.keep hkS (fun k hk e => absurd (hA k hk) (by have e2 : k = w.heap.size := e; omega)) (fun k hk => Nat.lt_of_lt_of_le (hA k hk) HK.out.size)
    have j4 := (World.cell?_setCell_other (w := W) (a := ⟨w.heap.size, 3, none⟩) (b := ⟨v, 0, none⟩) (v := .int .u64 (o2 : Int)) (by simp)).trans k4
    have j5 := (World.cell?_setCell_other (w := W) (a := ⟨w.heap.size, 3, none⟩) (b := ⟨d, 0, none⟩) (v := .int .u64 (o2 : Int)) (by simp)).trans k5
    refine .mk (v := ()) (w' := W.setCell ⟨w.heap.size, 3, none⟩ (.int .u64 (o2 : Int))) (by go_simp) ?_
    have hkN : Keep No w (W.setCell ⟨w.heap.size, 3, none⟩ (.int .u64 (o2 : Int))) := HK.out.new (Nat.le_refl _) _
    generalize W.setCell ⟨w.heap.size, 3, none⟩ (.int .u64 (o2 : Int)) = W2 at *
    go_wp2_with (at_mapUpdate; refine wl_mapUpdate rfl _ _ _ _ rfl _ _ _ rfl rfl rfl ?_)
    refine rg_store hS.mp kU64 Tryz.underlying63 (by rw [VL_len]; unfold maxLen; omega) (kOf ha) ?_
    intro w2 hm2 hk2 hs2
    have hres := SRep.put (w0 := w) (p := ⟨at_, prot, false, file, o2, noughts⟩) hS hA HP.out hfree hl hm2 hk2 (Nat.le_refl _) hB
    go_wp2_with fail
    go_ret
    rw [← hcr]
    exact ⟨rfl, ⟨_, hres⟩, (hkN.mono fun _ _ h => h.elim).trans' hk2⟩
theorem Enters.of6 {f : Nat} (h : ∀ a b c d e g : Value, Enters f #[a, b, c, d, e, g]) (b c d e g : Value) : ∀ a, Enters f (#[a] ++ #[b, c, d, e, g]) := fun a => h a b c d e g
theorem mem_VL {T : V} {kl : Lit} {v : Value} (h : (kl, v) ∈ VL f T) : ∃ p ∈ T, kl = .int .u64 (p.addr : Int) ∧ v = ptrTo (f p.addr) := by
  obtain ⟨p, hp, e⟩ := List.mem_map.1 h
  cases e
  exact ⟨p, hp, rfl, rfl⟩
theorem key_u64 {key : Value} {a : Nat} (h : keyOf Tryz.prog 22 key = some (.int .u64 (a : Int))) : key = .int .u64 (a : Int) := by
  obtain ⟨x, rfl, e, _⟩ := Maps.keyOf_int_inv Tryz.underlying22 h
  cases e
  rfl
theorem delP_sub {m : V} {a : Nat} {p : Pg} (h : p ∈ delP m a) : p ∈ m := (List.mem_filter.1 h).1
set_option maxRecDepth 100000 in
set_option maxHeartbeats 4000000 in
theorem vmap_any (addr size off : Nat) (prot : Int) (file : List UInt8) (ha : addr < 18446744073709551616) (hs : size < 18446744073709551616) (ho : off < 18446744073709551616) (hfl : file.length ≤ maxLen) (h : SRep A w d m mb f) (hA : ∀ k, A k → k < w.heap.size) :
    Calls Tryz.prog 12 #[ptrTo d, .int .u64 (addr : Int), .int .u64 (size : Int), .int .i64 prot, .string ⟨file.toArray⟩, .int .u64 (off : Int)] w fun e w' => e = .returned (.int .i64 (mapE m addr size prot : Nat)) ∧ (∃ f', SRep (Plus A w w') w' d (mapV m addr size prot file off) mb f') ∧ Keep A w w' := by
  have hx : mapV m addr size prot file off = if mapE m addr size prot = 0 then mapN m addr prot.toNat file off (size / 256) else m := rfl
  have hy : mapE m addr size prot = if Vm.may addr size prot then if over m addr size then 12 else if size / 256 > 512 - m.length then 13 else 0 else 1 := rfl
  generalize mapV m addr size prot file off = M at *
  generalize mapE m addr size prot = E at *
  have HX := Lib.hid hx
  have HY := Lib.hid hy
  clear hx hy
  have hml := h.ok.len
  have plus0 : ∀ {W : World}, Keep No w W → ∃ f', SRep (Plus A w W) W d m mb f' := fun hk => ⟨f, (h.no hA hk).mono fun j _ ha => .inl ha⟩
  have HP : ∀ W : World, Hid (Keep No w W → ∃ f', SRep (Plus A w W) W d m mb f') := fun W => Lib.hid fun h => plus0 h
  clear plus0
  unfold ptrTo at *
  go_enter Tryz.func12, Tryz.ntmps12
  go_wp2_with fail
  have hkW1 : Keep No w (w.alloc (.cells #[.pointer (some ⟨d, 0, none⟩)] 40)) := (Keep.refl _ _).alloc _
  have hBW1 : Blk (w.alloc (.cells #[.pointer (some ⟨d, 0, none⟩)] 40)) w.heap.size #[.pointer (some ⟨d, 0, none⟩)] 40 := Blk.new _ _ _
  have hzW1 : (w.alloc (.cells #[.pointer (some ⟨d, 0, none⟩)] 40)).heap.size = w.heap.size + 1 := World.size_alloc _ _
  generalize w.alloc (.cells #[.pointer (some ⟨d, 0, none⟩)] 40) = W1 at *
  have hkW2 : Keep No W1 (W1.alloc (.cells #[.int .u64 (addr : Int)] 22)) := (Keep.refl _ _).alloc _
  have hBW2 : Blk (W1.alloc (.cells #[.int .u64 (addr : Int)] 22)) W1.heap.size #[.int .u64 (addr : Int)] 22 := Blk.new _ _ _
  have hzW2 : (W1.alloc (.cells #[.int .u64 (addr : Int)] 22)).heap.size = W1.heap.size + 1 := World.size_alloc _ _
  generalize W1.alloc (.cells #[.int .u64 (addr : Int)] 22) = W2 at *
  have hkW3 : Keep No W2 (W2.alloc (.cells #[.int .i64 prot] 3)) := (Keep.refl _ _).alloc _
  have hBW3 : Blk (W2.alloc (.cells #[.int .i64 prot] 3)) W2.heap.size #[.int .i64 prot] 3 := Blk.new _ _ _
  have hzW3 : (W2.alloc (.cells #[.int .i64 prot] 3)).heap.size = W2.heap.size + 1 := World.size_alloc _ _
  generalize W2.alloc (.cells #[.int .i64 prot] 3) = W3 at *
  have hkW4 : Keep No W3 (W3.alloc (.cells #[.string ⟨file.toArray⟩] 9)) := (Keep.refl _ _).alloc _
  have hBW4 : Blk (W3.alloc (.cells #[.string ⟨file.toArray⟩] 9)) W3.heap.size #[.string ⟨file.toArray⟩] 9 := Blk.new _ _ _
  have hzW4 : (W3.alloc (.cells #[.string ⟨file.toArray⟩] 9)).heap.size = W3.heap.size + 1 := World.size_alloc _ _
  generalize W3.alloc (.cells #[.string ⟨file.toArray⟩] 9) = W4 at *
  have hkW0 : Keep No W4 (W4.alloc (.cells #[.int .u64 (off : Int)] 22)) := (Keep.refl _ _).alloc _
  have hBW0 : Blk (W4.alloc (.cells #[.int .u64 (off : Int)] 22)) W4.heap.size #[.int .u64 (off : Int)] 22 := Blk.new _ _ _
  have hzW0 : (W4.alloc (.cells #[.int .u64 (off : Int)] 22)).heap.size = W4.heap.size + 1 := World.size_alloc _ _
  generalize W4.alloc (.cells #[.int .u64 (off : Int)] 22) = W0 at *
  rw [hzW1] at hBW2 hzW2
  rw [hzW2] at hBW3 hzW3
  rw [hzW3] at hBW4 hzW4
  rw [hzW4] at hBW0
  have hkW : Keep No w W0 := (((hkW1.trans' hkW2).trans' hkW3).trans' hkW4).trans' hkW0
  have b1 := hBW1.keep (((hkW2.trans' hkW3).trans' hkW4).trans' hkW0) fun h => h
  have b2 := hBW2.keep ((hkW3.trans' hkW4).trans' hkW0) fun h => h
  have b3 := hBW3.keep (hkW4.trans' hkW0) fun h => h
  have b4 := hBW4.keep hkW0 fun h => h
  have b5 := hBW0
  have e1 : w.heap.size + 1 + 1 = w.heap.size + 2 := rfl
  have e2 : w.heap.size + 2 + 1 = w.heap.size + 3 := rfl
  have e3 : w.heap.size + 3 + 1 = w.heap.size + 4 := rfl
  rw [hzW4] at hzW0
  have HZ := Lib.hid hzW0
  clear hBW1 hBW2 hBW3 hBW4 hBW0 hkW1 hkW2 hkW3 hkW4 hkW0 hzW1 hzW2 hzW3 hzW4 hzW0 e1 e2 e3
  have hAW : ∀ k, A k → k < W0.heap.size := fun k hk => Nat.lt_of_lt_of_le (hA k hk) hkW.size
  have h' := h.no hA hkW
  have q1 := b1.cell 0
  have q2 := b2.cell 0
  have q3 := b3.cell 0
  have q4 := b4.cell 0
  have q5 := b5.cell 0
  simp only [List.getElem?_toArray, List.getElem?_cons_zero] at q1 q2 q3 q4 q5
  go_wp2_with fail
  refine (vmay_any addr size prot ha hs _).mono ?_
  rintro e X ⟨rfl, rfl⟩
  cases hmay : Vm.may addr size prot with
  | false =>
    rw [hmay] at HY
    have hE := HY.out
    simp only [Bool.false_eq_true, if_false] at hE
    subst hE
    rw [if_neg (by decide)] at HX
    go_wp2_with fail
    go_ret
    rw [HX.out]
    exact ⟨rfl, (HP _).out hkW, hkW.mono fun _ _ h => h.elim⟩
  | true =>
    rw [hmay, if_pos rfl] at HY
    have hpt := may_parts hmay
    have hpg := may_pages hmay
    have qd : W0.cell? ⟨d, 0, none⟩ = some (.map (some mb)) := h'.blk.cell 0
    go_wp2_with (with_reducible refine wl_range rfl _ _ rfl _ rfl ?_)
    refine rg_range h'.mp kU64 Tryz.underlying63 ?_
    intro W1 hr hk1 hs1
    have hap : Apart (VL f m) := h.mp.apart
    go_wp2_with fail
    go_loopw [] (fun wr => ∃ T : V, RangeL Tryz.prog 22 wr mb W0.heap.size (VL f m) (VL f T) ∧ (∀ p ∈ T, p ∈ m) ∧ (∀ p ∈ m, p ∈ T ∨ ¬ (addr ≤ p.addr ∧ p.addr - addr < size)) ∧ Keep No W0 wr) (fun wr => wr.rangeLeft mb W0.heap.size)
    case atStart => exact ⟨m, hr, fun _ h => h, fun _ h => .inl h, hk1⟩
    case round =>
      clear hr hk1 hs1
      obtain ⟨T, hr, hsub, hno, hk⟩ := hrel
      go_wp2_with (with_reducible refine wl_next rfl _ rfl _ rfl ?_)
      refine rg_next hr kU64 ?_ ?_
      · intro e0
        have e1 : T = [] := by simpa [VL] using e0
        subst e1
        have hov : over m addr size = false := by
          unfold over
          rw [List.any_eq_false]
          intro p hp
          have := (hno p hp).resolve_left (by simp)
          simpa using this
        rw [hov] at HY
        simp only [Bool.false_eq_true, if_false] at HY
        clear hno hsub
        have hq : (size : Int).tdiv 256 = ((size / 256 : Nat) : Int) := by rw [Int.tdiv_eq_ediv_of_nonneg (by omega)]; omega
        have p1 := (hk.cell (p := ⟨w.heap.size, 0, none⟩) b1.lt fun h => h).trans q1
        have p2 := (hk.cell (p := ⟨w.heap.size + 1, 0, none⟩) b2.lt fun h => h).trans q2
        have pd := (hk.cell (p := ⟨d, 0, none⟩) h'.blk.lt fun h => h).trans qd
        go_wp2_with (with_reducible refine wl_len rfl _ _ rfl _ rfl ?_)
        refine rg_len hr.map Tryz.underlying63 ?_
        rw [VL_len]
        have hkw := hkW.trans' hk
        have hRN : pagesN addr size = size / 256 := hpg.1
        have hsn : 256 * (size / 256) = size := by omega
        generalize hn : size / 256 = n at *
        clear hn
        by_cases hbig : n > 512 - m.length
        · rw [if_pos hbig] at HY
          have hE := HY.out
          subst hE
          rw [if_neg (by decide)] at HX
          have i1 : (n : Int) > 512 - (m.length : Int) := by omega
          have i0 : (m.length : Int) ≤ 512 := by omega
          generalize m.length = ml at *
          go_wp2_with fail
          go_ret
          rw [HX.out]
          exact ⟨rfl, (HP _).out hkw, hkw.mono fun _ _ h => h.elim⟩
        · rw [if_neg hbig] at HY
          have hE := HY.out
          subst hE
          rw [if_pos rfl] at HX
          have i1 : (n : Int) ≤ 512 - (m.length : Int) := by omega
          have i0 : (m.length : Int) ≤ 512 := by omega
          have c1 := b1.keep hk fun h => h
          have c2 := b2.keep hk fun h => h
          have c3 := b3.keep hk fun h => h
          have c4 := b4.keep hk fun h => h
          have c5 := b5.keep hk fun h => h
          have hpr : prot = (prot.toNat : Int) := by omega
          have hpq : prot.toNat ≤ 7 := by omega
          have hZ := HZ.out
          have hea := veach_any (w := wr) (f := 24) (c := #[ptrTo (w.heap.size + 1 + 1), ptrTo (w.heap.size + 1 + 1 + 1), ptrTo (w.heap.size + 1 + 1 + 1 + 1), ptrTo (w.heap.size + 1), ptrTo w.heap.size]) addr size
            (fun k w' => (∃ f', SRep (Plus A wr w') w' d (mapN m addr prot.toNat file off k) mb f') ∧ Keep (fun j => j = mb) wr w') (fun _ _ => False) hpt.2.2.1 hpt.2.2.2.1 hpt.2.2.2.2.1 (Enters.of6 (fun a b c d e g w => by kernel_rfl) _ _ _ _ _) ⟨⟨f, (h.no hA hkw).mono fun j _ ha => .inl ha⟩, Keep.refl _ _⟩ (fun k w' hk2 hR => by
              obtain ⟨⟨f', hR⟩, hK⟩ := hR
              rw [hRN] at hk2
              have ht : top = 4294967296 := rfl
              have hmbA : mb < w.heap.size := hA _ h.Am
              have hfree := mapN_free (prot := prot.toNat) (file := file) (off := off) (k := k) hov (by omega)
              have hpk := newPg_ok (prot := prot.toNat) (file := file) (off := off) (k := k) hpt.1 (show addr + size ≤ top by have := hpt.2.2.2.1; have := hpt.2.2.2.2.1; omega) hpq hfl (show 256 * k < size by omega)
              rw [hpg.2]
              have hbnd : ∀ j, Plus A wr w' j → j < w'.heap.size := fun j hj => hj.elim (fun ha => Nat.lt_of_lt_of_le (hA j ha) (Nat.le_trans hkw.size hK.size)) fun h => h.2
              refine (vmap1_any addr k prot.toNat off file hbnd (by omega) ho hpk hfree (by rw [mapN_len]; omega) hR (by rw [← hpr]; exact c3.keep hK fun e => by have e2 : w.heap.size + 1 + 1 = mb := e; omega) (c4.keep hK fun e => by have e2 : w.heap.size + 1 + 1 + 1 = mb := e; omega) (c5.keep hK fun e => by have e2 : w.heap.size + 1 + 1 + 1 + 1 = mb := e; omega) (c2.keep hK fun e => by have e2 : w.heap.size + 1 = mb := e; omega) (c1.keep hK fun e => by have e2 : w.heap.size = mb := e; omega)).mono ?_
              rintro e w2 ⟨rfl, ⟨f2, hR2⟩, hk3⟩
              refine .inl ⟨rfl, ⟨f2, hR2.mono fun j hj ha => ?_⟩, hK.trans' hk3⟩
              rcases ha with (ha | ha) | ha
              · exact .inl ha
              · exact .inr ⟨ha.1, hj⟩
              · exact .inr ⟨Nat.le_trans hK.size ha.1, hj⟩)
          rw [hRN] at hea
          unfold ptrTo at hea
          clear hpr
          generalize m.length = ml at *
          go_wp2_with fail
          refine hea.mono ?_
          rintro e W4 (⟨rfl, ⟨f2, h4⟩, hk4⟩ | ⟨_, _, _, hf⟩)
          · go_wp2_with fail
            go_ret
            rw [HX.out]
            refine ⟨rfl, ⟨f2, h4.mono fun j hj ha => ?_⟩, (hkw.mono fun _ _ h => h.elim).trans hk4 fun j _ e => by rw [show j = mb from e]; exact h.Am⟩
            rcases ha with ha | ha
            · exact .inl ha
            · exact .inr ⟨Nat.le_trans hkw.size ha.1, ha.2⟩
          · exact hf.elim
      · intro key v kl w' hkey hmem hr' hlt hk' hs hen
        obtain ⟨p, hpT, rfl, rfl⟩ := mem_VL hmem
        obtain rfl := key_u64 hkey
        rw [eraseL_VL] at hr'
        have hkw' : Keep No W0 w' := hk.trans hk' (fun j hj e => by have e2 : j = W0.heap.size := e; omega)
        have qa : w'.cell? ⟨w.heap.size + 1, 0, none⟩ = some (.int .u64 (addr : Int)) := (hkw'.cell (p := ⟨w.heap.size + 1, 0, none⟩) b2.lt fun h => h).trans q2
        have hpok := h.ok.pg p (hsub p hpT)
        have hplt := hpok.lt
        have ht : top = 4294967296 := rfl
        unfold ptrTo at hen
        have hsub' : ∀ q ∈ delP T p.addr, q ∈ m := fun q hq => hsub q (delP_sub hq)
        have hpm := hsub p hpT
        by_cases hov : addr ≤ p.addr ∧ p.addr - addr < size
        · have hot : over m addr size = true := by
            unfold over
            rw [List.any_eq_true]
            exact ⟨p, hpm, by simpa using hov⟩
          rw [hot, if_pos rfl] at HY
          have hE := HY.out
          subst hE
          rw [if_neg (by decide)] at HX
          have i1 : (addr : Int) ≤ (p.addr : Int) := by omega
          have i2 : (p.addr : Int) - (addr : Int) < (size : Int) := by omega
          clear hno hsub hpok
          generalize f p.addr = g at *
          generalize p.addr = pa at *
          go_wp2_with fail
          go_ret
          rw [HX.out]
          have hk0 := hkW.trans' hkw'
          exact ⟨rfl, (HP _).out hk0, hk0.mono fun _ _ h => h.elim⟩
        · have hno' : ∀ q ∈ m, q ∈ delP T p.addr ∨ ¬ (addr ≤ q.addr ∧ q.addr - addr < size) := fun q hq => by
            by_cases e : q.addr = p.addr
            · exact .inr (by rw [e]; exact hov)
            · exact (hno q hq).imp (fun h => List.mem_filter.2 ⟨h, by simpa using e⟩) id
          have i0 : (p.addr : Int) < (addr : Int) ∨ ((addr : Int) ≤ (p.addr : Int) ∧ (p.addr : Int) - (addr : Int) ≥ (size : Int)) := by omega
          clear hno hsub hpok hov
          generalize f p.addr = g at *
          generalize p.addr = pa at *
          rcases i0 with i1 | ⟨i1, i2⟩
          all_goals
            go_wp2_with fail
            go_roundw
            case rel => exact ⟨_, hr', hsub', hno', hkw'⟩
            case measure => exact hlt
end
end Go.Proofs.YtaoillfofiehpaaGreatDoor
