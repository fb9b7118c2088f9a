/- number, Load, Fetch, Peek, Poke, Store. Store, Protect, Unmap, New. No condition. -/
import Derived.Test.YtaoillfofiehpaaOct
import Derived.Laws.EntriesVeiled
set_option linter.unusedVariables false
set_option linter.unusedSimpArgs false
namespace Go.Dm.Vm
open Go Go.Proofs.Ytaoillfofiehpaa Go.Dm.Oc
theorem num_parts {m : V} {addr : Nat} {n : Int} {what : Nat} (h : numE m addr n what = 0) : (n = 1 ∨ n = 2 ∨ n = 4 ∨ n = 8) ∧ heldE m addr n.toNat = 0 ∧ allowedE m addr n.toNat what = 0 := by
  unfold numE at h
  split at h
  · rename_i hn
    split at h
    · rename_i hh
      exact ⟨hn, hh, h⟩
    · rename_i hh
      exact absurd h hh
  · cases h
theorem dirt_ok (p : Pg) (h : PgOk p) : PgOk (dirt p) := ⟨h.al, h.lt, h.pr, h.bl, h.ol, h.fl⟩
end Go.Dm.Vm
namespace Go.Proofs.Ytaoillfofiehpaa
open Go.RowKit Go.Dm Go.Dm.Vm Go.Maps Go.Dm.Oc

section
variable {A : Nat → Prop} {w : World} {d mb x y : Nat} {f : Nat → Nat} {m : V}
theorem World.ownsRow.base_le {base base' : Nat} {e : TypeId} {size : Nat} {v : Value} {k : Nat} {xs : List Value} (h : w.ownsRow base e size v k xs) (hb : base' ≤ base) : w.ownsRow base' e size v k xs := by
  refine ⟨h.1, h.2.imp id ?_⟩
  rintro ⟨g, cap, cur, rfl, a, b, r⟩
  exact ⟨g, cap, cur, rfl, Nat.le_trans hb a, b, r⟩
theorem SRep.no (h : SRep A w d m mb f) (hA : ∀ k, A k → k < w.heap.size) {w' : World} (hk : Keep No w w') : SRep A w' d m mb f := h.same fun j hj => hk.block j (hA j hj) fun h => h
set_option maxRecDepth 100000 in
set_option maxHeartbeats 2000000 in
theorem vnumber_any (addr : Nat) (n : Int) (what : Nat) (hw : what < 8) (ha : addr < 18446744073709551616) (h0 : -9223372036854775808 ≤ n) (h1 : n < 9223372036854775808) (h : SRep A w d m mb f) (hA : ∀ k, A k → k < w.heap.size) :
    Calls Try.prog 37 #[ptrTo d, .int .u64 (addr : Int), .int .i64 n, .int .i64 (what : Int)] w fun e w' => e = .returned (.int .i64 (numE m addr n what : Nat)) ∧ Keep No w w' := by
  have hdef : numE m addr n what = if n = 1 ∨ n = 2 ∨ n = 4 ∨ n = 8 then if Vm.heldE m addr n.toNat = 0 then allowedE m addr n.toNat what else Vm.heldE m addr n.toNat else 1 := rfl
  by_cases hn : n = 1 ∨ n = 2 ∨ n = 4 ∨ n = 8
  · rw [if_pos hn] at hdef
    have hheld := vheld_any (w := w) addr n.toNat (by omega) ha (by omega) h hA
    have hallow : Vm.heldE m addr n.toNat = 0 → ∀ w', Keep No w w' → _ := fun h0 w' hk => vallowed_any (w := w') addr n.toNat what hw (by omega) (held_parts h0).1 (held_parts h0).2.1 (held_parts h0).2.2.2 (h.no hA hk) (fun k hk2 => Nat.lt_of_lt_of_le (hA k hk2) hk.size)
    have HD := Lib.hid hdef
    have HH := Lib.hid hallow
    clear hdef hallow
    unfold ptrTo at *
    generalize numE m addr n what = X at *
    generalize Vm.heldE m addr n.toNat = er at *
    generalize allowedE m addr n.toNat what = al at *
    rcases hn with rfl | rfl | rfl | rfl
    all_goals
      go_enter Try.func37, Try.ntmps37
      go_wp2_with fail
      refine hheld.mono ?_
      rintro e W ⟨rfl, hk⟩
      by_cases he : er = 0
      · subst he
        rw [if_pos rfl] at HD
        have hal := HH.out rfl W hk
        clear HH hheld
        go_wp2_with fail
        refine hal.mono ?_
        rintro e W2 ⟨rfl, hk2⟩
        go_wp2_with fail
        go_ret
        rw [HD.out]
        exact ⟨rfl, hk.trans' hk2⟩
      · rw [if_neg he] at HD
        clear HH hheld
        have hne : (er : Int) ≠ 0 := by omega
        go_wp2_with fail
        go_ret
        rw [HD.out]
        exact ⟨rfl, hk⟩
  · rw [if_neg hn] at hdef
    have HD := Lib.hid hdef
    clear hdef
    have n1 : (n != 1) = true := by simp; omega
    have n2 : (n != 2) = true := by simp; omega
    have n4 : (n != 4) = true := by simp; omega
    have n8 : (n != 8) = true := by simp; omega
    clear hn
    unfold ptrTo
    go_enter Try.func37, Try.ntmps37
    go_wp2_with fail
    go_ret
    rw [HD.out]
    exact ⟨rfl, Keep.refl _ _⟩
set_option maxRecDepth 100000 in
set_option maxHeartbeats 2000000 in
theorem vload_any (addr : Nat) (n : Int) (ha : addr < 18446744073709551616) (h0 : -9223372036854775808 ≤ n) (h1 : n < 9223372036854775808) (h : SRep A w d m mb f) (hA : ∀ k, A k → k < w.heap.size) :
    Calls Try.prog 19 #[ptrTo d, .int .u64 (addr : Int), .int .i64 n] w fun e w' => e = .returned (.tuple #[.int .u64 (loadX m addr n : Nat), .int .i64 (loadE m addr n : Nat)]) ∧ Keep No w w' := by
  have hx : loadX m addr n = if loadE m addr n = 0 then leN (readB m addr n.toNat) else 0 := rfl
  have hnum := vnumber_any addr n 4 (by omega) ha h0 h1 h hA
  have hp := @num_parts m addr n 4
  unfold loadE at *
  generalize numE m addr n 4 = er at *
  generalize loadX m addr n = X at *
  have HX := Lib.hid hx
  clear hx
  unfold ptrTo at *
  go_enter Try.func19, Try.ntmps19
  go_wp2_with fail
  refine hnum.mono ?_
  rintro e W ⟨rfl, hk⟩
  by_cases he : er = 0
  · subst he
    rw [if_pos rfl] at HX
    obtain ⟨hn, hh, _⟩ := hp rfl
    obtain ⟨q1, q2, q3, q4⟩ := held_parts hh
    clear hh hnum
    have hnn : n = (n.toNat : Int) := by omega
    have hn' : n.toNat = 1 ∨ n.toNat = 2 ∨ n.toNat = 4 ∨ n.toNat = 8 := by omega
    generalize n.toNat = k at *
    subst hnn
    clear hn hp
    have hrd := vread_any (w := W) addr k q1 q2 (by omega) q4 (h.no hA hk) (fun j hj => Nat.lt_of_lt_of_le (hA j hj) hk.size)
    unfold ptrTo at hrd
    have hk8 : (k : Int) ≤ 8 := by omega
    go_wp2_with fail
    refine hrd.mono ?_
    rintro e W2 ⟨v', rfl, ho, hk2⟩
    clear hrd
    have hg := oget_any (w := W2) (readB m addr k) 0 k (A := fun j => W.heap.size ≤ j ∧ some j = v'.ownBlock) (by unfold Bts; rw [readB_len]; exact Sl.of_own ho) (by rw [readB_len]; omega) (by omega) (by omega) (by omega)
    rw [(getX_whole _ k (readB_len _ _ _) hn').1, (getX_whole _ k (readB_len _ _ _) hn').2] at hg
    generalize readB m addr k = b at *
    obtain ⟨a2, c2, rfl⟩ : ∃ a2 c2, v' = .slice a2 k c2 := by
      rcases ho.2 with ⟨rfl, e0⟩ | ⟨g, cap, cur, rfl, _⟩
      · exact ⟨none, 0, by rw [e0]⟩
      · exact ⟨_, _, rfl⟩
    go_wp2_with fail
    refine hg.mono ?_
    rintro e W3 ⟨rfl, rfl⟩
    go_wp2_with fail
    go_ret2
    rw [HX.out]
    exact ⟨rfl, hk.trans' hk2⟩
  · rw [if_neg he] at HX
    have hne : (er : Int) ≠ 0 := by omega
    clear hp hnum
    go_wp2_with fail
    go_ret2
    rw [HX.out]
    exact ⟨rfl, hk⟩
set_option maxRecDepth 100000 in
set_option maxHeartbeats 2000000 in
theorem vfetch_any (addr : Nat) (ha : addr < 18446744073709551616) (h : SRep A w d m mb f) (hA : ∀ k, A k → k < w.heap.size) :
    Calls Try.prog 21 #[ptrTo d, .int .u64 (addr : Int)] w fun e w' => e = .returned (.tuple #[.int .u64 (fetchX m addr : Nat), .int .i64 (fetchE m addr : Nat)]) ∧ Keep No w w' := by
  have hx : fetchX m addr = if fetchE m addr = 0 then leN (readB m addr 8) else 0 := rfl
  have hy : fetchE m addr = if addr % 8 = 0 then numE m addr 8 1 else 1 := rfl
  have hnum := vnumber_any addr 8 1 (by omega) ha (by omega) (by omega) h hA
  have hp := @num_parts m addr 8 1
  generalize numE m addr 8 1 = er at *
  generalize fetchX m addr = X at *
  generalize fetchE m addr = Y at *
  have hr : (addr : Int).tmod 8 = ((addr % 8 : Nat) : Int) := by rw [IntWalk.rem_in _ _ (by omega)]; omega
  unfold ptrTo at *
  by_cases h8 : addr % 8 = 0
  · rw [if_pos h8] at hy
    rw [h8] at hr
    subst hy
    have HX := Lib.hid hx
    clear hx h8
    go_enter Try.func21, Try.ntmps21
    go_wp2_with fail
    refine hnum.mono ?_
    rintro e W ⟨rfl, hk⟩
    by_cases he : Y = 0
    · subst he
      rw [if_pos rfl] at HX
      obtain ⟨_, hh, _⟩ := hp rfl
      obtain ⟨q1, q2, q3, q4⟩ := held_parts hh
      clear hh hnum hp
      have hrd := vread_any (w := W) addr 8 q1 q2 (by omega) q4 (h.no hA hk) (fun j hj => Nat.lt_of_lt_of_le (hA j hj) hk.size)
      unfold ptrTo at hrd
      go_wp2_with fail
      refine hrd.mono ?_
      rintro e W2 ⟨v', rfl, ho, hk2⟩
      clear hrd
      have hg := oget_any (w := W2) (readB m addr 8) 0 8 (A := fun j => W.heap.size ≤ j ∧ some j = v'.ownBlock) (by unfold Bts; rw [readB_len]; exact Sl.of_own ho) (by rw [readB_len]; omega) (by omega) (by omega) (by omega)
      rw [show (8 : Int) = ((8 : Nat) : Int) from rfl, (getX_whole _ 8 (readB_len _ _ _) (by omega)).1, (getX_whole _ 8 (readB_len _ _ _) (by omega)).2] at hg
      generalize readB m addr 8 = b at *
      obtain ⟨a2, c2, rfl⟩ : ∃ a2 c2, v' = .slice a2 8 c2 := by
        rcases ho.2 with ⟨rfl, e0⟩ | ⟨g, cap, cur, rfl, _⟩
        · exact ⟨none, 0, by rw [e0]⟩
        · exact ⟨_, _, rfl⟩
      go_wp2_with fail
      refine hg.mono ?_
      rintro e W3 ⟨rfl, rfl⟩
      go_wp2_with fail
      go_ret2
      rw [HX.out]
      exact ⟨rfl, hk.trans' hk2⟩
    · rw [if_neg he] at HX
      have hne : (Y : Int) ≠ 0 := by omega
      clear hp hnum
      go_wp2_with fail
      go_ret2
      rw [HX.out]
      exact ⟨rfl, hk⟩
  · rw [if_neg h8] at hy
    subst hy
    rw [if_neg (by decide)] at hx
    have HX := Lib.hid hx
    have hr' : ((addr % 8 : Nat) : Int) ≠ 0 := by omega
    generalize addr % 8 = r at *
    clear hx hnum hp
    go_enter Try.func21, Try.ntmps21
    go_wp2_with fail
    go_ret2
    rw [HX.out]
    exact ⟨rfl, Keep.refl _ _⟩
set_option maxRecDepth 100000 in
set_option maxHeartbeats 2000000 in
theorem vpeek_any (addr size : Nat) (ha : addr < 18446744073709551616) (hs : size < 18446744073709551616) (h : SRep A w d m mb f) (hA : ∀ k, A k → k < w.heap.size) :
    Calls Try.prog 24 #[ptrTo d, .int .u64 (addr : Int), .int .u64 (size : Int)] w fun e w' => ∃ v', e = .returned (.tuple #[v', .int .i64 (peekE m addr size : Nat)]) ∧ w'.ownsRow w.heap.size 5 1 v' (peekB m addr size).length ((peekB m addr size).map bv) ∧ Keep No w w' := by
  have hx : peekB m addr size = if size = 0 then [] else if Vm.heldE m addr size = 0 then readB m addr size else [] := rfl
  have hy : peekE m addr size = if size = 0 then 0 else Vm.heldE m addr size := rfl
  generalize peekB m addr size = X at *
  generalize peekE m addr size = Y at *
  by_cases h0 : size = 0
  · subst h0
    rw [if_pos rfl] at hx hy
    subst hx hy
    unfold ptrTo
    go_enter Try.func24, Try.ntmps24
    go_wp2_with fail
    go_ret2
    exact ⟨_, rfl, World.ownsRow_nil _ _ _ _, Keep.refl _ _⟩
  · rw [if_neg h0] at hx hy
    have hheld := vheld_any (w := w) addr size (by omega) ha hs h hA
    have hp := @held_parts m addr size
    have hne0 : (size : Int) ≠ 0 := by omega
    have hne1 : ((size : Int) == 0) = false := by simpa using h0
    generalize Vm.heldE m addr size = er at *
    subst hy
    have HX := Lib.hid hx
    clear hx
    unfold ptrTo at *
    go_enter Try.func24, Try.ntmps24
    go_wp2_with fail
    refine hheld.mono ?_
    rintro e W ⟨rfl, hk⟩
    by_cases he : Y = 0
    · subst he
      rw [if_pos rfl] at HX
      obtain ⟨q1, q2, q3, q4⟩ := hp rfl
      clear hheld hp
      have hrd := vread_any (w := W) addr size q1 q2 (by omega) q4 (h.no hA hk) (fun j hj => Nat.lt_of_lt_of_le (hA j hj) hk.size)
      unfold ptrTo at hrd
      go_wp2_with fail
      refine hrd.mono ?_
      rintro e W2 ⟨v', rfl, ho, hk2⟩
      clear hrd
      go_wp2_with fail
      go_ret2
      rw [HX.out, readB_len]
      exact ⟨_, rfl, World.ownsRow.base_le ho hk.size, hk.trans' hk2⟩
    · rw [if_neg he] at HX
      have hne : (Y : Int) ≠ 0 := by omega
      clear hp hheld
      go_wp2_with fail
      go_ret2
      rw [HX.out]
      exact ⟨_, rfl, World.ownsRow_nil _ _ _ _, hk⟩
set_option maxRecDepth 100000 in
set_option maxHeartbeats 2000000 in
theorem vpoke_any {B : Nat → Prop} {vb : Value} (addr : Nat) (b : List UInt8) (ha : addr < 18446744073709551616) (hl : b.length ≤ 1099511627776) (h : SRep A w d m mb f) (hA : ∀ k, A k → k < w.heap.size) (hb : Bts B w vb b) (hBA : ∀ k, B k → ¬ A k) :
    Calls Try.prog 27 #[ptrTo d, .int .u64 (addr : Int), vb] w fun e w' => e = .returned (.int .i64 (peekE m addr b.length : Nat)) ∧ SRep A w' d (pokeV m addr b) mb f ∧ Keep A w w' := by
  have hx : pokeV m addr b = if peekE m addr b.length = 0 then writeB m addr b else m := rfl
  have hpk := vpeek_any (w := w) addr b.length ha (by omega) h hA
  have hp : peekE m addr b.length = 0 → b.length = 0 ∨ Vm.heldE m addr b.length = 0 := fun e => by
    unfold peekE at e
    split at e
    · exact .inl (by assumption)
    · exact .inr e
  generalize pokeV m addr b = X at *
  generalize peekE m addr b.length = er at *
  generalize peekB m addr b.length = pb at *
  have HX := Lib.hid hx
  clear hx
  obtain ⟨ab, cb, rfl, hc, hc2⟩ := hb.shape
  unfold ptrTo at *
  go_enter Try.func27, Try.ntmps27
  go_wp2_with fail
  refine hpk.mono ?_
  rintro e W ⟨v', rfl, ho, hk⟩
  clear hpk
  by_cases he : er = 0
  · subst he
    rw [if_pos rfl] at HX
    have hW : Calls Try.prog 39 #[.pointer (some ⟨d, 0, none⟩), .int .u64 (addr : Int), .slice ab b.length cb] W fun e w' => e = .returned (.tuple #[]) ∧ SRep A w' d (writeB m addr b) mb f ∧ Keep A W w' := by
      rcases hp rfl with h0 | hh
      · obtain rfl : b = [] := List.eq_nil_of_length_eq_zero h0
        go_enter Try.func39, Try.ntmps39
        go_wp2_with fail
        go_loopw [11] (fun iv wr => iv = .int .i64 0 ∧ wr = W) (fun _ _ => 0)
        case atStart => exact ⟨rfl, rfl⟩
        case round =>
          obtain ⟨rfl, rfl⟩ := hrel
          go_wp2_with fail
          go_end0
          exact ⟨rfl, h.no hA hk, Keep.refl _ _⟩
      · obtain ⟨q1, q2, q3, q4⟩ := held_parts hh
        exact vwrite_any (w := W) addr b q1 q2 (by omega) q4 (h.no hA hk) (fun j hj => Nat.lt_of_lt_of_le (hA j hj) hk.size) (hb.keep hk fun _ _ _ h => h) hBA
    obtain ⟨a2, c2, rfl⟩ : ∃ a2 c2, v' = .slice a2 pb.length c2 := by
      rcases ho.2 with ⟨rfl, e0⟩ | ⟨g, cap, cur, rfl, _⟩
      · exact ⟨none, 0, by rw [e0]⟩
      · exact ⟨_, _, rfl⟩
    clear hp
    go_wp2_with fail
    refine hW.mono ?_
    rintro e W3 ⟨rfl, h3, hk3⟩
    go_wp2_with fail
    go_ret
    rw [HX.out]
    exact ⟨rfl, h3, (hk.mono fun _ _ h => h.elim).trans' hk3⟩
  · rw [if_neg he] at HX
    have hne : (er : Int) ≠ 0 := by omega
    obtain ⟨a2, c2, rfl⟩ : ∃ a2 c2, v' = .slice a2 pb.length c2 := by
      rcases ho.2 with ⟨rfl, e0⟩ | ⟨g, cap, cur, rfl, _⟩
      · exact ⟨none, 0, by rw [e0]⟩
      · exact ⟨_, _, rfl⟩
    clear hp
    go_wp2_with fail
    go_ret
    rw [HX.out]
    exact ⟨rfl, h.no hA hk, hk.mono fun _ _ h => h.elim⟩
end
end Go.Proofs.Ytaoillfofiehpaa
namespace Go.Proofs.Ytaoillfofiehpaa
open Go.RowKit Go.Dm Go.Dm.Vm Go.Maps Go.Dm.Oc Go.WideMaps Go.WideElems

section
variable {A : Nat → Prop} {w : World} {d mb x y : Nat} {f : Nat → Nat} {m : V}
/-- a page is made another -/
theorem SRep.upd {w' : World} {g : Pg → Pg} (hg : ∀ p, (g p).addr = p.addr) (hok : ∀ p, PgOk p → PgOk (g p)) (h : SRep A w d m mb f) {p : Pg} {a : Nat} (hat : pageAt m a = some p) (hk : Keep (fun j => j = f p.addr) w w') (hB2 : Blk w' (f p.addr) (pgC (g p)) 67) :
    SRep A w' d (Vm.upd m a g) mb f := by
  obtain ⟨hpm, hpa⟩ := get_mem hat
  have hB := (h.pg p hpm).2
  have hdne : d ≠ f p.addr := fun e => by
    have h1 := h.blk
    rw [e] at h1
    unfold Blk at h1 hB
    rw [hB] at h1
    simp at h1
  refine ⟨h.blk.keep hk hdne, ?_, fun q hq => ?_, fun q hq q' hq' e => ?_, upd_ok h.ok hg hok a, h.Ad, h.Am⟩
  · have e : VL f (Vm.upd m a g) = VL f m := by
      unfold VL Vm.upd
      rw [List.map_map]
      apply List.map_congr_left
      intro q _
      simp only [Function.comp, upd_addr hg]
    rw [e]
    exact h.mp.keep hk (h.mp.ne_blk hB)
  · obtain ⟨q, hqm, rfl⟩ := List.mem_map.1 hq
    rw [upd_addr hg]
    refine ⟨(h.pg q hqm).1, ?_⟩
    by_cases e : q.addr = a
    · have eq : q = p := by
        have h1 := get_of_mem h.ok.srt hqm
        rw [e, hat] at h1
        exact (Option.some.inj h1).symm
      subst eq
      rw [if_pos e]
      exact hB2
    · rw [if_neg e]
      refine (h.pg q hqm).2.keep hk fun e2 => e ?_
      rw [h.inj q hqm p hpm e2]; exact hpa
  · obtain ⟨q, hqm, rfl⟩ := List.mem_map.1 hq
    obtain ⟨q', hqm', rfl⟩ := List.mem_map.1 hq'
    rw [upd_addr hg, upd_addr hg] at e ⊢
    exact h.inj q hqm q' hqm' e
theorem pgC_prot (p : Pg) (q : Nat) : (pgC p).setIfInBounds 0 (.int .i64 (q : Int)) = pgC { p with prot := q } := by
  apply Array.toList_inj.1
  rw [Array.toList_setIfInBounds]
  simp [pgC]
theorem pgC_dirt (p : Pg) : (pgC p).setIfInBounds 1 (.bool true) = pgC (dirt p) := by
  apply Array.toList_inj.1
  rw [Array.toList_setIfInBounds]
  simp [pgC, dirt]
theorem Enters.of1 {f : Nat} (h : ∀ a b : Value, Enters f #[a, b]) (b : Value) : ∀ a, Enters f (#[a] ++ #[b]) := fun a => h a b
set_option maxRecDepth 100000 in
set_option maxHeartbeats 1000000 in
theorem vstore1_any (a : Nat) {p : Pg} (ha : a < 18446744073709551616) (h : SRep A w d m mb f) (hat : pageAt m a = some p) (hx : Blk w x #[ptrTo d] 28) :
    Calls Try.prog 40 #[.int .u64 (a : Int), ptrTo x] w fun e w' => e = .returned (.int .i64 0) ∧ SRep A w' d (Vm.upd m a dirt) mb f ∧ Keep (fun j => j = f p.addr) w w' := by
  obtain ⟨hpm, hpa⟩ := get_mem hat
  have hB := (h.pg p hpm).2
  have q0 : w.cell? ⟨x, 0, none⟩ = some (ptrTo d) := hx.cell 0
  have q1 : w.cell? ⟨d, 0, none⟩ = some (.map (some mb)) := h.blk.cell 0
  have hlk := h.lk ha hat w rfl
  have qc : w.cell? ⟨f p.addr, 1, none⟩ = some (.bool p.dirty) := hB.cell 1
  have hfz : w.frozen? ⟨f p.addr, 1, none⟩ = false := hB.frozen _
  have hk : Keep (fun j => j = f p.addr) w (w.setCell ⟨f p.addr, 1, none⟩ (.bool true)) := (Keep.refl (fun j => j = f p.addr) w).setCell (p := ⟨f p.addr, 1, none⟩) (fun _ => rfl) _
  have hB2 := hB.set (i := 1) (.bool true)
  rw [pgC_dirt] at hB2
  have hres := h.upd (g := dirt) (fun _ => rfl) dirt_ok hat hk hB2
  clear hB hB2 hx hpa
  unfold ptrTo at *
  generalize f p.addr = g at *
  go_enter Try.func40, Try.ntmps40
  go_wp2_with (at_lookup; refine wl_lookup rfl _ _ _ _ rfl _ _ rfl rfl ?_)
  refine .mk hlk ?_
  go_wp2_with fail
  go_ret
  exact ⟨rfl, hres, hk⟩
set_option maxRecDepth 100000 in
set_option maxHeartbeats 1000000 in
theorem vprot1_any (a q : Nat) {p : Pg} (hq : q ≤ 7) (ha : a < 18446744073709551616) (h : SRep A w d m mb f) (hat : pageAt m a = some p) (hx : Blk w x #[ptrTo d] 28) (hy : Blk w y #[.int .i64 (q : Int)] 3) :
    Calls Try.prog 47 #[.int .u64 (a : Int), ptrTo y, ptrTo x] w fun e w' => e = .returned (.int .i64 0) ∧ SRep A w' d (Vm.upd m a (fun p => { p with prot := q })) mb f ∧ Keep (fun j => j = f p.addr) w w' := by
  obtain ⟨hpm, hpa⟩ := get_mem hat
  have hB := (h.pg p hpm).2
  have q0 : w.cell? ⟨x, 0, none⟩ = some (ptrTo d) := hx.cell 0
  have qy : w.cell? ⟨y, 0, none⟩ = some (.int .i64 (q : Int)) := hy.cell 0
  have q1 : w.cell? ⟨d, 0, none⟩ = some (.map (some mb)) := h.blk.cell 0
  have hlk := h.lk ha hat w.drew rfl
  have qc : w.cell? ⟨f p.addr, 0, none⟩ = some (.int .i64 (p.prot : Int)) := hB.cell 0
  have hfz : w.frozen? ⟨f p.addr, 0, none⟩ = false := hB.frozen _
  have hk : Keep (fun j => j = f p.addr) w (w.setCell ⟨f p.addr, 0, none⟩ (.int .i64 (q : Int))) := (Keep.refl (fun j => j = f p.addr) w).setCell (p := ⟨f p.addr, 0, none⟩) (fun _ => rfl) _
  have hB2 := hB.set (i := 0) (.int .i64 (q : Int))
  rw [pgC_prot] at hB2
  have hres := h.upd (g := fun p => { p with prot := q }) (fun _ => rfl) (fun p hp => ⟨hp.al, hp.lt, hq, hp.bl, hp.ol, hp.fl⟩) hat hk hB2
  clear hB hB2 hx hpa hy
  unfold ptrTo at *
  generalize f p.addr = g at *
  go_enter Try.func47, Try.ntmps47
  go_wp2_with (first | (at_builtin; refine wl_append rfl _ _ _ _ rfl _ _ rfl rfl ?_) | (at_make; refine wl_make rfl _ _ _ rfl _ _ rfl rfl ?_) | (at_mapUpdate; refine wl_mapUpdate rfl _ _ _ _ rfl _ _ _ rfl rfl rfl ?_) | (at_lookup; refine wl_lookup rfl _ _ _ _ rfl _ _ rfl rfl ?_) | (at_delete; refine wl_delete rfl _ _ _ _ rfl _ _ rfl rfl ?_) | (with_reducible refine wl_len rfl _ _ rfl _ rfl ?_) | (with_reducible refine wl_range rfl _ _ rfl _ rfl ?_) | (with_reducible refine wl_next rfl _ rfl _ rfl ?_) | (with_reducible refine wl_copy rfl _ _ _ _ rfl _ _ rfl rfl ?_) | (with_reducible refine wl_max rfl _ _ _ _ rfl _ _ rfl rfl ?_) | (with_reducible refine wl_min rfl _ _ _ _ rfl _ _ rfl rfl ?_))
  refine wp_region_sig (fun w' => w'.cell? ⟨x, 0, none⟩ = some (.pointer (some ⟨d, 0, none⟩)) ∧ w'.cell? ⟨y, 0, none⟩ = some (.int .i64 (q : Int)) ∧ w'.cell? ⟨d, 0, none⟩ = some (.map (some mb)) ∧ (Instr.lookup 68 (.map (some mb)) (.int .u64 (a : Int)) false).run Try.prog w' = .ok (.pointer (some ⟨g, 0, none⟩)) w') (fun j => decide (j ≤ 8)) [(0, true), (1, true), (2, true), (3, true), (4, true), (5, true), (6, true), (7, true), (8, true), (9, false)] (by kernel_rfl) (by kernel_rfl) (by intro c a d v w h; cases d <;> exact h) ⟨q0, qy, q1, hlk⟩ ?_
  apply sig_still (o := ⟨some 5, _, _, _, _, _⟩) rfl rfl
  · intro w' hS
    obtain ⟨q1, q2, q3, q4⟩ := hS
    first | (go_simp; done) | (go_simp; rfl) | rfl
  go_frame
  apply sig_still (o := ⟨some 6, _, _, _, _, _⟩) rfl rfl
  · intro w' hS
    obtain ⟨q1, q2, q3, q4⟩ := hS
    first | (go_simp; done) | (go_simp; rfl) | rfl
  go_frame
  apply sig_still (o := ⟨some 7, _, _, _, _, _⟩) rfl rfl
  · intro w' hS
    obtain ⟨q1, q2, q3, q4⟩ := hS
    first | (go_simp; done) | (go_simp; rfl) | rfl
  go_frame
  apply sig_still (o := ⟨some 8, _, _, _, _, _⟩) rfl rfl
  · intro w' hS
    obtain ⟨q1, q2, q3, q4⟩ := hS
    first | (go_simp; done) | (go_simp; rfl) | rfl
  go_frame
  apply sig_still (o := ⟨some 9, _, _, _, _, _⟩) rfl rfl
  · intro w' hS
    obtain ⟨q1, q2, q3, q4⟩ := hS
    first | (go_simp; done) | (go_simp; rfl) | rfl
  go_frame
  apply sig_still (o := ⟨some 10, _, _, _, _, _⟩) rfl rfl
  · intro w' hS
    obtain ⟨q1, q2, q3, q4⟩ := hS
    first | (go_simp; done) | (go_simp; rfl) | rfl
  go_frame
  apply sig_still (o := ⟨some 11, _, _, _, _, _⟩) rfl rfl
  · intro w' hS
    obtain ⟨q1, q2, q3, q4⟩ := hS
    first | (go_simp; done) | (go_simp; rfl) | rfl
  go_frame
  apply sig_still (o := ⟨some 12, _, _, _, _, _⟩) rfl rfl
  · intro w' hS
    obtain ⟨q1, q2, q3, q4⟩ := hS
    first | (go_simp; done) | (go_simp; rfl) | rfl
  go_frame
  apply sig_still (o := ⟨some 13, _, _, _, _, _⟩) rfl rfl
  · intro w' hS
    obtain ⟨q1, q2, q3, q4⟩ := hS
    first | (go_simp; done) | (go_simp; rfl) | rfl
  go_frame
  refine sig_eff (o := ⟨none, _, _, _, _, _⟩) rfl rfl (fun K hKe => ?_)
  go_wp2_with (first | (at_builtin; refine wl_append rfl _ _ _ _ rfl _ _ rfl rfl ?_) | (at_make; refine wl_make rfl _ _ _ rfl _ _ rfl rfl ?_) | (at_mapUpdate; refine wl_mapUpdate rfl _ _ _ _ rfl _ _ _ rfl rfl rfl ?_) | (at_lookup; refine wl_lookup rfl _ _ _ _ rfl _ _ rfl rfl ?_) | (at_delete; refine wl_delete rfl _ _ _ _ rfl _ _ rfl rfl ?_) | (with_reducible refine wl_len rfl _ _ rfl _ rfl ?_) | (with_reducible refine wl_range rfl _ _ rfl _ rfl ?_) | (with_reducible refine wl_next rfl _ rfl _ rfl ?_) | (with_reducible refine wl_copy rfl _ _ _ _ rfl _ _ rfl rfl ?_) | (with_reducible refine wl_max rfl _ _ _ _ rfl _ _ rfl rfl ?_) | (with_reducible refine wl_min rfl _ _ _ _ rfl _ _ rfl rfl ?_))
  refine ⟨fun h => by simp at h, sig_nil ?_⟩
  go_wp2_with (first | (at_builtin; refine wl_append rfl _ _ _ _ rfl _ _ rfl rfl ?_) | (at_make; refine wl_make rfl _ _ _ rfl _ _ rfl rfl ?_) | (at_mapUpdate; refine wl_mapUpdate rfl _ _ _ _ rfl _ _ _ rfl rfl rfl ?_) | (at_lookup; refine wl_lookup rfl _ _ _ _ rfl _ _ rfl rfl ?_) | (at_delete; refine wl_delete rfl _ _ _ _ rfl _ _ rfl rfl ?_) | (with_reducible refine wl_len rfl _ _ rfl _ rfl ?_) | (with_reducible refine wl_range rfl _ _ rfl _ rfl ?_) | (with_reducible refine wl_next rfl _ rfl _ rfl ?_) | (with_reducible refine wl_copy rfl _ _ _ _ rfl _ _ rfl rfl ?_) | (with_reducible refine wl_max rfl _ _ _ _ rfl _ _ rfl rfl ?_) | (with_reducible refine wl_min rfl _ _ _ _ rfl _ _ rfl rfl ?_))
  go_ret
  exact ⟨rfl, hres.same (fun _ _ => rfl), hk.drew⟩
theorem eraseL_VL (f : Nat → Nat) (m : V) (a : Nat) : eraseL (VL f m) (.int .u64 (a : Int)) = VL f (delP m a) := by
  unfold eraseL VL delP
  rw [List.filter_map]
  congr 1
  apply List.filter_congr
  intro p _
  simp only [Lit.sameKey, Function.comp]
  rw [Bool.eq_iff_iff]
  simp
  omega
theorem SRep.blk_ne (h : SRep A w d m mb f) {p : Pg} (hp : p ∈ m) : mb ≠ f p.addr := h.mp.ne_blk (h.pg p hp).2
/-- a page is gone -/
theorem SRep.del {w' : World} (h : SRep A w d m mb f) (a : Nat) (hm : MapL Try.prog 24 w' mb (eraseL (VL f m) (.int .u64 (a : Int)))) (hk : Keep (fun j => j = mb) w w') : SRep A w' d (delP m a) mb f := by
  rw [eraseL_VL] at hm
  have hsub : ∀ p ∈ delP m a, p ∈ m := fun p hp => (List.mem_filter.1 hp).1
  exact ⟨h.blk.keep hk (fun e => h.mp.ne_blk h.blk e.symm), hm, fun p hp => ⟨(h.pg p (hsub p hp)).1, (h.pg p (hsub p hp)).2.keep hk fun e => h.blk_ne (hsub p hp) e.symm⟩, fun p hp q hq => h.inj p (hsub p hp) q (hsub q hq), delP_ok h.ok a, h.Ad, h.Am⟩
set_option maxRecDepth 100000 in
set_option maxHeartbeats 1000000 in
theorem vunmap1_any (a : Nat) (ha : a < 18446744073709551616) (h : SRep A w d m mb f) (hx : Blk w x #[ptrTo d] 28) :
    Calls Try.prog 46 #[.int .u64 (a : Int), ptrTo x] w fun e w' => e = .returned (.int .i64 0) ∧ SRep A w' d (delP m a) mb f ∧ Keep (fun j => j = mb) w w' := by
  have q0 : w.cell? ⟨x, 0, none⟩ = some (ptrTo d) := hx.cell 0
  have q1 : w.cell? ⟨d, 0, none⟩ = some (.map (some mb)) := h.blk.cell 0
  unfold ptrTo at *
  go_enter Try.func46, Try.ntmps46
  go_wp2_with (first | (at_builtin; refine wl_append rfl _ _ _ _ rfl _ _ rfl rfl ?_) | (at_make; refine wl_make rfl _ _ _ rfl _ _ rfl rfl ?_) | (at_mapUpdate; refine wl_mapUpdate rfl _ _ _ _ rfl _ _ _ rfl rfl rfl ?_) | (at_lookup; refine wl_lookup rfl _ _ _ _ rfl _ _ rfl rfl ?_) | (at_delete; refine wl_delete rfl _ _ _ _ rfl _ _ rfl rfl ?_) | (with_reducible refine wl_len rfl _ _ rfl _ rfl ?_) | (with_reducible refine wl_range rfl _ _ rfl _ rfl ?_) | (with_reducible refine wl_next rfl _ rfl _ rfl ?_) | (with_reducible refine wl_copy rfl _ _ _ _ rfl _ _ rfl rfl ?_) | (with_reducible refine wl_max rfl _ _ _ _ rfl _ _ rfl rfl ?_) | (with_reducible refine wl_min rfl _ _ _ _ rfl _ _ rfl rfl ?_))
  refine rg_delete h.mp kU64 Try.underlying68 (kOf ha) ?_
  intro w2 hm2 hk2 hs2
  go_wp2_with (first | (at_builtin; refine wl_append rfl _ _ _ _ rfl _ _ rfl rfl ?_) | (at_make; refine wl_make rfl _ _ _ rfl _ _ rfl rfl ?_) | (at_mapUpdate; refine wl_mapUpdate rfl _ _ _ _ rfl _ _ _ rfl rfl rfl ?_) | (at_lookup; refine wl_lookup rfl _ _ _ _ rfl _ _ rfl rfl ?_) | (at_delete; refine wl_delete rfl _ _ _ _ rfl _ _ rfl rfl ?_) | (with_reducible refine wl_len rfl _ _ rfl _ rfl ?_) | (with_reducible refine wl_range rfl _ _ rfl _ rfl ?_) | (with_reducible refine wl_next rfl _ rfl _ rfl ?_) | (with_reducible refine wl_copy rfl _ _ _ _ rfl _ _ rfl rfl ?_) | (with_reducible refine wl_max rfl _ _ _ _ rfl _ _ rfl rfl ?_) | (with_reducible refine wl_min rfl _ _ _ _ rfl _ _ rfl rfl ?_))
  go_ret
  exact ⟨rfl, h.del a hm2 hk2, hk2⟩
/-- what is done page by page, over a span that is there -/
theorem each_upd {g : Pg → Pg} {fn : Nat} {c : Array Value} (addr size : Nat) (hg : ∀ p, (g p).addr = p.addr) (hs : 0 < size) (ha : addr ≤ top) (hz : size ≤ top - addr) (hth : there m addr size = true) (hent : ∀ a, Enters fn (#[a] ++ c)) (h : SRep A w d m mb f) (C : World → Prop) (hC : ∀ w' p, p ∈ m → Keep A w w' → C w' → ∀ w'', Keep (fun j => j = f p.addr) w' w'' → C w'') (hC0 : C w)
    (hstep : ∀ a p m' w', a < 18446744073709551616 → SRep A w' d m' mb f → pageAt m' a = some p → C w' → Calls Try.prog fn (#[.int .u64 (a : Int)] ++ c) w' fun e w'' => e = .returned (.int .i64 0) ∧ SRep A w'' d (Vm.upd m' a g) mb f ∧ Keep (fun j => j = f p.addr) w' w'') :
    Calls Try.prog 33 #[.int .u64 (addr : Int), .int .u64 (size : Int), .func (.func fn) #[] c] w fun e w' => e = .returned (.int .i64 0) ∧ SRep A w' d (updN g m (pageOf addr) (pagesN addr size)) mb f ∧ Keep A w w' := by
  refine (veach_any addr size (fun k w' => SRep A w' d (updN g m (pageOf addr) k) mb f ∧ Keep A w w' ∧ C w') (fun _ _ => False) hs ha hz hent ⟨h, Keep.refl _ _, hC0⟩ ?_).mono ?_
  · rintro k w' hk ⟨hR, hK, hCk⟩
    have hpl := pageOf_le addr
    have hiff := (pages_step addr size k hs).2 hk
    have ht : top = 4294967296 := rfl
    have hsome := (there_take m addr size).1 hth k hk
    rw [← pageAt_updN m hg (pageOf addr) _ k] at hsome
    obtain ⟨p, hp⟩ := Option.isSome_iff_exists.1 hsome
    refine (hstep _ p _ w' (by omega) hR hp hCk).mono ?_
    rintro e w2 ⟨rfl, hR2, hk2⟩
    obtain ⟨hpm, hpa⟩ := get_mem hp
    have hAp : A (f p.addr) := (hR.pg p hpm).1
    have hpm0 : ∃ q ∈ m, q.addr = p.addr := by
      rw [updN_eq m hg] at hpm
      obtain ⟨q, hq, e⟩ := List.mem_map.1 hpm
      refine ⟨q, hq, ?_⟩
      rw [← e]
      split
      · exact (hg q).symm
      · rfl
    obtain ⟨q, hq, eq⟩ := hpm0
    exact .inl ⟨rfl, hR2, hK.trans hk2 (fun j _ e => by rw [e]; exact hAp), hC w' q hq hK hCk w2 (by rw [eq]; exact hk2)⟩
  · rintro e w' (⟨rfl, hR, hK, _⟩ | ⟨_, _, _, hf⟩)
    · exact ⟨rfl, hR, hK⟩
    · exact hf.elim
set_option maxRecDepth 100000 in
set_option maxHeartbeats 2000000 in
theorem vstore_any (addr : Nat) (n : Int) (X : Nat) (ha : addr < 18446744073709551616) (hX : X < 18446744073709551616) (h0 : -9223372036854775808 ≤ n) (h1 : n < 9223372036854775808) (h : SRep A w d m mb f) (hA : ∀ k, A k → k < w.heap.size) :
    Calls Try.prog 17 #[ptrTo d, .int .u64 (addr : Int), .int .i64 n, .int .u64 (X : Int)] w fun e w' => e = .returned (.int .i64 (numE m addr n 2 : Nat)) ∧ SRep A w' d (storeV m addr n X) mb f ∧ Keep A w w' := by
  have hx : storeV m addr n X = if numE m addr n 2 = 0 then updN dirt (writeB m addr (le n.toNat X)) (pageOf addr) (pagesN addr n.toNat) else m := rfl
  have hp := @num_parts m addr n 2
  have hdd : d < w.heap.size := hA d h.Ad
  obtain ⟨er, her⟩ : ∃ er, numE m addr n 2 = er := ⟨_, rfl⟩
  obtain ⟨M, hM⟩ : ∃ M, storeV m addr n X = M := ⟨_, rfl⟩
  rw [her, hM] at hx
  rw [her] at hp ⊢
  rw [hM]
  have HX := Lib.hid hx
  clear hx hM
  unfold ptrTo at *
  go_enter Try.func17, Try.ntmps17
  go_wp2_with fail
  have hkW0 : Keep No w (w.alloc (.cells #[.pointer (some ⟨d, 0, none⟩)] 28)) := (Keep.refl _ _).alloc _
  have hBW0 : Blk (w.alloc (.cells #[.pointer (some ⟨d, 0, none⟩)] 28)) w.heap.size #[.pointer (some ⟨d, 0, none⟩)] 28 := Blk.new _ _ _
  have hzW0 : (w.alloc (.cells #[.pointer (some ⟨d, 0, none⟩)] 28)).heap.size = w.heap.size + 1 := World.size_alloc _ _
  generalize w.alloc (.cells #[.pointer (some ⟨d, 0, none⟩)] 28) = W0 at *
  have hAW : ∀ k, A k → k < W0.heap.size := fun k hk => Nat.lt_of_lt_of_le (hA k hk) hkW0.size
  have h' := h.no hA hkW0
  have q0 : W0.cell? ⟨w.heap.size, 0, none⟩ = some (.pointer (some ⟨d, 0, none⟩)) := hBW0.cell 0
  have hnum := vnumber_any (w := W0) addr n 2 (by omega) ha h0 h1 h' hAW
  unfold ptrTo at hnum
  rw [her] at hnum
  go_wp2_with fail
  refine hnum.mono ?_
  rintro e W ⟨rfl, hk⟩
  clear hnum her
  have hkW := hkW0.trans' hk
  by_cases he : er = 0
  · subst he
    rw [if_pos rfl] at HX
    obtain ⟨hn, hh, _⟩ := hp rfl
    obtain ⟨q1, q2, q3, q4⟩ := held_parts hh
    clear hh
    have hnn : n = (n.toNat : Int) := by omega
    have hn' : n.toNat = 1 ∨ n.toNat = 2 ∨ n.toNat = 4 ∨ n.toNat = 8 := by omega
    generalize n.toNat = k at *
    subst hnn
    clear hn hp
    have hk8 : (k : Int) ≤ 8 := by omega
    have hB1 := hBW0.keep hk fun h => h
    have q0' : W.cell? ⟨w.heap.size, 0, none⟩ = some (.pointer (some ⟨d, 0, none⟩)) := hB1.cell 0
    go_wp2_with (at_make; refine wl_make rfl _ _ _ rfl _ _ rfl rfl ?_)
    refine rg_make 5 (.int .u8 0) 1 1 Try.underlying25 o_info (by omega) (by unfold maxLen; omega) ?_
    intro W1 hb1 hk1
    rw [madeCells_u8] at hb1
    have hrep := Bts.of_blk hb1 (by rw [List.length_replicate]; unfold maxLen; omega)
    rw [List.length_replicate] at hrep
    have hfit : fitsE (List.replicate k (0 : UInt8)).length 0 k = 0 := (getX_whole _ k (List.length_replicate ..) hn').1
    have hset := oset_any (w := W1) (List.replicate k (0 : UInt8)) 0 k X hrep (by rw [List.length_replicate]; omega) (by omega) hX hfit
    have hsx : setX (List.replicate k (0 : UInt8)) 0 k X = le k X := by
      unfold setX
      rw [Int.toNat_natCast]
      exact setR_whole _ _ (by rw [le_len, List.length_replicate])
    rw [hsx, List.length_replicate] at hset
    go_wp2_with fail
    refine hset.mono ?_
    rintro e W2 ⟨v', rfl, ho, hk2⟩
    clear hset
    have hle := le_len k X
    have hkW2 := (hk.trans' hk1).trans' hk2
    have hAW2 : ∀ k, A k → k < W2.heap.size := fun k hk => Nat.lt_of_lt_of_le (hAW k hk) hkW2.size
    have h2 := h'.no hAW hkW2
    have hB2 := hBW0.keep hkW2 fun h => h
    have q0'' : W2.cell? ⟨w.heap.size, 0, none⟩ = some (.pointer (some ⟨d, 0, none⟩)) := hB2.cell 0
    have hwr := vwrite_any (w := W2) (B := fun j => W1.heap.size ≤ j ∧ some j = v'.ownBlock) addr (le k X) q1 (by rw [hle]; exact q2) (by rw [hle]; omega) (by rw [hle]; exact q4) h2 hAW2 (by unfold Bts; rw [hle]; exact Sl.of_own ho) (fun j hj ha => by have := hAW j ha; have h1 := (hk.trans' hk1).size; have h3 := hj.1; omega)
    unfold ptrTo at hwr
    obtain ⟨a2, c2, rfl⟩ : ∃ a2 c2, v' = .slice a2 k c2 := by
      rcases ho.2 with ⟨rfl, e0⟩ | ⟨g, cap, cur, rfl, _⟩
      · exact ⟨none, 0, by rw [e0]⟩
      · exact ⟨_, _, rfl⟩
    go_wp2_with fail
    refine hwr.mono ?_
    rintro e W3 ⟨rfl, h3, hk3⟩
    clear hwr
    have hB3 := hB2.keep hk3 fun ha => absurd (hA _ ha) (Nat.lt_irrefl _)
    have hkW3 : Keep A w W3 := ((hkW0.trans' hkW2).mono fun _ _ h => h.elim).trans' hk3
    have hAW3 : ∀ k, A k → k < W3.heap.size := fun k hk => Nat.lt_of_lt_of_le (hAW2 k hk) hk3.size
    have hea := each_upd (w := W3) (g := dirt) (fn := 40) (c := #[.pointer (some ⟨w.heap.size, 0, none⟩)]) addr k (fun _ => rfl) (by omega) q1 q2 (by rw [there_writeB]; exact q4) (Enters.of1 (fun a b w => by kernel_rfl) _) h3 (fun w' => Blk w' w.heap.size #[ptrTo d] 28) (fun w' p hpm hKA hC w'' hk'' => hC.keep hk'' fun e => by
        have := hA _ (h3.pg p hpm).1
        have e2 : w.heap.size = f p.addr := e
        omega) hB3 (fun a p m' w' haa hR hat hC => vstore1_any a haa hR hat hC)
    go_wp2_with fail
    refine hea.mono ?_
    rintro e W4 ⟨rfl, h4, hk4⟩
    go_wp2_with fail
    go_ret
    rw [HX.out]
    exact ⟨rfl, h4, hkW3.trans' hk4⟩
  · rw [if_neg he] at HX
    have hne : (er : Int) ≠ 0 := by omega
    clear hp
    go_wp2_with fail
    go_ret
    rw [HX.out]
    exact ⟨rfl, h.no hA hkW, hkW.mono fun _ _ h => h.elim⟩
theorem unmap_pages {addr size : Nat} (hm : Vm.may addr size 0 = true) : pagesN addr size = size / 256 ∧ pageOf addr = addr := may_pages hm
set_option maxRecDepth 100000 in
set_option maxHeartbeats 2000000 in
theorem vunmap_any (addr size : Nat) (ha : addr < 18446744073709551616) (hs : size < 18446744073709551616) (h : SRep A w d m mb f) (hA : ∀ k, A k → k < w.heap.size) :
    Calls Try.prog 25 #[ptrTo d, .int .u64 (addr : Int), .int .u64 (size : Int)] w fun e w' => e = .returned (.int .i64 (unmapE m addr size : Nat)) ∧ SRep A w' d (unmapV m addr size) mb f ∧ Keep A w w' := by
  have hx : unmapV m addr size = if unmapE m addr size = 0 then delN m addr (size / 256) else m := rfl
  have hy : unmapE m addr size = if Vm.may addr size 0 then Vm.heldE m addr size else 1 := rfl
  generalize unmapV m addr size = M at *
  generalize unmapE m addr size = E at *
  have HX := Lib.hid hx
  have HY := Lib.hid hy
  clear hx hy
  unfold ptrTo at *
  go_enter Try.func25, Try.ntmps25
  go_wp2_with (first | (at_builtin; refine wl_append rfl _ _ _ _ rfl _ _ rfl rfl ?_) | (at_make; refine wl_make rfl _ _ _ rfl _ _ rfl rfl ?_) | (at_mapUpdate; refine wl_mapUpdate rfl _ _ _ _ rfl _ _ _ rfl rfl rfl ?_) | (at_lookup; refine wl_lookup rfl _ _ _ _ rfl _ _ rfl rfl ?_) | (at_delete; refine wl_delete rfl _ _ _ _ rfl _ _ rfl rfl ?_) | (with_reducible refine wl_len rfl _ _ rfl _ rfl ?_) | (with_reducible refine wl_range rfl _ _ rfl _ rfl ?_) | (with_reducible refine wl_next rfl _ rfl _ rfl ?_) | (with_reducible refine wl_copy rfl _ _ _ _ rfl _ _ rfl rfl ?_) | (with_reducible refine wl_max rfl _ _ _ _ rfl _ _ rfl rfl ?_) | (with_reducible refine wl_min rfl _ _ _ _ rfl _ _ rfl rfl ?_))
  have hkW0 : Keep No w (w.alloc (.cells #[.pointer (some ⟨d, 0, none⟩)] 28)) := (Keep.refl _ _).alloc _
  have hBW0 : Blk (w.alloc (.cells #[.pointer (some ⟨d, 0, none⟩)] 28)) w.heap.size #[.pointer (some ⟨d, 0, none⟩)] 28 := Blk.new _ _ _
  have hzW0 : (w.alloc (.cells #[.pointer (some ⟨d, 0, none⟩)] 28)).heap.size = w.heap.size + 1 := World.size_alloc _ _
  generalize w.alloc (.cells #[.pointer (some ⟨d, 0, none⟩)] 28) = W0 at *
  have hAW : ∀ k, A k → k < W0.heap.size := fun k hk => Nat.lt_of_lt_of_le (hA k hk) hkW0.size
  have h' := h.no hA hkW0
  have q0 : W0.cell? ⟨w.heap.size, 0, none⟩ = some (.pointer (some ⟨d, 0, none⟩)) := hBW0.cell 0
  go_wp2_with (first | (at_builtin; refine wl_append rfl _ _ _ _ rfl _ _ rfl rfl ?_) | (at_make; refine wl_make rfl _ _ _ rfl _ _ rfl rfl ?_) | (at_mapUpdate; refine wl_mapUpdate rfl _ _ _ _ rfl _ _ _ rfl rfl rfl ?_) | (at_lookup; refine wl_lookup rfl _ _ _ _ rfl _ _ rfl rfl ?_) | (at_delete; refine wl_delete rfl _ _ _ _ rfl _ _ rfl rfl ?_) | (with_reducible refine wl_len rfl _ _ rfl _ rfl ?_) | (with_reducible refine wl_range rfl _ _ rfl _ rfl ?_) | (with_reducible refine wl_next rfl _ rfl _ rfl ?_) | (with_reducible refine wl_copy rfl _ _ _ _ rfl _ _ rfl rfl ?_) | (with_reducible refine wl_max rfl _ _ _ _ rfl _ _ rfl rfl ?_) | (with_reducible refine wl_min rfl _ _ _ _ rfl _ _ rfl rfl ?_))
  refine (vmay_any addr size 0 ha hs _).mono ?_
  rintro e X ⟨rfl, rfl⟩
  cases hmay : Vm.may addr size 0 with
  | false =>
    rw [hmay] at HY
    have hE := HY.out
    simp only [Bool.false_eq_true, if_false] at hE
    subst hE
    rw [if_neg (by decide)] at HX
    go_wp2_with (first | (at_builtin; refine wl_append rfl _ _ _ _ rfl _ _ rfl rfl ?_) | (at_make; refine wl_make rfl _ _ _ rfl _ _ rfl rfl ?_) | (at_mapUpdate; refine wl_mapUpdate rfl _ _ _ _ rfl _ _ _ rfl rfl rfl ?_) | (at_lookup; refine wl_lookup rfl _ _ _ _ rfl _ _ rfl rfl ?_) | (at_delete; refine wl_delete rfl _ _ _ _ rfl _ _ rfl rfl ?_) | (with_reducible refine wl_len rfl _ _ rfl _ rfl ?_) | (with_reducible refine wl_range rfl _ _ rfl _ rfl ?_) | (with_reducible refine wl_next rfl _ rfl _ rfl ?_) | (with_reducible refine wl_copy rfl _ _ _ _ rfl _ _ rfl rfl ?_) | (with_reducible refine wl_max rfl _ _ _ _ rfl _ _ rfl rfl ?_) | (with_reducible refine wl_min rfl _ _ _ _ rfl _ _ rfl rfl ?_))
    go_ret
    rw [HX.out]
    exact ⟨rfl, h', hkW0.mono fun _ _ h => h.elim⟩
  | true =>
    rw [hmay, if_pos rfl] at HY
    have hpt := may_parts hmay
    have hpg := may_pages hmay
    have hheld := vheld_any (w := W0) addr size hpt.2.2.1 ha hs h' hAW
    have hp := @held_parts m addr size
    rw [← HY.out] at hheld hp
    clear HY hmay
    unfold ptrTo at hheld
    go_wp2_with (first | (at_builtin; refine wl_append rfl _ _ _ _ rfl _ _ rfl rfl ?_) | (at_make; refine wl_make rfl _ _ _ rfl _ _ rfl rfl ?_) | (at_mapUpdate; refine wl_mapUpdate rfl _ _ _ _ rfl _ _ _ rfl rfl rfl ?_) | (at_lookup; refine wl_lookup rfl _ _ _ _ rfl _ _ rfl rfl ?_) | (at_delete; refine wl_delete rfl _ _ _ _ rfl _ _ rfl rfl ?_) | (with_reducible refine wl_len rfl _ _ rfl _ rfl ?_) | (with_reducible refine wl_range rfl _ _ rfl _ rfl ?_) | (with_reducible refine wl_next rfl _ rfl _ rfl ?_) | (with_reducible refine wl_copy rfl _ _ _ _ rfl _ _ rfl rfl ?_) | (with_reducible refine wl_max rfl _ _ _ _ rfl _ _ rfl rfl ?_) | (with_reducible refine wl_min rfl _ _ _ _ rfl _ _ rfl rfl ?_))
    refine hheld.mono ?_
    rintro e W ⟨rfl, hk⟩
    have hkW := hkW0.trans' hk
    by_cases he : E = 0
    · subst he
      rw [if_pos rfl] at HX
      obtain ⟨q1, q2, q3, q4⟩ := hp rfl
      clear hp hheld
      have hB1 := hBW0.keep hk fun h => h
      have hea := veach_any (w := W) (f := 46) (c := #[.pointer (some ⟨w.heap.size, 0, none⟩)]) addr size (fun k w' => SRep A w' d (delN m addr k) mb f ∧ Keep A W w') (fun _ _ => False) hpt.2.2.1 q1 q2 (Enters.of1 (fun a b w => by kernel_rfl) _) ⟨h.no hA hkW, Keep.refl _ _⟩ (fun k w' hk2 hR => by
        obtain ⟨hR, hK⟩ := hR
        have hpl := pageOf_le addr
        have hiff := (pages_step addr size k hpt.2.2.1).2 hk2
        have ht : top = 4294967296 := rfl
        refine (vunmap1_any (pageOf addr + 256 * k) (by omega) hR (hB1.keep hK fun ha => absurd (hA _ ha) (Nat.lt_irrefl _))).mono ?_
        rintro e w2 ⟨rfl, hR2, hk3⟩
        rw [hpg.2] at hR2
        exact .inl ⟨rfl, hR2, hK.trans hk3 fun j _ e => by rw [e]; exact hR.Am⟩)
      rw [hpg.1] at hea
      go_wp2_with (first | (at_builtin; refine wl_append rfl _ _ _ _ rfl _ _ rfl rfl ?_) | (at_make; refine wl_make rfl _ _ _ rfl _ _ rfl rfl ?_) | (at_mapUpdate; refine wl_mapUpdate rfl _ _ _ _ rfl _ _ _ rfl rfl rfl ?_) | (at_lookup; refine wl_lookup rfl _ _ _ _ rfl _ _ rfl rfl ?_) | (at_delete; refine wl_delete rfl _ _ _ _ rfl _ _ rfl rfl ?_) | (with_reducible refine wl_len rfl _ _ rfl _ rfl ?_) | (with_reducible refine wl_range rfl _ _ rfl _ rfl ?_) | (with_reducible refine wl_next rfl _ rfl _ rfl ?_) | (with_reducible refine wl_copy rfl _ _ _ _ rfl _ _ rfl rfl ?_) | (with_reducible refine wl_max rfl _ _ _ _ rfl _ _ rfl rfl ?_) | (with_reducible refine wl_min rfl _ _ _ _ rfl _ _ rfl rfl ?_))
      refine hea.mono ?_
      rintro e W4 (⟨rfl, h4, hk4⟩ | ⟨_, _, _, hf⟩)
      · go_wp2_with (first | (at_builtin; refine wl_append rfl _ _ _ _ rfl _ _ rfl rfl ?_) | (at_make; refine wl_make rfl _ _ _ rfl _ _ rfl rfl ?_) | (at_mapUpdate; refine wl_mapUpdate rfl _ _ _ _ rfl _ _ _ rfl rfl rfl ?_) | (at_lookup; refine wl_lookup rfl _ _ _ _ rfl _ _ rfl rfl ?_) | (at_delete; refine wl_delete rfl _ _ _ _ rfl _ _ rfl rfl ?_) | (with_reducible refine wl_len rfl _ _ rfl _ rfl ?_) | (with_reducible refine wl_range rfl _ _ rfl _ rfl ?_) | (with_reducible refine wl_next rfl _ rfl _ rfl ?_) | (with_reducible refine wl_copy rfl _ _ _ _ rfl _ _ rfl rfl ?_) | (with_reducible refine wl_max rfl _ _ _ _ rfl _ _ rfl rfl ?_) | (with_reducible refine wl_min rfl _ _ _ _ rfl _ _ rfl rfl ?_))
        go_ret
        rw [HX.out]
        exact ⟨rfl, h4, (hkW.mono fun _ _ h => h.elim).trans' hk4⟩
      · exact hf.elim
    · rw [if_neg he] at HX
      have hne : (E : Int) ≠ 0 := by omega
      clear hp hheld
      go_wp2_with (first | (at_builtin; refine wl_append rfl _ _ _ _ rfl _ _ rfl rfl ?_) | (at_make; refine wl_make rfl _ _ _ rfl _ _ rfl rfl ?_) | (at_mapUpdate; refine wl_mapUpdate rfl _ _ _ _ rfl _ _ _ rfl rfl rfl ?_) | (at_lookup; refine wl_lookup rfl _ _ _ _ rfl _ _ rfl rfl ?_) | (at_delete; refine wl_delete rfl _ _ _ _ rfl _ _ rfl rfl ?_) | (with_reducible refine wl_len rfl _ _ rfl _ rfl ?_) | (with_reducible refine wl_range rfl _ _ rfl _ rfl ?_) | (with_reducible refine wl_next rfl _ rfl _ rfl ?_) | (with_reducible refine wl_copy rfl _ _ _ _ rfl _ _ rfl rfl ?_) | (with_reducible refine wl_max rfl _ _ _ _ rfl _ _ rfl rfl ?_) | (with_reducible refine wl_min rfl _ _ _ _ rfl _ _ rfl rfl ?_))
      go_ret
      rw [HX.out]
      exact ⟨rfl, h.no hA hkW, hkW.mono fun _ _ h => h.elim⟩
set_option maxRecDepth 100000 in
set_option maxHeartbeats 2000000 in
theorem vprot_any (addr size : Nat) (prot : Int) (ha : addr < 18446744073709551616) (hs : size < 18446744073709551616) (h : SRep A w d m mb f) (hA : ∀ k, A k → k < w.heap.size) :
    Calls Try.prog 26 #[ptrTo d, .int .u64 (addr : Int), .int .u64 (size : Int), .int .i64 prot] w fun e w' => e = .returned (.int .i64 (protE m addr size prot : Nat)) ∧ SRep A w' d (protV m addr size prot) mb f ∧ Keep A w w' := by
  have hx : protV m addr size prot = if protE m addr size prot = 0 then updN (fun p => { p with prot := prot.toNat }) m addr (size / 256) else m := rfl
  have hy : protE m addr size prot = if Vm.may addr size prot then Vm.heldE m addr size else 1 := rfl
  generalize protV m addr size prot = M at *
  generalize protE m addr size prot = E at *
  have HX := Lib.hid hx
  have HY := Lib.hid hy
  clear hx hy
  unfold ptrTo at *
  go_enter Try.func26, Try.ntmps26
  go_wp2_with (first | (at_builtin; refine wl_append rfl _ _ _ _ rfl _ _ rfl rfl ?_) | (at_make; refine wl_make rfl _ _ _ rfl _ _ rfl rfl ?_) | (at_mapUpdate; refine wl_mapUpdate rfl _ _ _ _ rfl _ _ _ rfl rfl rfl ?_) | (at_lookup; refine wl_lookup rfl _ _ _ _ rfl _ _ rfl rfl ?_) | (at_delete; refine wl_delete rfl _ _ _ _ rfl _ _ rfl rfl ?_) | (with_reducible refine wl_len rfl _ _ rfl _ rfl ?_) | (with_reducible refine wl_range rfl _ _ rfl _ rfl ?_) | (with_reducible refine wl_next rfl _ rfl _ rfl ?_) | (with_reducible refine wl_copy rfl _ _ _ _ rfl _ _ rfl rfl ?_) | (with_reducible refine wl_max rfl _ _ _ _ rfl _ _ rfl rfl ?_) | (with_reducible refine wl_min rfl _ _ _ _ rfl _ _ rfl rfl ?_))
  have hkW1 : Keep No w (w.alloc (.cells #[.pointer (some ⟨d, 0, none⟩)] 28)) := (Keep.refl _ _).alloc _
  have hBW1 : Blk (w.alloc (.cells #[.pointer (some ⟨d, 0, none⟩)] 28)) w.heap.size #[.pointer (some ⟨d, 0, none⟩)] 28 := Blk.new _ _ _
  have hzW1 : (w.alloc (.cells #[.pointer (some ⟨d, 0, none⟩)] 28)).heap.size = w.heap.size + 1 := World.size_alloc _ _
  generalize w.alloc (.cells #[.pointer (some ⟨d, 0, none⟩)] 28) = W1 at *
  have hkW0 : Keep No W1 (W1.alloc (.cells #[.int .i64 prot] 3)) := (Keep.refl _ _).alloc _
  have hBW0 : Blk (W1.alloc (.cells #[.int .i64 prot] 3)) W1.heap.size #[.int .i64 prot] 3 := Blk.new _ _ _
  have hzW0 : (W1.alloc (.cells #[.int .i64 prot] 3)).heap.size = W1.heap.size + 1 := World.size_alloc _ _
  generalize W1.alloc (.cells #[.int .i64 prot] 3) = W0 at *
  rw [hzW1] at hBW0
  replace hBW1 := hBW1.keep hkW0 fun h => h
  replace hkW0 := hkW1.trans' hkW0
  have hAW : ∀ k, A k → k < W0.heap.size := fun k hk => Nat.lt_of_lt_of_le (hA k hk) hkW0.size
  have h' := h.no hA hkW0
  have q0 : W0.cell? ⟨w.heap.size, 0, none⟩ = some (.pointer (some ⟨d, 0, none⟩)) := hBW1.cell 0
  have q1 : W0.cell? ⟨w.heap.size + 1, 0, none⟩ = some (.int .i64 prot) := hBW0.cell 0
  go_wp2_with (first | (at_builtin; refine wl_append rfl _ _ _ _ rfl _ _ rfl rfl ?_) | (at_make; refine wl_make rfl _ _ _ rfl _ _ rfl rfl ?_) | (at_mapUpdate; refine wl_mapUpdate rfl _ _ _ _ rfl _ _ _ rfl rfl rfl ?_) | (at_lookup; refine wl_lookup rfl _ _ _ _ rfl _ _ rfl rfl ?_) | (at_delete; refine wl_delete rfl _ _ _ _ rfl _ _ rfl rfl ?_) | (with_reducible refine wl_len rfl _ _ rfl _ rfl ?_) | (with_reducible refine wl_range rfl _ _ rfl _ rfl ?_) | (with_reducible refine wl_next rfl _ rfl _ rfl ?_) | (with_reducible refine wl_copy rfl _ _ _ _ rfl _ _ rfl rfl ?_) | (with_reducible refine wl_max rfl _ _ _ _ rfl _ _ rfl rfl ?_) | (with_reducible refine wl_min rfl _ _ _ _ rfl _ _ rfl rfl ?_))
  refine (vmay_any addr size prot ha hs _).mono ?_
  rintro e X ⟨rfl, rfl⟩
  cases hmay : Vm.may addr size prot with
  | false =>
    rw [hmay] at HY
    have hE := HY.out
    simp only [Bool.false_eq_true, if_false] at hE
    subst hE
    rw [if_neg (by decide)] at HX
    go_wp2_with (first | (at_builtin; refine wl_append rfl _ _ _ _ rfl _ _ rfl rfl ?_) | (at_make; refine wl_make rfl _ _ _ rfl _ _ rfl rfl ?_) | (at_mapUpdate; refine wl_mapUpdate rfl _ _ _ _ rfl _ _ _ rfl rfl rfl ?_) | (at_lookup; refine wl_lookup rfl _ _ _ _ rfl _ _ rfl rfl ?_) | (at_delete; refine wl_delete rfl _ _ _ _ rfl _ _ rfl rfl ?_) | (with_reducible refine wl_len rfl _ _ rfl _ rfl ?_) | (with_reducible refine wl_range rfl _ _ rfl _ rfl ?_) | (with_reducible refine wl_next rfl _ rfl _ rfl ?_) | (with_reducible refine wl_copy rfl _ _ _ _ rfl _ _ rfl rfl ?_) | (with_reducible refine wl_max rfl _ _ _ _ rfl _ _ rfl rfl ?_) | (with_reducible refine wl_min rfl _ _ _ _ rfl _ _ rfl rfl ?_))
    go_ret
    rw [HX.out]
    exact ⟨rfl, h', hkW0.mono fun _ _ h => h.elim⟩
  | true =>
    rw [hmay, if_pos rfl] at HY
    have hpt := may_parts hmay
    have hpg := may_pages hmay
    have hheld := vheld_any (w := W0) addr size hpt.2.2.1 ha hs h' hAW
    have hp := @held_parts m addr size
    rw [← HY.out] at hheld hp
    clear HY hmay
    unfold ptrTo at hheld
    go_wp2_with (first | (at_builtin; refine wl_append rfl _ _ _ _ rfl _ _ rfl rfl ?_) | (at_make; refine wl_make rfl _ _ _ rfl _ _ rfl rfl ?_) | (at_mapUpdate; refine wl_mapUpdate rfl _ _ _ _ rfl _ _ _ rfl rfl rfl ?_) | (at_lookup; refine wl_lookup rfl _ _ _ _ rfl _ _ rfl rfl ?_) | (at_delete; refine wl_delete rfl _ _ _ _ rfl _ _ rfl rfl ?_) | (with_reducible refine wl_len rfl _ _ rfl _ rfl ?_) | (with_reducible refine wl_range rfl _ _ rfl _ rfl ?_) | (with_reducible refine wl_next rfl _ rfl _ rfl ?_) | (with_reducible refine wl_copy rfl _ _ _ _ rfl _ _ rfl rfl ?_) | (with_reducible refine wl_max rfl _ _ _ _ rfl _ _ rfl rfl ?_) | (with_reducible refine wl_min rfl _ _ _ _ rfl _ _ rfl rfl ?_))
    refine hheld.mono ?_
    rintro e W ⟨rfl, hk⟩
    have hkW := hkW0.trans' hk
    by_cases he : E = 0
    · subst he
      rw [if_pos rfl] at HX
      obtain ⟨r1, r2, r3, r4⟩ := hp rfl
      clear hp hheld
      have hpr : prot = (prot.toNat : Int) := by omega
      have hpq : prot.toNat ≤ 7 := by omega
      generalize prot.toNat = q at *
      subst hpr
      have hB1 := hBW1.keep hk fun h => h
      have hB0 := hBW0.keep hk fun h => h
      have hea := each_upd (w := W) (g := fun p => { p with prot := q }) (fn := 47) (c := #[.pointer (some ⟨w.heap.size + 1, 0, none⟩), .pointer (some ⟨w.heap.size, 0, none⟩)]) addr size (fun _ => rfl) hpt.2.2.1 r1 r2 r4 (Enters.of3 (fun a b c w => by kernel_rfl) _ _) (h.no hA hkW) (fun w' => Blk w' w.heap.size #[ptrTo d] 28 ∧ Blk w' (w.heap.size + 1) #[.int .i64 (q : Int)] 3) (fun w' p hpm hKA hC w'' hk'' => by
          have hlt := hA _ (h.pg p hpm).1
          exact ⟨hC.1.keep hk'' fun e => (by have e2 : w.heap.size = f p.addr := e; omega), hC.2.keep hk'' fun e => (by have e2 : w.heap.size + 1 = f p.addr := e; omega)⟩) ⟨hB1, hB0⟩ (fun a p m' w' haa hR hat hC => vprot1_any a q hpq haa hR hat hC.1 hC.2)
      rw [hpg.1, hpg.2] at hea
      go_wp2_with (first | (at_builtin; refine wl_append rfl _ _ _ _ rfl _ _ rfl rfl ?_) | (at_make; refine wl_make rfl _ _ _ rfl _ _ rfl rfl ?_) | (at_mapUpdate; refine wl_mapUpdate rfl _ _ _ _ rfl _ _ _ rfl rfl rfl ?_) | (at_lookup; refine wl_lookup rfl _ _ _ _ rfl _ _ rfl rfl ?_) | (at_delete; refine wl_delete rfl _ _ _ _ rfl _ _ rfl rfl ?_) | (with_reducible refine wl_len rfl _ _ rfl _ rfl ?_) | (with_reducible refine wl_range rfl _ _ rfl _ rfl ?_) | (with_reducible refine wl_next rfl _ rfl _ rfl ?_) | (with_reducible refine wl_copy rfl _ _ _ _ rfl _ _ rfl rfl ?_) | (with_reducible refine wl_max rfl _ _ _ _ rfl _ _ rfl rfl ?_) | (with_reducible refine wl_min rfl _ _ _ _ rfl _ _ rfl rfl ?_))
      refine hea.mono ?_
      rintro e W4 ⟨rfl, h4, hk4⟩
      go_wp2_with (first | (at_builtin; refine wl_append rfl _ _ _ _ rfl _ _ rfl rfl ?_) | (at_make; refine wl_make rfl _ _ _ rfl _ _ rfl rfl ?_) | (at_mapUpdate; refine wl_mapUpdate rfl _ _ _ _ rfl _ _ _ rfl rfl rfl ?_) | (at_lookup; refine wl_lookup rfl _ _ _ _ rfl _ _ rfl rfl ?_) | (at_delete; refine wl_delete rfl _ _ _ _ rfl _ _ rfl rfl ?_) | (with_reducible refine wl_len rfl _ _ rfl _ rfl ?_) | (with_reducible refine wl_range rfl _ _ rfl _ rfl ?_) | (with_reducible refine wl_next rfl _ rfl _ rfl ?_) | (with_reducible refine wl_copy rfl _ _ _ _ rfl _ _ rfl rfl ?_) | (with_reducible refine wl_max rfl _ _ _ _ rfl _ _ rfl rfl ?_) | (with_reducible refine wl_min rfl _ _ _ _ rfl _ _ rfl rfl ?_))
      go_ret
      rw [HX.out]
      exact ⟨rfl, h4, (hkW.mono fun _ _ h => h.elim).trans' hk4⟩
    · rw [if_neg he] at HX
      have hne : (E : Int) ≠ 0 := by omega
      clear hp hheld
      go_wp2_with (first | (at_builtin; refine wl_append rfl _ _ _ _ rfl _ _ rfl rfl ?_) | (at_make; refine wl_make rfl _ _ _ rfl _ _ rfl rfl ?_) | (at_mapUpdate; refine wl_mapUpdate rfl _ _ _ _ rfl _ _ _ rfl rfl rfl ?_) | (at_lookup; refine wl_lookup rfl _ _ _ _ rfl _ _ rfl rfl ?_) | (at_delete; refine wl_delete rfl _ _ _ _ rfl _ _ rfl rfl ?_) | (with_reducible refine wl_len rfl _ _ rfl _ rfl ?_) | (with_reducible refine wl_range rfl _ _ rfl _ rfl ?_) | (with_reducible refine wl_next rfl _ rfl _ rfl ?_) | (with_reducible refine wl_copy rfl _ _ _ _ rfl _ _ rfl rfl ?_) | (with_reducible refine wl_max rfl _ _ _ _ rfl _ _ rfl rfl ?_) | (with_reducible refine wl_min rfl _ _ _ _ rfl _ _ rfl rfl ?_))
      go_ret
      rw [HX.out]
      exact ⟨rfl, h.no hA hkW, hkW.mono fun _ _ h => h.elim⟩
set_option maxRecDepth 100000 in
set_option maxHeartbeats 1000000 in
theorem vnew_any (w : World) : Calls Try.prog 14 #[] w fun e w' => ∃ mb d f, e = .returned (ptrTo d) ∧ SRep (fun k => w.heap.size ≤ k ∧ k < w'.heap.size) w' d [] mb f ∧ Keep No w w' := by
  have hmm := @run_makeMap
  go_enter Try.func14, Try.ntmps14
  go_wp2_with fail
  go_ret
  have m1 := MapL.made Try.prog 24 w
  have b2 := Blk.new (w.alloc (.map #[] 0)) #[.map (some w.heap.size)] 70
  simp only [World.size_alloc] at b2
  refine ⟨w.heap.size, w.heap.size + 1, fun _ => 0, rfl, ⟨b2, m1.same (Below.heap_alloc _ _ _ (by simp)), fun p hp => (by cases hp), fun p hp => (by cases hp), ⟨List.Pairwise.nil, fun p hp => (by cases hp), Nat.zero_le _⟩, ⟨by omega, by simp⟩, ⟨by omega, by simp; omega⟩⟩, ((Keep.refl _ _).alloc _).alloc _⟩
end
end Go.Proofs.Ytaoillfofiehpaa
