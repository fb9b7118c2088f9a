/- held, allowed: the errors of spans. read, write: the bytes of spans. Numbers in bytes, the lowest first: plain laws, no program in sight. Memory in pages as lists: what Map, Unmap, Protect, Store, Copy make of it, and that it stays well formed. No condition. -/
import Derived.Test.YtaoillfofiehpaaGreatDoorBits
import Derived.Laws.MakeOwn
import Derived.Test.YtaoillfofiehpaaGreatDoorRd
import Derived.Laws.BitsAllLaws
set_option linter.unusedVariables false
set_option linter.unusedSimpArgs false
namespace Go.Proofs.YtaoillfofiehpaaGreatDoor
open Go.RowKit Go.Dm Go.Dm.Vm Go.Maps

section
variable {A : Nat → Prop} {w : World} {d mb x y : Nat} {f : Nat → Nat} {m : V}
def held1E (m : V) (a : Nat) : Nat := if (pageAt m a).isSome then 0 else 40
set_option maxRecDepth 100000 in
set_option maxHeartbeats 1000000 in
theorem vheld1_any (a : Nat) (ha : a < 18446744073709551616) (h : SRep A w d m mb f) (hx : Blk w x #[ptrTo d] 40) :
    Calls Tryz.prog 58 #[.int .u64 (a : Int), ptrTo x] w fun e w' => e = .returned (.int .i64 (held1E m a : Nat)) ∧ w = w' := by
  have q0 : w.cell? ⟨x, 0, none⟩ = some (ptrTo d) := hx.cell 0
  have q1 : w.cell? ⟨d, 0, none⟩ = some (.map (some mb)) := h.blk.cell 0
  unfold ptrTo at q0 ⊢
  clear hx
  go_enter Tryz.func58, Tryz.ntmps58
  go_wp2_with (at_lookup; refine wl_lookup rfl _ _ _ _ rfl _ _ rfl rfl ?_)
  refine rg_lookup h.mp kU64 Tryz.underlying63 (zPage w) (kOf ha) ?_
  rw [findL_VL]
  cases hg : pageAt m a with
  | none =>
    have HE : Hid (held1E m a = 40) := Lib.hid (by unfold held1E; rw [hg]; rfl)
    simp only [Option.map_none, Option.getD_none]
    go_wp2_with fail
    go_ret
    rw [HE.out]
    exact ⟨rfl, rfl⟩
  | some p =>
    have HE : Hid (held1E m a = 0) := Lib.hid (by unfold held1E; rw [hg]; rfl)
    simp only [Option.map_some, Option.getD_some]
    unfold ptrTo
    go_wp2_with fail
    go_ret
    rw [HE.out]
    exact ⟨rfl, rfl⟩
theorem Enters.of2 {f : Nat} (h : ∀ a b : Value, Enters f #[a, b]) (b : Value) : ∀ a, Enters f (#[a] ++ #[b]) := fun a => h a b
theorem there_take (m : V) (addr size : Nat) : there m addr size = true ↔ ∀ k, k < pagesN addr size → (pageAt m (pageOf addr + 256 * k)).isSome = true := by
  unfold there pagesOf
  rw [List.all_eq_true]
  constructor
  · intro h k hk
    exact h _ (List.mem_map.2 ⟨k, List.mem_range.2 hk, rfl⟩)
  · intro h a ha
    obtain ⟨k, hk, rfl⟩ := List.mem_map.1 ha
    exact h k (List.mem_range.1 hk)
set_option maxRecDepth 100000 in
set_option maxHeartbeats 1000000 in
theorem vheld_any (addr size : Nat) (hs : 0 < size) (ha : addr < 18446744073709551616) (hz : size < 18446744073709551616) (h : SRep A w d m mb f) (hA : ∀ k, A k → k < w.heap.size) :
    Calls Tryz.prog 42 #[ptrTo d, .int .u64 (addr : Int), .int .u64 (size : Int)] w fun e w' => e = .returned (.int .i64 (heldE m addr size : Nat)) ∧ Keep No w w' := by
  have hdef : heldE m addr size = if addr > top ∨ size > top - addr ∨ size > 131328 then 40 else if there m addr size then 0 else 40 := rfl
  have HD := Lib.hid hdef
  have ht : top = 4294967296 := rfl
  clear hdef
  unfold ptrTo
  go_enter Tryz.func42, Tryz.ntmps42
  by_cases hbad : addr > top ∨ size > top - addr ∨ size > 131328
  · have he : heldE m addr size = 40 := by rw [HD.out, if_pos hbad]
    have HE := Lib.hid he
    clear he HD
    have h3 : (addr : Int) > 4294967296 ∨ ((addr : Int) ≤ 4294967296 ∧ (size : Int) > 4294967296 - (addr : Int)) ∨ ((addr : Int) ≤ 4294967296 ∧ (size : Int) ≤ 4294967296 - (addr : Int) ∧ (size : Int) > 131328) := by omega
    rcases h3 with h3 | ⟨h3, h4⟩ | ⟨h3, h4, h5⟩
    all_goals
      go_wp2_with fail
      go_ret
      rw [HE.out]
      exact ⟨rfl, (Keep.refl _ _).alloc _⟩
  · have h3 : (addr : Int) ≤ 4294967296 := by omega
    have h4 : (size : Int) ≤ 4294967296 - (addr : Int) := by omega
    have h5 : (size : Int) ≤ 131328 := by omega
    have he : heldE m addr size = if there m addr size then 0 else 40 := by rw [HD.out, if_neg hbad]
    have HE := Lib.hid he
    clear he HD
    go_wp2_with fail
    have hkW : Keep No w (w.alloc (.cells #[.pointer (some ⟨d, 0, none⟩)] 40)) := (Keep.refl _ _).alloc _
    have hBW : Blk (w.alloc (.cells #[.pointer (some ⟨d, 0, none⟩)] 40)) w.heap.size #[.pointer (some ⟨d, 0, none⟩)] 40 := Blk.new _ _ _
    have hzW : (w.alloc (.cells #[.pointer (some ⟨d, 0, none⟩)] 40)).heap.size = w.heap.size + 1 := World.size_alloc _ _
    generalize w.alloc (.cells #[.pointer (some ⟨d, 0, none⟩)] 40) = W at *
    refine (veach_any addr size (fun k w' => Keep No W w' ∧ ∀ j, j < k → (pageAt m (pageOf addr + 256 * j)).isSome = true) (fun er w' => er = 40 ∧ Keep No W w' ∧ there m addr size = false) hs (by omega) (by omega) (Enters.of2 (fun a b w => by kernel_rfl) _) ⟨Keep.refl _ _, fun j hj => absurd hj (Nat.not_lt_zero _)⟩ ?_).mono ?_
    · rintro k w' hk ⟨hK, hall⟩
      have hpl := pageOf_le addr
      have hiff := (pages_step addr size k hs).2 hk
      refine (vheld1_any (x := w.heap.size) (pageOf addr + 256 * k) (by omega) (h.same fun j hj => ?_) (hBW.keep hK fun h => h)).mono ?_
      · exact ((hkW.trans' hK).block j (hA j hj) fun h => h)
      · rintro e w2 ⟨rfl, rfl⟩
        cases hg : (pageAt m (pageOf addr + 256 * k)).isSome with
        | true =>
          refine .inl ⟨by simp [held1E, hg], hK, fun j hj => ?_⟩
          rcases Nat.lt_or_ge j k with h | h
          · exact hall j h
          · obtain rfl : j = k := by omega
            exact hg
        | false =>
          refine .inr ⟨40, by decide, by simp [held1E, hg], rfl, hK, ?_⟩
          cases ht : there m addr size with
          | false => rfl
          | true => rw [(there_take m addr size).1 ht k hk] at hg; cases hg
    · rintro e w' (⟨rfl, hK, hall⟩ | ⟨er, hne, rfl, rfl, hK, hth⟩)
      · have hth : there m addr size = true := (there_take m addr size).2 hall
        go_wp2_with fail
        go_ret
        rw [HE.out, if_pos hth]
        exact ⟨rfl, hkW.trans' hK⟩
      · go_wp2_with fail
        go_ret
        rw [HE.out, if_neg (by rw [hth]; decide)]
        exact ⟨rfl, hkW.trans' hK⟩
theorem and_nat (a b : Nat) (ha : a < 4294967296) (hb : b < 4294967296) : bits .and .i64 (a : Int) (b : Int) = ((a &&& b : Nat) : Int) := by
  rw [mask_eq (a : Int) b hb]
  unfold mask
  rw [BitVec.ofInt_natCast, BitVec.toNat_ofNat, Nat.mod_eq_of_lt (by omega)]
def allow1E (m : V) (what a : Nat) : Nat := match pageAt m a with | some p => if p.prot &&& what = 0 then 41 else 0 | none => 41
def allowedE (m : V) (addr size what : Nat) : Nat := if (pagesOf addr size).all (fun a => allow1E m what a == 0) then 0 else 41
set_option maxRecDepth 100000 in
set_option maxHeartbeats 1000000 in
theorem vallowed1_any (a what : Nat) (hw : what < 8) {p : Pg} (ha : a < 18446744073709551616) (h : SRep A w d m mb f) (hg : pageAt m a = some p) (hx : Blk w x #[ptrTo d] 40) (hy : Blk w y #[.int .i64 (what : Int)] 3) :
    Calls Tryz.prog 72 #[.int .u64 (a : Int), ptrTo x, ptrTo y] w fun e w' => e = .returned (.int .i64 (allow1E m what a : Nat)) ∧ Keep No w w' := by
  have q0 : w.cell? ⟨x, 0, none⟩ = some (ptrTo d) := hx.cell 0
  have q1 : w.cell? ⟨y, 0, none⟩ = some (.int .i64 (what : Int)) := hy.cell 0
  have q2 : w.cell? ⟨d, 0, none⟩ = some (.map (some mb)) := h.blk.cell 0
  obtain ⟨hpm, hpa⟩ := get_mem hg
  have hB := (h.pg p hpm).2
  have q3 : w.cell? ⟨f p.addr, 0, none⟩ = some (.int .i64 (p.prot : Int)) := hB.cell 0
  have hpr := (h.ok.pg p hpm).pr
  have hlk : (Instr.lookup 63 (.map (some mb)) (.int .u64 (a : Int)) false).run Tryz.prog w = .ok (.pointer (some ⟨f p.addr, 0, none⟩)) w := by
    have h1 := h.mp.lookup kU64 Tryz.underlying63 (zPage w) (kOf ha)
    rw [findL_VL, hg] at h1
    exact h1
  have hlkd : (Instr.lookup 63 (.map (some mb)) (.int .u64 (a : Int)) false).run Tryz.prog w.drew = .ok (.pointer (some ⟨f p.addr, 0, none⟩)) w.drew := by
    have h1 := (h.mp.same (w' := w.drew) rfl).lookup kU64 Tryz.underlying63 (zPage w.drew) (kOf ha)
    rw [findL_VL, hg] at h1
    exact h1
  have he : allow1E m what a = if p.prot &&& what = 0 then 41 else 0 := by unfold allow1E; rw [hg]
  have hand := and_nat p.prot what (by omega) (by omega)
  have HE := Lib.hid he
  clear he hx hy hB hg hpa
  unfold ptrTo at q0 ⊢
  generalize f p.addr = g at *
  generalize p.prot &&& what = z at *
  by_cases hz : z = 0
  · subst hz
    go_enter Tryz.func72, Tryz.ntmps72
    go_wp2_with fail
    refine wp_region_sig (fun w' => w'.cell? ⟨x, 0, none⟩ = some (.pointer (some ⟨d, 0, none⟩)) ∧ w'.cell? ⟨y, 0, none⟩ = some (.int .i64 (what : Int)) ∧ w'.cell? ⟨d, 0, none⟩ = some (.map (some mb)) ∧ w'.cell? ⟨g, 0, none⟩ = some (.int .i64 (p.prot : Int)) ∧ (Instr.lookup 63 (.map (some mb)) (.int .u64 (a : Int)) false).run Tryz.prog w' = .ok (.pointer (some ⟨g, 0, none⟩)) w') (fun j => decide (j ≤ 99)) [(0, true), (1, true), (2, true), (3, true), (4, true), (5, true), (6, true), (7, true), (8, true), (9, true), (10, true), (11, true)] (by kernel_rfl) (by kernel_rfl) (by intro c a d v w h; cases d <;> exact h) ⟨q0, q1, q2, q3, hlkd⟩ ?_
    apply sig_still (o := ⟨some 5, _, _, _, _, _⟩) rfl rfl
    · intro w' hS
      obtain ⟨q1, q2, q3, q4, q5⟩ := hS
      first | (go_simp; done) | (go_simp; rfl) | rfl
    go_frame
    apply sig_still (o := ⟨some 6, _, _, _, _, _⟩) rfl rfl
    · intro w' hS
      obtain ⟨q1, q2, q3, q4, q5⟩ := hS
      first | (go_simp; done) | (go_simp; rfl) | rfl
    go_frame
    apply sig_still (o := ⟨some 7, _, _, _, _, _⟩) rfl rfl
    · intro w' hS
      obtain ⟨q1, q2, q3, q4, q5⟩ := hS
      first | (go_simp; done) | (go_simp; rfl) | rfl
    go_frame
    apply sig_still (o := ⟨some 8, _, _, _, _, _⟩) rfl rfl
    · intro w' hS
      obtain ⟨q1, q2, q3, q4, q5⟩ := hS
      first | (go_simp; done) | (go_simp; rfl) | rfl
    go_frame
    apply sig_still (o := ⟨some 9, _, _, _, _, _⟩) rfl rfl
    · intro w' hS
      obtain ⟨q1, q2, q3, q4, q5⟩ := hS
      first | (go_simp; done) | (go_simp; rfl) | rfl
    go_frame
    apply sig_still (o := ⟨some 10, _, _, _, _, _⟩) rfl rfl
    · intro w' hS
      obtain ⟨q1, q2, q3, q4, q5⟩ := hS
      first | (go_simp; done) | (go_simp; rfl) | rfl
    go_frame
    apply sig_still (o := ⟨some 11, _, _, _, _, _⟩) rfl rfl
    · intro w' hS
      obtain ⟨q1, q2, q3, q4, q5⟩ := hS
      first | (go_simp; done) | (go_simp; rfl) | rfl
    go_frame
    apply sig_still (o := ⟨some 12, _, _, _, _, _⟩) rfl rfl
    · intro w' hS
      obtain ⟨q1, q2, q3, q4, q5⟩ := hS
      first | (go_simp; done) | (go_simp; rfl) | rfl
    go_frame
    apply sig_still (o := ⟨some 13, _, _, _, _, _⟩) rfl rfl
    · intro w' hS
      obtain ⟨q1, q2, q3, q4, q5⟩ := hS
      first | (go_simp; done) | (go_simp; rfl) | rfl
    go_frame
    apply sig_still (o := ⟨some 14, _, _, _, _, _⟩) rfl rfl
    · intro w' hS
      obtain ⟨q1, q2, q3, q4, q5⟩ := hS
      first | (go_simp; done) | (go_simp; rfl) | rfl
    go_frame
    apply sig_still (o := ⟨some 15, _, _, _, _, _⟩) rfl rfl
    · intro w' hS
      obtain ⟨q1, q2, q3, q4, q5⟩ := hS
      first | (go_simp; done) | (go_simp; rfl) | rfl
    go_frame
    apply sig_still (o := ⟨some 16, _, _, _, _, _⟩) rfl rfl
    · intro w' hS
      obtain ⟨q1, q2, q3, q4, q5⟩ := hS
      first | (go_simp; done) | (go_simp; rfl) | rfl
    go_frame
    refine sig_nil ?_
    go_wp2_with fail
    go_ret
    exact ⟨by rw [HE.out]; rfl, (Keep.refl _ _).drew⟩
  · have hz' : ((z : Int) == 0) = false := by simpa using hz
    go_enter Tryz.func72, Tryz.ntmps72
    go_wp2_with fail
    refine wp_region_sig (fun w' => w'.cell? ⟨x, 0, none⟩ = some (.pointer (some ⟨d, 0, none⟩)) ∧ w'.cell? ⟨y, 0, none⟩ = some (.int .i64 (what : Int)) ∧ w'.cell? ⟨d, 0, none⟩ = some (.map (some mb)) ∧ w'.cell? ⟨g, 0, none⟩ = some (.int .i64 (p.prot : Int)) ∧ (Instr.lookup 63 (.map (some mb)) (.int .u64 (a : Int)) false).run Tryz.prog w' = .ok (.pointer (some ⟨g, 0, none⟩)) w') (fun j => decide (j ≤ 99)) [(0, true), (1, true), (2, true), (3, true), (4, true), (5, true), (6, true), (7, true), (8, true), (9, true), (10, true), (11, true)] (by kernel_rfl) (by kernel_rfl) (by intro c a d v w h; cases d <;> exact h) ⟨q0, q1, q2, q3, hlkd⟩ ?_
    apply sig_still (o := ⟨some 5, _, _, _, _, _⟩) rfl rfl
    · intro w' hS
      obtain ⟨q1, q2, q3, q4, q5⟩ := hS
      first | (go_simp; done) | (go_simp; rfl) | rfl
    go_frame
    apply sig_still (o := ⟨some 6, _, _, _, _, _⟩) rfl rfl
    · intro w' hS
      obtain ⟨q1, q2, q3, q4, q5⟩ := hS
      first | (go_simp; done) | (go_simp; rfl) | rfl
    go_frame
    apply sig_still (o := ⟨some 7, _, _, _, _, _⟩) rfl rfl
    · intro w' hS
      obtain ⟨q1, q2, q3, q4, q5⟩ := hS
      first | (go_simp; done) | (go_simp; rfl) | rfl
    go_frame
    apply sig_still (o := ⟨some 8, _, _, _, _, _⟩) rfl rfl
    · intro w' hS
      obtain ⟨q1, q2, q3, q4, q5⟩ := hS
      first | (go_simp; done) | (go_simp; rfl) | rfl
    go_frame
    apply sig_still (o := ⟨some 9, _, _, _, _, _⟩) rfl rfl
    · intro w' hS
      obtain ⟨q1, q2, q3, q4, q5⟩ := hS
      first | (go_simp; done) | (go_simp; rfl) | rfl
    go_frame
    apply sig_still (o := ⟨some 10, _, _, _, _, _⟩) rfl rfl
    · intro w' hS
      obtain ⟨q1, q2, q3, q4, q5⟩ := hS
      first | (go_simp; done) | (go_simp; rfl) | rfl
    go_frame
    apply sig_still (o := ⟨some 11, _, _, _, _, _⟩) rfl rfl
    · intro w' hS
      obtain ⟨q1, q2, q3, q4, q5⟩ := hS
      first | (go_simp; done) | (go_simp; rfl) | rfl
    go_frame
    apply sig_still (o := ⟨some 12, _, _, _, _, _⟩) rfl rfl
    · intro w' hS
      obtain ⟨q1, q2, q3, q4, q5⟩ := hS
      first | (go_simp; done) | (go_simp; rfl) | rfl
    go_frame
    apply sig_still (o := ⟨some 13, _, _, _, _, _⟩) rfl rfl
    · intro w' hS
      obtain ⟨q1, q2, q3, q4, q5⟩ := hS
      first | (go_simp; done) | (go_simp; rfl) | rfl
    go_frame
    apply sig_still (o := ⟨some 14, _, _, _, _, _⟩) rfl rfl
    · intro w' hS
      obtain ⟨q1, q2, q3, q4, q5⟩ := hS
      first | (go_simp; done) | (go_simp; rfl) | rfl
    go_frame
    apply sig_still (o := ⟨some 15, _, _, _, _, _⟩) rfl rfl
    · intro w' hS
      obtain ⟨q1, q2, q3, q4, q5⟩ := hS
      first | (go_simp; done) | (go_simp; rfl) | rfl
    go_frame
    apply sig_still (o := ⟨some 16, _, _, _, _, _⟩) rfl rfl
    · intro w' hS
      obtain ⟨q1, q2, q3, q4, q5⟩ := hS
      first | (go_simp; done) | (go_simp; rfl) | rfl
    go_frame
    refine sig_nil ?_
    go_wp2_with fail
    go_ret
    rw [HE.out, if_neg hz]
    exact ⟨rfl, (Keep.refl _ _).drew⟩
theorem Enters.of3 {f : Nat} (h : ∀ a b c : Value, Enters f #[a, b, c]) (b c : Value) : ∀ a, Enters f (#[a] ++ #[b, c]) := fun a => h a b c
set_option maxRecDepth 100000 in
set_option maxHeartbeats 1000000 in
theorem vallowed_any (addr size what : Nat) (hw : what < 8) (hs : 0 < size) (ha : addr ≤ top) (hz : size ≤ top - addr) (hth : there m addr size = true) (h : SRep A w d m mb f) (hA : ∀ k, A k → k < w.heap.size) :
    Calls Tryz.prog 59 #[ptrTo d, .int .u64 (addr : Int), .int .u64 (size : Int), .int .i64 (what : Int)] w fun e w' => e = .returned (.int .i64 (allowedE m addr size what : Nat)) ∧ Keep No w w' := by
  have ht : top = 4294967296 := rfl
  have hdef : allowedE m addr size what = if (pagesOf addr size).all (fun a => allow1E m what a == 0) then 0 else 41 := rfl
  have HD := Lib.hid hdef
  clear hdef
  unfold ptrTo
  go_enter Tryz.func59, Tryz.ntmps59
  go_wp2_with fail
  have hkW1 : Keep No w (w.alloc (.cells #[.pointer (some ⟨d, 0, none⟩)] 40)) := (Keep.refl _ _).alloc _
  have hBW1 : Blk (w.alloc (.cells #[.pointer (some ⟨d, 0, none⟩)] 40)) w.heap.size #[.pointer (some ⟨d, 0, none⟩)] 40 := Blk.new _ _ _
  have hzW1 : (w.alloc (.cells #[.pointer (some ⟨d, 0, none⟩)] 40)).heap.size = w.heap.size + 1 := World.size_alloc _ _
  generalize w.alloc (.cells #[.pointer (some ⟨d, 0, none⟩)] 40) = W1 at *
  have hkW : Keep No W1 (W1.alloc (.cells #[.int .i64 (what : Int)] 3)) := (Keep.refl _ _).alloc _
  have hBW : Blk (W1.alloc (.cells #[.int .i64 (what : Int)] 3)) W1.heap.size #[.int .i64 (what : Int)] 3 := Blk.new _ _ _
  have hzW : (W1.alloc (.cells #[.int .i64 (what : Int)] 3)).heap.size = W1.heap.size + 1 := World.size_alloc _ _
  generalize W1.alloc (.cells #[.int .i64 (what : Int)] 3) = W at *
  rw [hzW1] at hBW
  replace hBW1 := hBW1.keep hkW fun h => h
  replace hkW := hkW1.trans' hkW
  refine (veach_any addr size (fun k w' => Keep No W w' ∧ ∀ j, j < k → allow1E m what (pageOf addr + 256 * j) = 0) (fun er w' => er = 41 ∧ Keep No W w' ∧ ∃ j, j < pagesN addr size ∧ allow1E m what (pageOf addr + 256 * j) ≠ 0) hs ha hz (Enters.of3 (fun a b c w => by kernel_rfl) _ _) ⟨Keep.refl _ _, fun j hj => absurd hj (Nat.not_lt_zero _)⟩ ?_).mono ?_
  · rintro k w' hk ⟨hK, hall⟩
    have hpl := pageOf_le addr
    have hiff := (pages_step addr size k hs).2 hk
    have hsome := (there_take m addr size).1 hth k hk
    obtain ⟨p, hp⟩ := Option.isSome_iff_exists.1 hsome
    refine (vallowed1_any (x := w.heap.size) (y := w.heap.size + 1) (pageOf addr + 256 * k) what hw (by omega) (h.same fun j hj => (hkW.trans' hK).block j (hA j hj) fun h => h) hp (hBW1.keep hK fun h => h) (hBW.keep hK fun h => h)).mono ?_
    rintro e w2 ⟨rfl, h2⟩
    by_cases h0 : allow1E m what (pageOf addr + 256 * k) = 0
    · refine .inl ⟨by rw [h0]; rfl, hK.trans' h2, fun j hj => ?_⟩
      rcases Nat.lt_or_ge j k with h | h
      · exact hall j h
      · obtain rfl : j = k := by omega
        exact h0
    · have h41 : allow1E m what (pageOf addr + 256 * k) = 41 := by
        unfold allow1E at h0 ⊢
        rw [hp] at h0 ⊢
        simp only at h0 ⊢
        split at h0
        · rename_i hz; rw [if_pos hz]
        · exact absurd rfl h0
      exact .inr ⟨41, by decide, by rw [h41], rfl, hK.trans' h2, k, hk, h0⟩
  · rintro e w' (⟨rfl, hK, hall⟩ | ⟨er, hne, rfl, rfl, hK, j, hj, hbad⟩)
    · have he : allowedE m addr size what = 0 := by
        rw [HD.out, if_pos]
        unfold pagesOf
        rw [List.all_eq_true]
        intro a ha
        obtain ⟨k, hk, rfl⟩ := List.mem_map.1 ha
        simpa using hall k (List.mem_range.1 hk)
      have HE := Lib.hid he
      clear he HD
      go_wp2_with fail
      go_ret
      rw [HE.out]
      exact ⟨rfl, hkW.trans' hK⟩
    · have he : allowedE m addr size what = 41 := by
        rw [HD.out, if_neg]
        unfold pagesOf
        rw [List.all_eq_true]
        intro hall
        exact hbad (by simpa using hall _ (List.mem_map.2 ⟨j, List.mem_range.2 hj, rfl⟩))
      have HE := Lib.hid he
      clear he HD
      go_wp2_with fail
      go_ret
      rw [HE.out]
      exact ⟨rfl, hkW.trans' hK⟩
end
end Go.Proofs.YtaoillfofiehpaaGreatDoor
namespace Go.Dm.Vm
open Go
def byteAt (m : V) (a : Nat) : UInt8 := match pageAt m (pageOf a) with | some p => p.b.getD (a % 256) 0 | none => 0
def readB (m : V) (addr size : Nat) : List UInt8 := (List.range size).map fun i => byteAt m (addr + i)
def setB (m : V) (a : Nat) (c : UInt8) : V := m.map fun p => if p.addr = pageOf a then { p with b := p.b.set (a % 256) c } else p
def writeB : V → Nat → List UInt8 → V
  | m, _, [] => m
  | m, a, c :: r => writeB (setB m a c) (a + 1) r
theorem readB_len (m : V) (a n : Nat) : (readB m a n).length = n := by simp [readB]
theorem pageAt_map {m : V} {g : Pg → Pg} (hg : ∀ p, (g p).addr = p.addr) (x : Nat) : pageAt (m.map g) x = (pageAt m x).map g := by
  unfold pageAt
  rw [List.find?_map]
  have e : ((fun p : Pg => p.addr == x) ∘ g) = fun p : Pg => p.addr == x := by funext p; simp [hg]
  rw [e]
theorem setB_addr (a : Nat) (c : UInt8) (p : Pg) : (if p.addr = pageOf a then { p with b := p.b.set (a % 256) c } else p : Pg).addr = p.addr := by split <;> rfl
theorem pageAt_setB (m : V) (a : Nat) (c : UInt8) (x : Nat) : pageAt (setB m a c) x = (pageAt m x).map fun p => if p.addr = pageOf a then { p with b := p.b.set (a % 256) c } else p := pageAt_map (setB_addr a c) x
theorem setB_ok {m : V} (h : Ok m) (a : Nat) (c : UInt8) : Ok (setB m a c) := by
  refine ⟨?_, fun p hp => ?_, by unfold setB; rw [List.length_map]; exact h.len⟩
  · unfold setB
    rw [List.pairwise_map]
    exact h.srt.imp fun hlt => by rw [setB_addr, setB_addr]; exact hlt
  · obtain ⟨q, hq, rfl⟩ := List.mem_map.1 hp
    have h1 := h.pg q hq
    split
    · exact ⟨h1.al, h1.lt, h1.pr, by simp only [List.length_set]; exact h1.bl, h1.ol, h1.fl⟩
    · exact h1
theorem writeB_snoc (m : V) (a : Nat) (b : List UInt8) (c : UInt8) : writeB m a (b ++ [c]) = setB (writeB m a b) (a + b.length) c := by
  induction b generalizing m a with
  | nil => rfl
  | cons d r ih =>
    show writeB (setB m a d) (a + 1) (r ++ [c]) = _
    rw [ih]
    show setB (writeB (setB m a d) (a + 1) r) (a + 1 + r.length) c = setB (writeB (setB m a d) (a + 1) r) (a + (r.length + 1)) c
    rw [show a + 1 + r.length = a + (r.length + 1) by omega]
theorem there_setB (m : V) (a : Nat) (c : UInt8) (x n : Nat) : there (setB m a c) x n = there m x n := by
  unfold there
  congr 1
  funext y
  rw [pageAt_setB, Option.isSome_map]
theorem writeB_ok {m : V} (h : Ok m) (a : Nat) (b : List UInt8) : Ok (writeB m a b) := by
  induction b generalizing m a with
  | nil => exact h
  | cons c r ih => exact ih (setB_ok h a c) (a + 1)
theorem there_writeB (m : V) (a : Nat) (b : List UInt8) (x n : Nat) : there (writeB m a b) x n = there m x n := by
  induction b generalizing m a with
  | nil => rfl
  | cons c r ih => exact (ih (setB m a c) (a + 1)).trans (there_setB m a c x n)
/-- where a span is there each of its bytes has a page -/
theorem there_at {m : V} {addr size : Nat} (h : there m addr size = true) {i : Nat} (hi : i < size) : ∃ p, pageAt m (pageOf (addr + i)) = some p := by
  unfold there pagesOf at h
  rw [List.all_eq_true] at h
  have hk : (addr % 256 + i) / 256 < pagesN addr size := by unfold pagesN; omega
  have e : pageOf (addr + i) = pageOf addr + 256 * ((addr % 256 + i) / 256) := by unfold pageOf; omega
  have h1 := h _ (List.mem_map.2 ⟨_, List.mem_range.2 hk, rfl⟩)
  rw [← e] at h1
  exact Option.isSome_iff_exists.1 h1
end Go.Dm.Vm
namespace Go.Proofs.YtaoillfofiehpaaGreatDoor
open Go.RowKit Go.Dm Go.Dm.Vm Go.Maps

theorem info_u8 : (Tryz.prog.info? 5).map (fun i => (i.zero, i.size, i.bytes)) = some (some (.int .u8 0), 1, 1) := by kernel_rfl
def encB8 (b : UInt8) : List Value := [bv b]
theorem encB8_map (l : List UInt8) : l.flatMap encB8 = l.map bv := List.map_eq_flatMap.symm
theorem b8_one (b : UInt8) : ∀ u ∈ encB8 b, u.oneCell' = true := by
  intro u hu; simp only [encB8, List.mem_singleton] at hu; subst hu; rfl
section
variable {A : Nat → Prop} {w : World} {d mb : Nat} {f : Nat → Nat} {m : V}
theorem SRep.lk (h : SRep A w d m mb f) {a : Nat} {p : Pg} (ha : a < 18446744073709551616) (hg : pageAt m a = some p) (W : World) (hW : W.heap = w.heap) :
    (Instr.lookup 63 (.map (some mb)) (.int .u64 (a : Int)) false).run Tryz.prog W = .ok (.pointer (some ⟨f p.addr, 0, none⟩)) W := by
  have h1 := (h.mp.same (w' := W) (by rw [hW])).lookup kU64 Tryz.underlying63 (zPage W) (kOf ha)
  rw [findL_VL, hg] at h1
  exact h1
theorem SRep.byte (h : SRep A w d m mb f) {p : Pg} (hp : p ∈ m) {r : Nat} (hr : r < 256) : w.cell? ⟨f p.addr, 4 + r, none⟩ = some (bv (p.b.getD r 0)) := by
  rw [(h.pg p hp).2.cell, pgC_byte]
  have hl := (h.ok.pg p hp).bl
  rw [List.getD_eq_getElem?_getD, List.getElem?_eq_getElem (by omega)]
  rfl
set_option maxRecDepth 100000 in
set_option maxHeartbeats 2000000 in
theorem vread_any (addr size : Nat) (ha : addr ≤ top) (hz : size ≤ top - addr) (hs : size ≤ 1000000) (hth : there m addr size = true) (h : SRep A w d m mb f) (hA : ∀ k, A k → k < w.heap.size) :
    Calls Tryz.prog 43 #[ptrTo d, .int .u64 (addr : Int), .int .u64 (size : Int)] w fun e w' => ∃ v', e = .returned v' ∧ w'.ownsRow w.heap.size 5 1 v' size ((readB m addr size).map bv) ∧ Keep No w w' := by
  have ht : top = 4294967296 := rfl
  have q0 : w.cell? ⟨d, 0, none⟩ = some (.map (some mb)) := h.blk.cell 0
  unfold ptrTo
  go_enter Tryz.func43, Tryz.ntmps43
  go_wp2_with (at_make; refine wl_make rfl _ _ _ rfl _ _ rfl rfl ?_)
  obtain ⟨ti, hi, hz0, hz1, hz2⟩ := info_parts info_u8
  have hrun := run_make (P := Tryz.prog) w 24 5 ti (.int .u8 0) Tryz.underlying24 hi hz0 .i64 .u64 0 size (by omega) (by omega) (by rw [hz2]; omega) (by omega)
  rw [hz1, Nat.mul_one, Int.toNat_natCast, show Int.toNat 0 = 0 from rfl] at hrun
  refine .mk hrun ?_
  clear hrun
  have hka : Keep No w (w.alloc (.cells (madeCells (Value.int .u8 0).cells size) 5)) := (Keep.refl _ _).alloc _
  have hB0 : Blk (w.alloc (.cells (madeCells (Value.int .u8 0).cells size) 5)) w.heap.size (madeCells (Value.int .u8 0).cells size) 5 := Blk.new _ _ _
  have ho0 : FlO (w.alloc (.cells (madeCells (Value.int .u8 0).cells size) 5)) w.heap.size 5 1 encB8 (.slice (some ⟨w.heap.size, 0, none⟩) 0 size) (readB m addr 0) :=
    ⟨rfl, .inr ⟨w.heap.size, size, _, rfl, Nat.le_refl _, hB0, Nat.zero_le _, by unfold maxLen; omega, by simp [madeCells], by simp [readB]⟩⟩
  generalize w.alloc (.cells (madeCells (Value.int .u8 0).cells size) 5) = W at *
  clear hB0
  go_wp2_with fail
  go_loopw [7, 8] (fun ov av wr => ∃ i : Nat, av = .int .u64 ((addr + i : Nat) : Int) ∧ i ≤ size ∧ FlO wr w.heap.size 5 1 encB8 ov (readB m addr i) ∧ Keep No w wr) (fun _ av _ => addr + size - (intOf av).toNat)
  case atStart => exact ⟨0, rfl, Nat.zero_le _, ho0, hka⟩
  case round =>
    clear ho0 hka
    obtain ⟨i, rfl, hi', ho, hK⟩ := hrel
    have h' := h.same fun j hj => hK.block j (hA j hj) fun h => h
    obtain ⟨ao, co, rfl, _, _⟩ := ho.fl.shape
    rw [readB_len] at *
    rcases Nat.lt_or_ge i size with hlt | hge
    · obtain ⟨p, hp⟩ := there_at hth hlt
      obtain ⟨hpm, hpa⟩ := get_mem hp
      have hltz : ((addr + i : Nat) : Int) < (addr : Int) + (size : Int) := by omega
      have hr : ((addr + i : Nat) : Int) % 256 = (((addr + i) % 256 : Nat) : Int) := by omega
      have hr256 : (addr + i) % 256 < 256 := Nat.mod_lt _ (by decide)
      have hby := h'.byte hpm hr256
      have hbv : byteAt m (addr + i) = p.b.getD ((addr + i) % 256) 0 := by unfold byteAt; rw [hp]
      have hpo : pageOf (addr + i) < 18446744073709551616 := by unfold pageOf; omega
      have hlkA : ∀ W, Keep No wr W → (Instr.lookup 63 (.map (some mb)) (.int .u64 ((pageOf (addr + i) : Nat) : Int)) false).run Tryz.prog W = .ok (.pointer (some ⟨f p.addr, 0, none⟩)) W := fun W hk => (h'.same fun j hj => hk.block j (Nat.lt_of_lt_of_le (hA j hj) hK.size) fun h => h).lk hpo hp W rfl
      have hlkd := hlkA wr.drew (Keep.refl No wr).drew
      have HLK := Lib.hid hlkA
      clear hlkA hpo
      have hrs : readB m addr (i + 1) = readB m addr i ++ [byteAt m (addr + i)] := by unfold readB; rw [List.range_succ, List.map_append]; rfl
      have q1 := (hK.cell (p := ⟨d, 0, none⟩) h.blk.lt (fun h => h)).trans q0
      have hal : addr + i < 18446744073709551616 := by omega
      have hstp : addr + i + 1 = addr + (i + 1) := by omega
      have H1 := Lib.hid hstp
      have HRS := Lib.hid hrs
      rw [hbv] at HRS
      clear hrs hbv hstp hp hpa q0
      generalize p.b.getD ((addr + i) % 256) 0 = x at *
      generalize f p.addr = g at *
      generalize (addr + i) % 256 = r at *
      generalize addr + i = at_ at *
      have hrz : (r : Int) < 256 := by omega
      have hrt : (at_ : Int).tmod 256 = (r : Int) := by rw [IntWalk.rem_in _ _ (by omega)]; exact hr
      unfold bv at hby
      go_wp2_with fail
      refine wp_region_sig (fun w' => w'.cell? ⟨d, 0, none⟩ = some (.map (some mb)) ∧ w'.cell? ⟨g, 4 + r, none⟩ = some (.int .u8 (x.toNat : Int)) ∧ (Instr.lookup 63 (.map (some mb)) (.int .u64 ((pageOf at_ : Nat) : Int)) false).run Tryz.prog w' = .ok (.pointer (some ⟨g, 0, none⟩)) w') (fun j => decide (j ≤ 14)) [(0, true), (1, true), (2, true), (3, true), (4, true), (5, true), (8, true), (9, true), (6, false), (7, true), (10, true), (11, true), (12, true), (13, true), (14, false), (15, false), (16, false)] (by kernel_rfl) (by kernel_rfl) (by intro c a d v w h; cases d <;> exact h) ⟨q1, hby, hlkd⟩ ?_
      apply sig_still (o := ⟨some 19, _, _, _, _, _⟩) rfl rfl
      · intro w' hS
        obtain ⟨q1, q2, q3⟩ := hS
        first | (go_simp; done) | (go_simp; rfl) | rfl
      go_frame
      apply sig_still (o := ⟨some 20, _, _, _, _, _⟩) rfl rfl
      · intro w' hS
        obtain ⟨q1, q2, q3⟩ := hS
        first | (go_simp; done) | (go_simp; rfl) | rfl
      go_frame
      apply sig_still (o := ⟨some 21, _, _, _, _, _⟩) rfl rfl
      · intro w' hS
        obtain ⟨q1, q2, q3⟩ := hS
        first | (go_simp; done) | (go_simp; rfl) | rfl
      go_frame
      apply sig_still (o := ⟨some 22, _, _, _, _, _⟩) rfl rfl
      · intro w' hS
        obtain ⟨q1, q2, q3⟩ := hS
        first | (go_simp; done) | (go_simp; rfl) | rfl
      go_frame
      apply sig_still (o := ⟨some 23, _, _, _, _, _⟩) rfl rfl
      · intro w' hS
        obtain ⟨q1, q2, q3⟩ := hS
        first | (go_simp; done) | (go_simp; rfl) | rfl
      go_frame
      apply sig_still (o := ⟨some 24, _, _, _, _, _⟩) rfl rfl
      · intro w' hS
        obtain ⟨q1, q2, q3⟩ := hS
        first | (go_simp; done) | (go_simp; rfl) | rfl
      go_frame
      apply sig_still (o := ⟨some 27, _, _, _, _, _⟩) rfl rfl
      · intro w' hS
        obtain ⟨q1, q2, q3⟩ := hS
        first | (go_simp; done) | (go_simp; rfl) | rfl
      go_frame
      apply sig_still (o := ⟨some 28, _, _, _, _, _⟩) rfl rfl
      · intro w' hS
        obtain ⟨q1, q2, q3⟩ := hS
        first | (go_simp; done) | (go_simp; rfl) | rfl
      go_frame
      refine sig_eff (o := ⟨some 25, _, _, _, _, _⟩) rfl rfl (fun K hKe => ?_)
      go_wp2_with fail
      refine (vbase_any at_ hal _).mono ?_
      rintro e X ⟨rfl, rfl⟩
      go_wp2_with fail
      refine ⟨fun _ => ⟨q1, hby, hlkd⟩, ?_⟩
      apply sig_still (o := ⟨some 26, _, _, _, _, _⟩) rfl rfl
      · intro w' hS
        obtain ⟨q1, q2, q3⟩ := hS
        first | (go_simp; done) | (go_simp; rfl) | rfl
      go_frame
      apply sig_still (o := ⟨some 29, _, _, _, _, _⟩) rfl rfl
      · intro w' hS
        obtain ⟨q1, q2, q3⟩ := hS
        first | (go_simp; done) | (go_simp; rfl) | rfl
      go_frame
      apply sig_still (o := ⟨some 30, _, _, _, _, _⟩) rfl rfl
      · intro w' hS
        obtain ⟨q1, q2, q3⟩ := hS
        first | (go_simp; done) | (go_simp; rfl) | rfl
      go_frame
      apply sig_still (o := ⟨some 31, _, _, _, _, _⟩) rfl rfl
      · intro w' hS
        obtain ⟨q1, q2, q3⟩ := hS
        first | (go_simp; done) | (go_simp; rfl) | rfl
      go_frame
      apply sig_still (o := ⟨some 32, _, _, _, _, _⟩) rfl rfl
      · intro w' hS
        obtain ⟨q1, q2, q3⟩ := hS
        first | (go_simp; done) | (go_simp; rfl) | rfl
      go_frame
      have hkd : Keep No wr (wr.drew.alloc (.cells #[.int .u8 (x.toNat : Int)] 5)) := ((Keep.refl No wr).drew).alloc _
      have hlk2 := HLK.out _ hkd
      have r1 := (hkd.cell (p := ⟨d, 0, none⟩) h'.blk.lt (fun h => h)).trans q1
      have r2 := (hkd.cell (p := ⟨g, 4 + r, none⟩) (World.block_lt_of_cell? wr _ hby) (fun h => h)).trans hby
      refine sig_eff (o := ⟨some 33, _, _, _, _, _⟩) rfl rfl (fun K hKe => ?_)
      go_wp2_with fail
      refine ⟨fun _ => ⟨r1, r2, hlk2⟩, ?_⟩
      refine sig_eff (o := ⟨some 34, _, _, _, _, _⟩) rfl rfl (fun K hKe => ?_)
      refine wo_append _ _ _ _ rfl _ _ rfl rfl ?_
      have hod : FlO wr.drew w.heap.size 5 1 encB8 (.slice ao i co) (readB m addr i) := FlO.no ho (Keep.refl No wr).drew
      have hwd : wr.drew.heap.size = wr.heap.size := rfl
      refine rg_push (w := wr.drew) (.int .u8 0) 1 Tryz.underlying24 info_u8 rfl (by decide) (enc := encB8) (x := x) rfl rfl (b8_one _) hod (by rw [readB_len]; omega) (by decide) (by rw [hwd]; exact hK.size) ?_
      intro v' w2 ho2 hk2 _
      have hK2 := (hK.trans' (Keep.refl No wr).drew).own hod hk2
      refine hKe _ _ ⟨fun h => by simp at h, ?_⟩
      clear hkd hlk2 r1 r2 hod ho hK h' hk2
      obtain ⟨ao2, co2, rfl, _, _⟩ := ho2.fl.shape
      rw [show (readB m addr i ++ [x]).length = i + 1 by rw [List.length_append, readB_len]; rfl] at ho2
      rw [show (readB m addr i ++ [x]).length = i + 1 by rw [List.length_append, readB_len]; rfl]
      refine sig_eff (o := ⟨some 7, _, _, _, _, _⟩) rfl rfl (fun K hKe => ?_)
      go_wp2_with fail
      refine ⟨fun h => by simp at h, sig_nil ?_⟩
      go_wp2_with fail
      go_roundw
      case rel => exact ⟨i + 1, by rw [← H1.out]; go_num, hlt, by rw [HRS.out]; exact ho2, hK2⟩
      case measure => have := H1.out; simp [intOf]; omega
    · obtain rfl : i = size := Nat.le_antisymm hi' hge
      have hgez : ((addr + i : Nat) : Int) ≥ (addr : Int) + (i : Int) := by omega
      clear h'
      go_wp2_with fail
      go_ret
      unfold FlO at ho
      rw [readB_len, encB8_map] at ho
      exact ⟨_, rfl, ho, hK⟩
theorem pgC_set (p : Pg) (r : Nat) (c : UInt8) : (pgC p).setIfInBounds (4 + r) (bv c) = pgC { p with b := p.b.set r c } := by
  apply Array.toList_inj.1
  rw [Array.toList_setIfInBounds, show 4 + r = r + 4 by omega]
  simp [pgC, List.map_set]
/-- a byte is written -/
theorem SRep.setB (h : SRep A w d m mb f) {p : Pg} {a : Nat} (hg : pageAt m (pageOf a) = some p) (c : UInt8) : SRep A (w.setCell ⟨f p.addr, 4 + a % 256, none⟩ (bv c)) d (Vm.setB m a c) mb f := by
  obtain ⟨hpm, hpa⟩ := get_mem hg
  have hB := (h.pg p hpm).2
  have hk : Keep (fun j => j = f p.addr) w (w.setCell ⟨f p.addr, 4 + a % 256, none⟩ (bv c)) := (Keep.refl (fun j => j = f p.addr) w).setCell (p := ⟨f p.addr, 4 + a % 256, none⟩) (fun _ => rfl) _
  have hdne : d ≠ f p.addr := fun e => by
    have h1 := h.blk
    rw [e] at h1
    unfold Blk at h1 hB
    rw [hB] at h1
    simp at h1
  refine ⟨h.blk.keep hk hdne, ?_, fun q hq => ?_, fun q hq q' hq' e => ?_, setB_ok h.ok a c, h.Ad, h.Am⟩
  · have e : VL f (Vm.setB m a c) = VL f m := by
      unfold VL Vm.setB
      rw [List.map_map]
      apply List.map_congr_left
      intro q _
      simp only [Function.comp, setB_addr]
    rw [e]
    exact h.mp.keep hk (h.mp.ne_blk hB)
  · obtain ⟨q, hqm, rfl⟩ := List.mem_map.1 hq
    rw [setB_addr]
    refine ⟨(h.pg q hqm).1, ?_⟩
    by_cases e : q.addr = pageOf a
    · have eq : q = p := by
        have h1 := get_of_mem h.ok.srt hqm
        rw [e, hg] at h1
        exact (Option.some.inj h1).symm
      subst eq
      rw [if_pos e, ← pgC_set]
      exact hB.set (bv c)
    · rw [if_neg e]
      refine (h.pg q hqm).2.keep hk fun e2 => e ?_
      rw [h.inj q hqm p hpm e2]; exact hpa
  · obtain ⟨q, hqm, rfl⟩ := List.mem_map.1 hq
    obtain ⟨q', hqm', rfl⟩ := List.mem_map.1 hq'
    rw [setB_addr, setB_addr] at e ⊢
    exact h.inj q hqm q' hqm' e
set_option maxRecDepth 100000 in
set_option maxHeartbeats 2000000 in
theorem vwrite_any {B : Nat → Prop} {vb : Value} (addr : Nat) (b : List UInt8) (ha : addr ≤ top) (hz : b.length ≤ top - addr) (hs : b.length ≤ 1000000) (hth : there m addr b.length = true) (h : SRep A w d m mb f) (hA : ∀ k, A k → k < w.heap.size) (hb : Bts B w vb b) (hBA : ∀ k, B k → ¬ A k) :
    Calls Tryz.prog 26 #[ptrTo d, .int .u64 (addr : Int), vb] w fun e w' => e = .returned (.tuple #[]) ∧ SRep A w' d (writeB m addr b) mb f ∧ Keep A w w' := by
  have ht : top = 4294967296 := rfl
  obtain ⟨ab, cb, rfl, _, _⟩ := hb.shape
  unfold ptrTo
  go_enter Tryz.func26, Tryz.ntmps26
  go_wp2_with fail
  go_loopw [11] (fun iv wr => ∃ i : Nat, iv = .int .i64 i ∧ i ≤ b.length ∧ SRep A wr d (writeB m addr (b.take i)) mb f ∧ Keep A w wr) (fun iv _ => b.length - (intOf iv).toNat)
  case atStart => exact ⟨0, rfl, Nat.zero_le _, h, Keep.refl _ _⟩
  case round =>
    clear h
    obtain ⟨i, rfl, hi, h, hK⟩ := hrel
    rcases Nat.lt_or_ge i b.length with hlt | hge
    · obtain ⟨g0, off, cap, e, hg0, hgl, _, _, hcell⟩ := hb.at (by omega)
      cases e
      have qb : wr.cell? ⟨g0, off + i, none⟩ = some (bv b[i]) := (hK.cell (p := ⟨g0, off + i, none⟩) hgl (hBA g0 hg0)).trans (hcell i _ (by rw [List.getElem?_map, List.getElem?_eq_getElem hlt]; rfl))
      have hth2 : there (writeB m addr (b.take i)) addr b.length = true := by rw [there_writeB]; exact hth
      obtain ⟨p, hp⟩ := there_at hth2 hlt
      obtain ⟨hpm, hpa⟩ := get_mem hp
      have hset := h.setB hp b[i]
      have hwr : writeB m addr (b.take (i + 1)) = Vm.setB (writeB m addr (b.take i)) (addr + i) b[i] := by
        rw [List.take_succ_eq_append_getElem hlt, writeB_snoc, List.length_take, Nat.min_eq_left (by omega)]
      rw [← hwr] at hset
      have hkset := hK.setCell (p := ⟨f p.addr, 4 + (addr + i) % 256, none⟩) (fun _ => (h.pg p hpm).1) (bv b[i])
      have hr256 : (addr + i) % 256 < 256 := Nat.mod_lt _ (by decide)
      have hr : ((addr + i : Nat) : Int) % 256 = (((addr + i) % 256 : Nat) : Int) := by omega
      have hby := h.byte hpm hr256
      have hfz : wr.frozen? ⟨f p.addr, 4 + (addr + i) % 256, none⟩ = false := (h.pg p hpm).2.frozen _
      have hpo : pageOf (addr + i) < 18446744073709551616 := by unfold pageOf; omega
      have hlkd := h.lk hpo hp wr.drew rfl
      have q1 : wr.cell? ⟨d, 0, none⟩ = some (.map (some mb)) := h.blk.cell 0
      have hal : addr + i < 18446744073709551616 := by omega
      have hsum : (addr : Int) + (i : Int) = ((addr + i : Nat) : Int) := by omega
      have hltz : (i : Int) < (b.length : Int) := by omega
      clear hcell hwr hp hpa hpo hth2 h hK
      generalize b[i] = x at *
      generalize (writeB m addr (b.take i)) = mi at *
      generalize p.b.getD ((addr + i) % 256) 0 = y at *
      generalize f p.addr = g at *
      generalize (addr + i) % 256 = r at *
      have hrt : ((addr + i : Nat) : Int).tmod 256 = (r : Int) := by rw [IntWalk.rem_in _ _ (by omega)]; exact hr
      have HS := Lib.hid hsum
      clear hsum
      have hrz : (r : Int) < 256 := by omega
      unfold bv at qb hby
      go_wp2_with fail
      rw [HS.out]
      generalize addr + i = at_ at *
      refine wp_region_sig (fun w' => w'.cell? ⟨d, 0, none⟩ = some (.map (some mb)) ∧ w'.cell? ⟨g, 4 + r, none⟩ = some (.int .u8 (y.toNat : Int)) ∧ w'.frozen? ⟨g, 4 + r, none⟩ = false ∧ (Instr.lookup 63 (.map (some mb)) (.int .u64 ((pageOf at_ : Nat) : Int)) false).run Tryz.prog w' = .ok (.pointer (some ⟨g, 0, none⟩)) w') (fun j => decide (j ≤ 12)) [(0, true), (1, true), (2, true), (3, true), (4, true), (7, true), (8, true), (9, true), (5, false), (6, true), (10, true), (11, true), (12, true), (13, false)] (by kernel_rfl) (by kernel_rfl) (by intro c a d v w h; cases d <;> exact h) ⟨q1, hby, hfz, hlkd⟩ ?_
      apply sig_still (o := ⟨some 20, _, _, _, _, _⟩) rfl rfl
      · intro w' hS
        obtain ⟨q1, q2, q3, q4⟩ := hS
        first | (go_simp; done) | (go_simp; rfl) | rfl
      go_frame
      apply sig_still (o := ⟨some 21, _, _, _, _, _⟩) rfl rfl
      · intro w' hS
        obtain ⟨q1, q2, q3, q4⟩ := hS
        first | (go_simp; done) | (go_simp; rfl) | rfl
      go_frame
      apply sig_still (o := ⟨some 22, _, _, _, _, _⟩) rfl rfl
      · intro w' hS
        obtain ⟨q1, q2, q3, q4⟩ := hS
        first | (go_simp; done) | (go_simp; rfl) | rfl
      go_frame
      apply sig_still (o := ⟨some 23, _, _, _, _, _⟩) rfl rfl
      · intro w' hS
        obtain ⟨q1, q2, q3, q4⟩ := hS
        first | (go_simp; done) | (go_simp; rfl) | rfl
      go_frame
      apply sig_still (o := ⟨some 24, _, _, _, _, _⟩) rfl rfl
      · intro w' hS
        obtain ⟨q1, q2, q3, q4⟩ := hS
        first | (go_simp; done) | (go_simp; rfl) | rfl
      go_frame
      apply sig_still (o := ⟨some 27, _, _, _, _, _⟩) rfl rfl
      · intro w' hS
        obtain ⟨q1, q2, q3, q4⟩ := hS
        first | (go_simp; done) | (go_simp; rfl) | rfl
      go_frame
      apply sig_still (o := ⟨some 28, _, _, _, _, _⟩) rfl rfl
      · intro w' hS
        obtain ⟨q1, q2, q3, q4⟩ := hS
        first | (go_simp; done) | (go_simp; rfl) | rfl
      go_frame
      apply sig_still (o := ⟨some 29, _, _, _, _, _⟩) rfl rfl
      · intro w' hS
        obtain ⟨q1, q2, q3, q4⟩ := hS
        first | (go_simp; done) | (go_simp; rfl) | rfl
      go_frame
      refine sig_eff (o := ⟨some 25, _, _, _, _, _⟩) rfl rfl (fun K hKe => ?_)
      go_wp2_with fail
      refine (vbase_any at_ hal _).mono ?_
      rintro e X ⟨rfl, rfl⟩
      go_wp2_with fail
      refine ⟨fun _ => ⟨q1, hby, hfz, hlkd⟩, ?_⟩
      apply sig_still (o := ⟨some 26, _, _, _, _, _⟩) rfl rfl
      · intro w' hS
        obtain ⟨q1, q2, q3, q4⟩ := hS
        first | (go_simp; done) | (go_simp; rfl) | rfl
      go_frame
      apply sig_still (o := ⟨some 30, _, _, _, _, _⟩) rfl rfl
      · intro w' hS
        obtain ⟨q1, q2, q3, q4⟩ := hS
        first | (go_simp; done) | (go_simp; rfl) | rfl
      go_frame
      apply sig_still (o := ⟨some 31, _, _, _, _, _⟩) rfl rfl
      · intro w' hS
        obtain ⟨q1, q2, q3, q4⟩ := hS
        first | (go_simp; done) | (go_simp; rfl) | rfl
      go_frame
      apply sig_still (o := ⟨some 32, _, _, _, _, _⟩) rfl rfl
      · intro w' hS
        obtain ⟨q1, q2, q3, q4⟩ := hS
        first | (go_simp; done) | (go_simp; rfl) | rfl
      go_frame
      refine sig_eff (o := ⟨none, _, _, _, _, _⟩) rfl rfl (fun K hKe => ?_)
      go_wp2_with fail
      refine ⟨fun h => by simp at h, sig_nil ?_⟩
      go_wp2_with fail
      go_roundw
      case rel => exact ⟨i + 1, by go_num, hlt, hset.same (fun _ _ => rfl), hkset.drew⟩
      case measure => simp [intOf]; omega
    · obtain rfl : i = b.length := Nat.le_antisymm hi hge
      have hgez : (b.length : Int) ≥ (b.length : Int) := Int.le_refl _
      rw [List.take_length] at h
      go_wp2_with fail
      go_end0
      exact ⟨rfl, h, hK⟩
end
end Go.Proofs.YtaoillfofiehpaaGreatDoor
namespace Go.Dm.Oc
open Go
/-- the number of bytes, the lowest first -/
def leN : List UInt8 → Nat
  | [] => 0
  | b :: r => b.toNat + 256 * leN r
def le : Nat → Nat → List UInt8
  | 0, _ => []
  | n + 1, x => UInt8.ofNat (x % 256) :: le n (x / 256)
theorem le_len (n x : Nat) : (le n x).length = n := by
  induction n generalizing x with
  | zero => rfl
  | succ n ih => simp [le, ih]
theorem leN_le (n x : Nat) : leN (le n x) = x % 256 ^ n := by
  induction n generalizing x with
  | zero => simp [le, leN, Nat.mod_one]
  | succ n ih =>
    simp only [le, leN, ih, UInt8.toNat_ofNat', Nat.reducePow, Nat.mod_mod]
    rw [Nat.pow_succ, Nat.mul_comm (256 ^ n) 256, Nat.mod_mul]
theorem leN_lt (l : List UInt8) : leN l < 256 ^ l.length := by
  induction l with
  | nil => simp [leN]
  | cons b r ih =>
    have := b.toNat_lt
    simp only [leN, List.length_cons, Nat.pow_succ]
    omega
theorem leN_snoc (l : List UInt8) (b : UInt8) : leN (l ++ [b]) = leN l + 256 ^ l.length * b.toNat := by
  induction l with
  | nil => simp [leN]
  | cons c r ih =>
    simp only [List.cons_append, leN, ih, List.length_cons, Nat.pow_succ]
    rw [Nat.mul_add, Nat.mul_comm (256 ^ r.length) 256, Nat.mul_assoc, Nat.add_assoc]
theorem le_get (n x i : Nat) (hi : i < n) : (le n x)[i]'(by rw [le_len]; exact hi) = UInt8.ofNat (x / 256 ^ i % 256) := by
  induction n generalizing x i with
  | zero => omega
  | succ n ih =>
    cases i with
    | zero => simp [le]
    | succ i =>
      simp only [le, List.getElem_cons_succ]
      rw [ih (x / 256) i (by omega), Nat.div_div_eq_div_mul, Nat.pow_succ, Nat.mul_comm 256]
/-- one byte more is laid on top -/
theorem or_top (x b n : Nat) (hx : x < 2 ^ n) : x ||| (b * 2 ^ n) = x + 2 ^ n * b := by
  rw [Nat.or_comm, Go.nat_join n (b * 2 ^ n) x (Nat.mul_mod_left _ _) hx, Nat.mul_comm]; omega
theorem pow256 (i : Nat) : 256 ^ i = 2 ^ (8 * i) := by rw [Nat.pow_mul]
def widthB (n : Int) : Bool := decide (n = 1 ∨ n = 2 ∨ n = 4 ∨ n = 8)
def hasB (many at_ size : Nat) : Bool := decide (at_ ≤ many) && decide (size ≤ many - at_)
def fitsE (many at_ : Nat) (n : Int) : Nat := if widthB n then if hasB many at_ n.toNat then 0 else 10 else 1
def getX (b : List UInt8) (at_ : Nat) (n : Int) : Nat := if fitsE b.length at_ n = 0 then leN ((b.drop at_).take n.toNat) else 0
theorem fits_parts {many at_ : Nat} {n : Int} (h : fitsE many at_ n = 0) : (n = 1 ∨ n = 2 ∨ n = 4 ∨ n = 8) ∧ at_ ≤ many ∧ n.toNat ≤ many - at_ := by
  unfold fitsE at h
  split at h
  · rename_i hw
    split at h
    · rename_i hh
      simp only [hasB, Bool.and_eq_true, decide_eq_true_eq] at hh
      simp only [widthB, decide_eq_true_eq] at hw
      exact ⟨hw, hh⟩
    · cases h
  · cases h
/-- bytes laid over others from a place on -/
def setR : List UInt8 → Nat → List UInt8 → List UInt8
  | l, _, [] => l
  | l, k, x :: r => setR (l.set k x) (k + 1) r
theorem setR_len (l : List UInt8) (k : Nat) (c : List UInt8) : (setR l k c).length = l.length := by
  induction c generalizing l k with
  | nil => rfl
  | cons x r ih => unfold setR; rw [ih, List.length_set]
theorem setR_snoc (l : List UInt8) (k : Nat) (c : List UInt8) (x : UInt8) : setR l k (c ++ [x]) = (setR l k c).set (k + c.length) x := by
  induction c generalizing l k with
  | nil => rfl
  | cons y r ih =>
    show setR (l.set k y) (k + 1) (r ++ [x]) = (setR (l.set k y) (k + 1) r).set (k + (r.length + 1)) x
    rw [ih]
    congr 1
    omega
theorem setR_whole (l c : List UInt8) (h : c.length = l.length) : setR l 0 c = c := by
  suffices h2 : ∀ (k : Nat) (l c : List UInt8), k + c.length = l.length → setR l k c = l.take k ++ c by simpa using h2 0 l c (by omega)
  intro k l c
  induction c generalizing k l with
  | nil => intro h; simp only [setR, List.append_nil]; rw [List.take_of_length_le (by simpa using Nat.le_of_eq h.symm)]
  | cons x r ih =>
    intro h
    rw [List.length_cons] at h
    unfold setR
    rw [ih (k + 1) (l.set k x) (by rw [List.length_set]; omega), List.take_succ_eq_append_getElem (by rw [List.length_set]; omega), List.getElem_set_self, List.take_set_of_le (Nat.le_refl _), List.append_assoc]
    rfl
theorem getX_whole (b : List UInt8) (n : Nat) (h : b.length = n) (hn : n = 1 ∨ n = 2 ∨ n = 4 ∨ n = 8) : fitsE b.length 0 n = 0 ∧ getX b 0 n = leN b := by
  have hf : fitsE b.length 0 n = 0 := by
    unfold fitsE
    rw [if_pos (by simp only [widthB, decide_eq_true_eq]; omega), if_pos (by simp only [hasB, Bool.and_eq_true, decide_eq_true_eq]; omega)]
  refine ⟨hf, ?_⟩
  unfold getX
  rw [if_pos hf, List.drop_zero, List.take_of_length_le (by omega)]
end Go.Dm.Oc
namespace Go.Dm.Vm
open Go Go.Proofs.YtaoillfofiehpaaGreatDoor Go.Dm.Oc

def noughts : List UInt8 := List.replicate 256 0
theorem noughts_len : noughts.length = 256 := List.length_replicate ..
/-- a page in its place -/
def insP (p : Pg) : V → V
  | [] => [p]
  | q :: r => if p.addr < q.addr then p :: q :: r else q :: insP p r
theorem insP_perm (p : Pg) (m : V) : (insP p m).Perm (p :: m) := by
  induction m with
  | nil => exact List.Perm.refl _
  | cons q r ih =>
    unfold insP
    split
    · exact List.Perm.refl _
    · exact (ih.cons q).trans (List.Perm.swap p q r)
theorem insP_mem {p x : Pg} {m : V} : x ∈ insP p m ↔ x = p ∨ x ∈ m := by rw [(insP_perm p m).mem_iff, List.mem_cons]
theorem insP_len (p : Pg) (m : V) : (insP p m).length = m.length + 1 := by rw [(insP_perm p m).length_eq, List.length_cons]
theorem insP_srt {p : Pg} {m : V} (h : m.Pairwise (fun p q => p.addr < q.addr)) (hn : ∀ q ∈ m, q.addr ≠ p.addr) : (insP p m).Pairwise (fun p q => p.addr < q.addr) := by
  induction m with
  | nil => simp [insP]
  | cons q r ih =>
    rw [List.pairwise_cons] at h
    unfold insP
    split
    · rename_i hlt
      rw [List.pairwise_cons]
      refine ⟨fun x hx => ?_, List.pairwise_cons.2 h⟩
      rcases List.mem_cons.1 hx with rfl | hx
      · exact hlt
      · exact Nat.lt_trans hlt (h.1 x hx)
    · rename_i hge
      rw [List.pairwise_cons]
      refine ⟨fun x hx => ?_, ih h.2 fun q hq => hn q (List.mem_cons_of_mem _ hq)⟩
      rcases insP_mem.1 hx with rfl | hx
      · have := hn q (List.mem_cons_self ..)
        omega
      · exact h.1 x hx
theorem insP_ok {p : Pg} {m : V} (h : Ok m) (hp : PgOk p) (hn : ∀ q ∈ m, q.addr ≠ p.addr) (hl : m.length < 512) : Ok (insP p m) :=
  ⟨insP_srt h.srt hn, fun q hq => (insP_mem.1 hq).elim (fun e => e ▸ hp) (h.pg q), by rw [insP_len]; omega⟩
def newPg (addr prot : Nat) (file : List UInt8) (off k : Nat) : Pg := ⟨addr + 256 * k, prot, false, file, if file = [] then 0 else (off + 256 * k) % 18446744073709551616, noughts⟩
def mapN (m : V) (addr prot : Nat) (file : List UInt8) (off : Nat) : Nat → V
  | 0 => m
  | k + 1 => insP (newPg addr prot file off k) (mapN m addr prot file off k)
def over (m : V) (addr size : Nat) : Bool := m.any fun p => decide (addr ≤ p.addr) && decide (p.addr - addr < size)
def mapE (m : V) (addr size : Nat) (prot : Int) : Nat := if may addr size prot then if over m addr size then 12 else if size / 256 > 512 - m.length then 13 else 0 else 1
def mapV (m : V) (addr size : Nat) (prot : Int) (file : List UInt8) (off : Nat) : V := if mapE m addr size prot = 0 then mapN m addr prot.toNat file off (size / 256) else m
theorem may_parts {addr size : Nat} {prot : Int} (h : may addr size prot = true) : addr % 256 = 0 ∧ size % 256 = 0 ∧ 0 < size ∧ addr ≤ top ∧ size ≤ top - addr ∧ 0 ≤ prot ∧ prot ≤ 7 := by
  simp only [may, Bool.and_eq_true, beq_iff_eq, decide_eq_true_eq] at h
  omega
theorem may_pages {addr size : Nat} {prot : Int} (h : may addr size prot = true) : pagesN addr size = size / 256 ∧ pageOf addr = addr := by
  have := may_parts h
  unfold pagesN pageOf
  omega
theorem mem_mapN {m : V} {addr prot : Nat} {file : List UInt8} {off k : Nat} {x : Pg} : x ∈ mapN m addr prot file off k ↔ x ∈ m ∨ ∃ j, j < k ∧ x = newPg addr prot file off j := by
  induction k with
  | zero => simp [mapN]
  | succ k ih =>
    unfold mapN
    rw [insP_mem, ih]
    constructor
    · rintro (rfl | h | ⟨j, hj, rfl⟩)
      · exact .inr ⟨k, by omega, rfl⟩
      · exact .inl h
      · exact .inr ⟨j, by omega, rfl⟩
    · rintro (h | ⟨j, hj, rfl⟩)
      · exact .inr (.inl h)
      · rcases Nat.lt_or_ge j k with h | h
        · exact .inr (.inr ⟨j, h, rfl⟩)
        · obtain rfl : j = k := by omega
          exact .inl rfl
theorem mapN_len (m : V) (addr prot : Nat) (file : List UInt8) (off k : Nat) : (mapN m addr prot file off k).length = m.length + k := by
  induction k with
  | zero => rfl
  | succ k ih => unfold mapN; rw [insP_len, ih]; rfl
/-- ahead of the k-th page of a span that nobody has, its address is free -/
theorem mapN_free {m : V} {addr size prot : Nat} {file : List UInt8} {off k : Nat} (ho : over m addr size = false) (hk : 256 * k < size) : ∀ q ∈ mapN m addr prot file off k, q.addr ≠ addr + 256 * k := by
  intro q hq e
  rcases mem_mapN.1 hq with h | ⟨j, hj, rfl⟩
  · have h1 := List.any_eq_false.1 ho q h
    simp only [Bool.and_eq_true, decide_eq_true_eq, not_and] at h1
    omega
  · simp only [newPg] at e; omega
theorem newPg_ok {addr size prot : Nat} {file : List UInt8} {off k : Nat} (ha : addr % 256 = 0) (hs : addr + size ≤ top) (hp : prot ≤ 7) (hf : file.length ≤ maxLen) (hk : 256 * k < size) : PgOk (newPg addr prot file off k) := by
  refine ⟨?_, ?_, hp, noughts_len, ?_, hf⟩
  · simp only [newPg]; omega
  · simp only [newPg]; omega
  · simp only [newPg]
    split <;> omega
theorem mapN_ok {m : V} {addr size prot : Nat} {file : List UInt8} {off k : Nat} (h : Ok m) (ha : addr % 256 = 0) (hs : addr + size ≤ top) (hp : prot ≤ 7) (hf : file.length ≤ maxLen) (ho : over m addr size = false) (hk : 256 * k ≤ size) (hl : m.length + k ≤ 512) : Ok (mapN m addr prot file off k) := by
  induction k with
  | zero => exact h
  | succ k ih =>
    have ih := ih (by omega) (by omega)
    exact insP_ok ih (newPg_ok ha hs hp hf (by omega)) (mapN_free ho (by omega)) (by rw [mapN_len]; omega)
/-- a page is made another -/
def upd (m : V) (a : Nat) (g : Pg → Pg) : V := m.map fun p => if p.addr = a then g p else p
def updN (g : Pg → Pg) (m : V) (a : Nat) : Nat → V
  | 0 => m
  | k + 1 => upd (updN g m a k) (a + 256 * k) g
theorem upd_addr {g : Pg → Pg} (hg : ∀ p, (g p).addr = p.addr) (a : Nat) (p : Pg) : (if p.addr = a then g p else p : Pg).addr = p.addr := by split; exact hg p; rfl
theorem upd_ok {m : V} (h : Ok m) {g : Pg → Pg} (hg : ∀ p, (g p).addr = p.addr) (hok : ∀ p, PgOk p → PgOk (g p)) (a : Nat) : Ok (upd m a g) := by
  refine ⟨?_, fun p hp => ?_, by unfold upd; rw [List.length_map]; exact h.len⟩
  · unfold upd
    rw [List.pairwise_map]
    exact h.srt.imp fun hlt => by rw [upd_addr hg, upd_addr hg]; exact hlt
  · obtain ⟨q, hq, rfl⟩ := List.mem_map.1 hp
    split
    · exact hok q (h.pg q hq)
    · exact h.pg q hq
theorem pageAt_upd (m : V) {g : Pg → Pg} (hg : ∀ p, (g p).addr = p.addr) (a x : Nat) : pageAt (upd m a g) x = (pageAt m x).map fun p => if p.addr = a then g p else p := pageAt_map (upd_addr hg a) x
theorem pageAt_updN (m : V) {g : Pg → Pg} (hg : ∀ p, (g p).addr = p.addr) (a x : Nat) (k : Nat) : (pageAt (updN g m a k) x).isSome = (pageAt m x).isSome := by
  induction k with
  | zero => rfl
  | succ k ih => unfold updN; rw [pageAt_upd _ hg, Option.isSome_map, ih]
theorem there_updN (m : V) {g : Pg → Pg} (hg : ∀ p, (g p).addr = p.addr) (a k x n : Nat) : there (updN g m a k) x n = there m x n := by
  unfold there
  congr 1
  funext y
  exact pageAt_updN m hg a y k
theorem updN_ok {m : V} (h : Ok m) {g : Pg → Pg} (hg : ∀ p, (g p).addr = p.addr) (hok : ∀ p, PgOk p → PgOk (g p)) (a k : Nat) : Ok (updN g m a k) := by
  induction k with
  | zero => exact h
  | succ k ih => exact upd_ok ih hg hok _
/-- updN, page by page -/
theorem updN_eq (m : V) {g : Pg → Pg} (hg : ∀ p, (g p).addr = p.addr) (a k : Nat) : updN g m a k = m.map fun p => if ∃ j, j < k ∧ p.addr = a + 256 * j then g p else p := by
  induction k with
  | zero =>
    unfold updN
    conv => lhs; rw [← List.map_id m]
    apply List.map_congr_left
    intro p _
    rw [if_neg (fun ⟨j, hj, _⟩ => absurd hj (Nat.not_lt_zero _))]
    rfl
  | succ k ih =>
    unfold updN
    rw [ih]
    unfold upd
    rw [List.map_map]
    apply List.map_congr_left
    intro p _
    simp only [Function.comp]
    by_cases h1 : ∃ j, j < k ∧ p.addr = a + 256 * j
    · obtain ⟨j, hj, e⟩ := h1
      rw [if_pos (⟨j, hj, e⟩ : ∃ j, j < k ∧ p.addr = a + 256 * j), if_pos (⟨j, by omega, e⟩ : ∃ j, j < k + 1 ∧ p.addr = a + 256 * j), if_neg (by rw [hg]; omega)]
    · rw [if_neg h1]
      by_cases h2 : p.addr = a + 256 * k
      · rw [if_pos h2, if_pos ⟨k, by omega, h2⟩]
      · rw [if_neg h2, if_neg]
        rintro ⟨j, hj, e⟩
        rcases Nat.lt_or_ge j k with h | h
        · exact h1 ⟨j, h, e⟩
        · obtain rfl : j = k := by omega
          exact h2 e
def delP (m : V) (a : Nat) : V := m.filter fun p => p.addr != a
def delN (m : V) (a : Nat) : Nat → V
  | 0 => m
  | k + 1 => delP (delN m a k) (a + 256 * k)
theorem delP_ok {m : V} (h : Ok m) (a : Nat) : Ok (delP m a) :=
  ⟨h.srt.filter _, fun p hp => h.pg p (List.mem_filter.1 hp).1, Nat.le_trans (List.length_filter_le _ _) h.len⟩
theorem delN_ok {m : V} (h : Ok m) (a k : Nat) : Ok (delN m a k) := by
  induction k with
  | zero => exact h
  | succ k ih => exact delP_ok ih _
def unmapE (m : V) (addr size : Nat) : Nat := if may addr size 0 then heldE m addr size else 1
def unmapV (m : V) (addr size : Nat) : V := if unmapE m addr size = 0 then delN m addr (size / 256) else m
def protE (m : V) (addr size : Nat) (prot : Int) : Nat := if may addr size prot then heldE m addr size else 1
def protV (m : V) (addr size : Nat) (prot : Int) : V := if protE m addr size prot = 0 then updN (fun p => { p with prot := prot.toNat }) m addr (size / 256) else m
def numE (m : V) (addr : Nat) (n : Int) (what : Nat) : Nat := if n = 1 ∨ n = 2 ∨ n = 4 ∨ n = 8 then if heldE m addr n.toNat = 0 then allowedE m addr n.toNat what else heldE m addr n.toNat else 1
def loadE (m : V) (addr : Nat) (n : Int) : Nat := numE m addr n 4
def loadX (m : V) (addr : Nat) (n : Int) : Nat := if loadE m addr n = 0 then leN (readB m addr n.toNat) else 0
def dirt (p : Pg) : Pg := { p with dirty := true }
def storeV (m : V) (addr : Nat) (n : Int) (x : Nat) : V := if numE m addr n 2 = 0 then updN dirt (writeB m addr (le n.toNat x)) (pageOf addr) (pagesN addr n.toNat) else m
def fetchE (m : V) (addr : Nat) : Nat := if addr % 8 = 0 then numE m addr 8 1 else 1
def fetchX (m : V) (addr : Nat) : Nat := if fetchE m addr = 0 then leN (readB m addr 8) else 0
def peekE (m : V) (addr size : Nat) : Nat := if size = 0 then 0 else heldE m addr size
def peekB (m : V) (addr size : Nat) : List UInt8 := if size = 0 then [] else if heldE m addr size = 0 then readB m addr size else []
def pokeV (m : V) (addr : Nat) (b : List UInt8) : V := if peekE m addr b.length = 0 then writeB m addr b else m
theorem held_parts {m : V} {addr size : Nat} (h : Vm.heldE m addr size = 0) : addr ≤ top ∧ size ≤ top - addr ∧ size ≤ 131328 ∧ there m addr size = true := by
  unfold Vm.heldE at h
  split at h
  · cases h
  · rename_i hn
    split at h
    · rename_i ht
      exact ⟨by omega, by omega, by omega, ht⟩
    · cases h
end Go.Dm.Vm
