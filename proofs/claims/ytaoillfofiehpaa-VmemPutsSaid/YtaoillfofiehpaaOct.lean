/- read, write: the bytes of spans. Numbers in bytes, the lowest first: plain laws, no program in sight. Memory in pages as lists: what Map, Unmap, Protect, Store, Copy make of it, and that it stays well formed. octets: has, width, fits, Get, Set. No condition. -/
import Derived.Test.YtaoillfofiehpaaVmH
import Derived.Test.YtaoillfofiehpaaSortU
import Derived.Laws.MakeOwn
import Derived.Test.YtaoillfofiehpaaSigT
import Derived.Laws.BitsAllLaws
import Derived.Test.YtaoillfofiehpaaProg
import Derived.Laws.OwnMore
set_option linter.unusedVariables false
set_option linter.unusedSimpArgs false
namespace Go.Dm.Vm
open Go
def byteAt (m : V) (a : Nat) : UInt8 := match pageAt m (pageOf a) with | some p => p.b.getD (a % 256) 0 | none => 0
def readB (m : V) (addr size : Nat) : List UInt8 := (List.range size).map fun i => byteAt m (addr + i)
def setB (m : V) (a : Nat) (c : UInt8) : V := m.map fun p => if p.addr = pageOf a then { p with b := p.b.set (a % 256) c } else p
def writeB : V → Nat → List UInt8 → V
  | m, _, [] => m
  | m, a, c :: r => writeB (setB m a c) (a + 1) r
theorem readB_len (m : V) (a n : Nat) : (readB m a n).length = n := by simp [readB]
theorem pageAt_map {m : V} {g : Pg → Pg} (hg : ∀ p, (g p).addr = p.addr) (x : Nat) : pageAt (m.map g) x = (pageAt m x).map g := by
  unfold pageAt
  rw [List.find?_map]
  have e : ((fun p : Pg => p.addr == x) ∘ g) = fun p : Pg => p.addr == x := by funext p; simp [hg]
  rw [e]
theorem setB_addr (a : Nat) (c : UInt8) (p : Pg) : (if p.addr = pageOf a then { p with b := p.b.set (a % 256) c } else p : Pg).addr = p.addr := by split <;> rfl
theorem pageAt_setB (m : V) (a : Nat) (c : UInt8) (x : Nat) : pageAt (setB m a c) x = (pageAt m x).map fun p => if p.addr = pageOf a then { p with b := p.b.set (a % 256) c } else p := pageAt_map (setB_addr a c) x
theorem setB_ok {m : V} (h : Ok m) (a : Nat) (c : UInt8) : Ok (setB m a c) := by
  refine ⟨?_, fun p hp => ?_, by unfold setB; rw [List.length_map]; exact h.len⟩
  · unfold setB
    rw [List.pairwise_map]
    exact h.srt.imp fun hlt => by rw [setB_addr, setB_addr]; exact hlt
  · obtain ⟨q, hq, rfl⟩ := List.mem_map.1 hp
    have h1 := h.pg q hq
    split
    · exact ⟨h1.al, h1.lt, h1.pr, by simp only [List.length_set]; exact h1.bl, h1.ol, h1.fl⟩
    · exact h1
theorem writeB_snoc (m : V) (a : Nat) (b : List UInt8) (c : UInt8) : writeB m a (b ++ [c]) = setB (writeB m a b) (a + b.length) c := by
  induction b generalizing m a with
  | nil => rfl
  | cons d r ih =>
    show writeB (setB m a d) (a + 1) (r ++ [c]) = _
    rw [ih]
    show setB (writeB (setB m a d) (a + 1) r) (a + 1 + r.length) c = setB (writeB (setB m a d) (a + 1) r) (a + (r.length + 1)) c
    rw [show a + 1 + r.length = a + (r.length + 1) by omega]
theorem there_setB (m : V) (a : Nat) (c : UInt8) (x n : Nat) : there (setB m a c) x n = there m x n := by
  unfold there
  congr 1
  funext y
  rw [pageAt_setB, Option.isSome_map]
theorem writeB_ok {m : V} (h : Ok m) (a : Nat) (b : List UInt8) : Ok (writeB m a b) := by
  induction b generalizing m a with
  | nil => exact h
  | cons c r ih => exact ih (setB_ok h a c) (a + 1)
theorem there_writeB (m : V) (a : Nat) (b : List UInt8) (x n : Nat) : there (writeB m a b) x n = there m x n := by
  induction b generalizing m a with
  | nil => rfl
  | cons c r ih => exact (ih (setB m a c) (a + 1)).trans (there_setB m a c x n)
/-- where a span is there each of its bytes has a page -/
theorem there_at {m : V} {addr size : Nat} (h : there m addr size = true) {i : Nat} (hi : i < size) : ∃ p, pageAt m (pageOf (addr + i)) = some p := by
  unfold there pagesOf at h
  rw [List.all_eq_true] at h
  have hk : (addr % 256 + i) / 256 < pagesN addr size := by unfold pagesN; omega
  have e : pageOf (addr + i) = pageOf addr + 256 * ((addr % 256 + i) / 256) := by unfold pageOf; omega
  have h1 := h _ (List.mem_map.2 ⟨_, List.mem_range.2 hk, rfl⟩)
  rw [← e] at h1
  exact Option.isSome_iff_exists.1 h1
end Go.Dm.Vm
namespace Go.Proofs.Ytaoillfofiehpaa
open Go.RowKit Go.Dm Go.Dm.Vm Go.Maps

theorem info_u8 : (Try.prog.info? 5).map (fun i => (i.zero, i.size, i.bytes)) = some (some (.int .u8 0), 1, 1) := by kernel_rfl
def encB8 (b : UInt8) : List Value := [bv b]
theorem encB8_map (l : List UInt8) : l.flatMap encB8 = l.map bv := List.map_eq_flatMap.symm
theorem b8_one (b : UInt8) : ∀ u ∈ encB8 b, u.oneCell' = true := by
  intro u hu; simp only [encB8, List.mem_singleton] at hu; subst hu; rfl
section
variable {A : Nat → Prop} {w : World} {d mb : Nat} {f : Nat → Nat} {m : V}
theorem SRep.lk (h : SRep A w d m mb f) {a : Nat} {p : Pg} (ha : a < 18446744073709551616) (hg : pageAt m a = some p) (W : World) (hW : W.heap = w.heap) :
    (Instr.lookup 68 (.map (some mb)) (.int .u64 (a : Int)) false).run Try.prog W = .ok (.pointer (some ⟨f p.addr, 0, none⟩)) W := by
  have h1 := (h.mp.same (w' := W) (by rw [hW])).lookup kU64 Try.underlying68 (zPage W) (kOf ha)
  rw [findL_VL, hg] at h1
  exact h1
theorem SRep.byte (h : SRep A w d m mb f) {p : Pg} (hp : p ∈ m) {r : Nat} (hr : r < 256) : w.cell? ⟨f p.addr, 4 + r, none⟩ = some (bv (p.b.getD r 0)) := by
  rw [(h.pg p hp).2.cell, pgC_byte]
  have hl := (h.ok.pg p hp).bl
  rw [List.getD_eq_getElem?_getD, List.getElem?_eq_getElem (by omega)]
  rfl
set_option maxRecDepth 100000 in
set_option maxHeartbeats 2000000 in
theorem vread_any (addr size : Nat) (ha : addr ≤ top) (hz : size ≤ top - addr) (hs : size ≤ 1000000) (hth : there m addr size = true) (h : SRep A w d m mb f) (hA : ∀ k, A k → k < w.heap.size) :
    Calls Try.prog 43 #[ptrTo d, .int .u64 (addr : Int), .int .u64 (size : Int)] w fun e w' => ∃ v', e = .returned v' ∧ w'.ownsRow w.heap.size 5 1 v' size ((readB m addr size).map bv) ∧ Keep No w w' := by
  have ht : top = 4294967296 := rfl
  have q0 : w.cell? ⟨d, 0, none⟩ = some (.map (some mb)) := h.blk.cell 0
  unfold ptrTo
  go_enter Try.func43, Try.ntmps43
  go_wp2_with (at_make; refine wl_make rfl _ _ _ rfl _ _ rfl rfl ?_)
  obtain ⟨ti, hi, hz0, hz1, hz2⟩ := info_parts info_u8
  have hrun := run_make (P := Try.prog) w 25 5 ti (.int .u8 0) Try.underlying25 hi hz0 .i64 .u64 0 size (by omega) (by omega) (by rw [hz2]; omega) (by omega)
  rw [hz1, Nat.mul_one, Int.toNat_natCast, show Int.toNat 0 = 0 from rfl] at hrun
  refine .mk hrun ?_
  clear hrun
  have hka : Keep No w (w.alloc (.cells (madeCells (Value.int .u8 0).cells size) 5)) := (Keep.refl _ _).alloc _
  have hB0 : Blk (w.alloc (.cells (madeCells (Value.int .u8 0).cells size) 5)) w.heap.size (madeCells (Value.int .u8 0).cells size) 5 := Blk.new _ _ _
  have ho0 : FlO (w.alloc (.cells (madeCells (Value.int .u8 0).cells size) 5)) w.heap.size 5 1 encB8 (.slice (some ⟨w.heap.size, 0, none⟩) 0 size) (readB m addr 0) :=
    ⟨rfl, .inr ⟨w.heap.size, size, _, rfl, Nat.le_refl _, hB0, Nat.zero_le _, by unfold maxLen; omega, by simp [madeCells], by simp [readB]⟩⟩
  generalize w.alloc (.cells (madeCells (Value.int .u8 0).cells size) 5) = W at *
  clear hB0
  go_wp2_with fail
  go_loopw [7, 8] (fun ov av wr => ∃ i : Nat, av = .int .u64 ((addr + i : Nat) : Int) ∧ i ≤ size ∧ FlO wr w.heap.size 5 1 encB8 ov (readB m addr i) ∧ Keep No w wr) (fun _ av _ => addr + size - (intOf av).toNat)
  case atStart => exact ⟨0, rfl, Nat.zero_le _, ho0, hka⟩
  case round =>
    clear ho0 hka
    obtain ⟨i, rfl, hi', ho, hK⟩ := hrel
    have h' := h.same fun j hj => hK.block j (hA j hj) fun h => h
    obtain ⟨ao, co, rfl, _, _⟩ := ho.fl.shape
    rw [readB_len] at *
    rcases Nat.lt_or_ge i size with hlt | hge
    · obtain ⟨p, hp⟩ := there_at hth hlt
      obtain ⟨hpm, hpa⟩ := get_mem hp
      have hltz : ((addr + i : Nat) : Int) < (addr : Int) + (size : Int) := by omega
      have hr : ((addr + i : Nat) : Int) % 256 = (((addr + i) % 256 : Nat) : Int) := by omega
      have hr256 : (addr + i) % 256 < 256 := Nat.mod_lt _ (by decide)
      have hby := h'.byte hpm hr256
      have hbv : byteAt m (addr + i) = p.b.getD ((addr + i) % 256) 0 := by unfold byteAt; rw [hp]
      have hpo : pageOf (addr + i) < 18446744073709551616 := by unfold pageOf; omega
      have hlkA : ∀ W, Keep No wr W → (Instr.lookup 68 (.map (some mb)) (.int .u64 ((pageOf (addr + i) : Nat) : Int)) false).run Try.prog W = .ok (.pointer (some ⟨f p.addr, 0, none⟩)) W := fun W hk => (h'.same fun j hj => hk.block j (Nat.lt_of_lt_of_le (hA j hj) hK.size) fun h => h).lk hpo hp W rfl
      have hlkd := hlkA wr.drew (Keep.refl No wr).drew
      have HLK := Lib.hid hlkA
      clear hlkA hpo
      have hrs : readB m addr (i + 1) = readB m addr i ++ [byteAt m (addr + i)] := by unfold readB; rw [List.range_succ, List.map_append]; rfl
      have q1 := (hK.cell (p := ⟨d, 0, none⟩) h.blk.lt (fun h => h)).trans q0
      have hal : addr + i < 18446744073709551616 := by omega
      have hstp : addr + i + 1 = addr + (i + 1) := by omega
      have H1 := Lib.hid hstp
      have HRS := Lib.hid hrs
      rw [hbv] at HRS
      clear hrs hbv hstp hp hpa q0
      generalize p.b.getD ((addr + i) % 256) 0 = x at *
      generalize f p.addr = g at *
      generalize (addr + i) % 256 = r at *
      generalize addr + i = at_ at *
      have hrz : (r : Int) < 256 := by omega
      have hrt : (at_ : Int).tmod 256 = (r : Int) := by rw [IntWalk.rem_in _ _ (by omega)]; exact hr
      unfold bv at hby
      go_wp2_with fail
      refine wp_region_sig (fun w' => w'.cell? ⟨d, 0, none⟩ = some (.map (some mb)) ∧ w'.cell? ⟨g, 4 + r, none⟩ = some (.int .u8 (x.toNat : Int)) ∧ (Instr.lookup 68 (.map (some mb)) (.int .u64 ((pageOf at_ : Nat) : Int)) false).run Try.prog w' = .ok (.pointer (some ⟨g, 0, none⟩)) w') (fun j => decide (j ≤ 14)) [(0, true), (1, true), (2, true), (3, true), (4, true), (5, true), (8, true), (9, true), (6, false), (7, true), (10, true), (11, true), (12, true), (13, true), (14, false), (15, false), (16, false)] (by kernel_rfl) (by kernel_rfl) (by intro c a d v w h; cases d <;> exact h) ⟨q1, hby, hlkd⟩ ?_
      apply sig_still (o := ⟨some 19, _, _, _, _, _⟩) rfl rfl
      · intro w' hS
        obtain ⟨q1, q2, q3⟩ := hS
        first | (go_simp; done) | (go_simp; rfl) | rfl
      go_frame
      apply sig_still (o := ⟨some 20, _, _, _, _, _⟩) rfl rfl
      · intro w' hS
        obtain ⟨q1, q2, q3⟩ := hS
        first | (go_simp; done) | (go_simp; rfl) | rfl
      go_frame
      apply sig_still (o := ⟨some 21, _, _, _, _, _⟩) rfl rfl
      · intro w' hS
        obtain ⟨q1, q2, q3⟩ := hS
        first | (go_simp; done) | (go_simp; rfl) | rfl
      go_frame
      apply sig_still (o := ⟨some 22, _, _, _, _, _⟩) rfl rfl
      · intro w' hS
        obtain ⟨q1, q2, q3⟩ := hS
        first | (go_simp; done) | (go_simp; rfl) | rfl
      go_frame
      apply sig_still (o := ⟨some 23, _, _, _, _, _⟩) rfl rfl
      · intro w' hS
        obtain ⟨q1, q2, q3⟩ := hS
        first | (go_simp; done) | (go_simp; rfl) | rfl
      go_frame
      apply sig_still (o := ⟨some 24, _, _, _, _, _⟩) rfl rfl
      · intro w' hS
        obtain ⟨q1, q2, q3⟩ := hS
        first | (go_simp; done) | (go_simp; rfl) | rfl
      go_frame
      apply sig_still (o := ⟨some 27, _, _, _, _, _⟩) rfl rfl
      · intro w' hS
        obtain ⟨q1, q2, q3⟩ := hS
        first | (go_simp; done) | (go_simp; rfl) | rfl
      go_frame
      apply sig_still (o := ⟨some 28, _, _, _, _, _⟩) rfl rfl
      · intro w' hS
        obtain ⟨q1, q2, q3⟩ := hS
        first | (go_simp; done) | (go_simp; rfl) | rfl
      go_frame
      refine sig_eff (o := ⟨some 25, _, _, _, _, _⟩) rfl rfl (fun K hKe => ?_)
      go_wp2_with fail
      refine (vbase_any at_ hal _).mono ?_
      rintro e X ⟨rfl, rfl⟩
      go_wp2_with fail
      refine ⟨fun _ => ⟨q1, hby, hlkd⟩, ?_⟩
      apply sig_still (o := ⟨some 26, _, _, _, _, _⟩) rfl rfl
      · intro w' hS
        obtain ⟨q1, q2, q3⟩ := hS
        first | (go_simp; done) | (go_simp; rfl) | rfl
      go_frame
      apply sig_still (o := ⟨some 29, _, _, _, _, _⟩) rfl rfl
      · intro w' hS
        obtain ⟨q1, q2, q3⟩ := hS
        first | (go_simp; done) | (go_simp; rfl) | rfl
      go_frame
      apply sig_still (o := ⟨some 30, _, _, _, _, _⟩) rfl rfl
      · intro w' hS
        obtain ⟨q1, q2, q3⟩ := hS
        first | (go_simp; done) | (go_simp; rfl) | rfl
      go_frame
      apply sig_still (o := ⟨some 31, _, _, _, _, _⟩) rfl rfl
      · intro w' hS
        obtain ⟨q1, q2, q3⟩ := hS
        first | (go_simp; done) | (go_simp; rfl) | rfl
      go_frame
      apply sig_still (o := ⟨some 32, _, _, _, _, _⟩) rfl rfl
      · intro w' hS
        obtain ⟨q1, q2, q3⟩ := hS
        first | (go_simp; done) | (go_simp; rfl) | rfl
      go_frame
      have hkd : Keep No wr (wr.drew.alloc (.cells #[.int .u8 (x.toNat : Int)] 5)) := ((Keep.refl No wr).drew).alloc _
      have hlk2 := HLK.out _ hkd
      have r1 := (hkd.cell (p := ⟨d, 0, none⟩) h'.blk.lt (fun h => h)).trans q1
      have r2 := (hkd.cell (p := ⟨g, 4 + r, none⟩) (World.block_lt_of_cell? wr _ hby) (fun h => h)).trans hby
      refine sig_eff (o := ⟨some 33, _, _, _, _, _⟩) rfl rfl (fun K hKe => ?_)
      go_wp2_with fail
      refine ⟨fun _ => ⟨r1, r2, hlk2⟩, ?_⟩
      refine sig_eff (o := ⟨some 34, _, _, _, _, _⟩) rfl rfl (fun K hKe => ?_)
      refine wo_append _ _ _ _ rfl _ _ rfl rfl ?_
      have hod : FlO wr.drew w.heap.size 5 1 encB8 (.slice ao i co) (readB m addr i) := FlO.no ho (Keep.refl No wr).drew
      have hwd : wr.drew.heap.size = wr.heap.size := rfl
      refine rg_push (w := wr.drew) (.int .u8 0) 1 Try.underlying25 info_u8 rfl (by decide) (enc := encB8) (x := x) rfl rfl (b8_one _) hod (by rw [readB_len]; omega) (by decide) (by rw [hwd]; exact hK.size) ?_
      intro v' w2 ho2 hk2 _
      have hK2 := (hK.trans' (Keep.refl No wr).drew).own hod hk2
      refine hKe _ _ ⟨fun h => by simp at h, ?_⟩
      clear hkd hlk2 r1 r2 hod ho hK h' hk2
      obtain ⟨ao2, co2, rfl, _, _⟩ := ho2.fl.shape
      rw [show (readB m addr i ++ [x]).length = i + 1 by rw [List.length_append, readB_len]; rfl] at ho2
      rw [show (readB m addr i ++ [x]).length = i + 1 by rw [List.length_append, readB_len]; rfl]
      refine sig_eff (o := ⟨some 7, _, _, _, _, _⟩) rfl rfl (fun K hKe => ?_)
      go_wp2_with fail
      refine ⟨fun h => by simp at h, sig_nil ?_⟩
      go_wp2_with fail
      go_roundw
      case rel => exact ⟨i + 1, by rw [← H1.out]; go_num, hlt, by rw [HRS.out]; exact ho2, hK2⟩
      case measure => have := H1.out; simp [intOf]; omega
    · obtain rfl : i = size := Nat.le_antisymm hi' hge
      have hgez : ((addr + i : Nat) : Int) ≥ (addr : Int) + (i : Int) := by omega
      clear h'
      go_wp2_with fail
      go_ret
      unfold FlO at ho
      rw [readB_len, encB8_map] at ho
      exact ⟨_, rfl, ho, hK⟩
theorem pgC_set (p : Pg) (r : Nat) (c : UInt8) : (pgC p).setIfInBounds (4 + r) (bv c) = pgC { p with b := p.b.set r c } := by
  apply Array.toList_inj.1
  rw [Array.toList_setIfInBounds, show 4 + r = r + 4 by omega]
  simp [pgC, List.map_set]
/-- a byte is written -/
theorem SRep.setB (h : SRep A w d m mb f) {p : Pg} {a : Nat} (hg : pageAt m (pageOf a) = some p) (c : UInt8) : SRep A (w.setCell ⟨f p.addr, 4 + a % 256, none⟩ (bv c)) d (Vm.setB m a c) mb f := by
  obtain ⟨hpm, hpa⟩ := get_mem hg
  have hB := (h.pg p hpm).2
  have hk : Keep (fun j => j = f p.addr) w (w.setCell ⟨f p.addr, 4 + a % 256, none⟩ (bv c)) := (Keep.refl (fun j => j = f p.addr) w).setCell (p := ⟨f p.addr, 4 + a % 256, none⟩) (fun _ => rfl) _
  have hdne : d ≠ f p.addr := fun e => by
    have h1 := h.blk
    rw [e] at h1
    unfold Blk at h1 hB
    rw [hB] at h1
    simp at h1
  refine ⟨h.blk.keep hk hdne, ?_, fun q hq => ?_, fun q hq q' hq' e => ?_, setB_ok h.ok a c, h.Ad, h.Am⟩
  · have e : VL f (Vm.setB m a c) = VL f m := by
      unfold VL Vm.setB
      rw [List.map_map]
      apply List.map_congr_left
      intro q _
      simp only [Function.comp, setB_addr]
    rw [e]
    exact h.mp.keep hk (h.mp.ne_blk hB)
  · obtain ⟨q, hqm, rfl⟩ := List.mem_map.1 hq
    rw [setB_addr]
    refine ⟨(h.pg q hqm).1, ?_⟩
    by_cases e : q.addr = pageOf a
    · have eq : q = p := by
        have h1 := get_of_mem h.ok.srt hqm
        rw [e, hg] at h1
        exact (Option.some.inj h1).symm
      subst eq
      rw [if_pos e, ← pgC_set]
      exact hB.set (bv c)
    · rw [if_neg e]
      refine (h.pg q hqm).2.keep hk fun e2 => e ?_
      rw [h.inj q hqm p hpm e2]; exact hpa
  · obtain ⟨q, hqm, rfl⟩ := List.mem_map.1 hq
    obtain ⟨q', hqm', rfl⟩ := List.mem_map.1 hq'
    rw [setB_addr, setB_addr] at e ⊢
    exact h.inj q hqm q' hqm' e
set_option maxRecDepth 100000 in
set_option maxHeartbeats 2000000 in
theorem vwrite_any {B : Nat → Prop} {vb : Value} (addr : Nat) (b : List UInt8) (ha : addr ≤ top) (hz : b.length ≤ top - addr) (hs : b.length ≤ 1000000) (hth : there m addr b.length = true) (h : SRep A w d m mb f) (hA : ∀ k, A k → k < w.heap.size) (hb : Bts B w vb b) (hBA : ∀ k, B k → ¬ A k) :
    Calls Try.prog 39 #[ptrTo d, .int .u64 (addr : Int), vb] w fun e w' => e = .returned (.tuple #[]) ∧ SRep A w' d (writeB m addr b) mb f ∧ Keep A w w' := by
  have ht : top = 4294967296 := rfl
  obtain ⟨ab, cb, rfl, _, _⟩ := hb.shape
  unfold ptrTo
  go_enter Try.func39, Try.ntmps39
  go_wp2_with fail
  go_loopw [11] (fun iv wr => ∃ i : Nat, iv = .int .i64 i ∧ i ≤ b.length ∧ SRep A wr d (writeB m addr (b.take i)) mb f ∧ Keep A w wr) (fun iv _ => b.length - (intOf iv).toNat)
  case atStart => exact ⟨0, rfl, Nat.zero_le _, h, Keep.refl _ _⟩
  case round =>
    clear h
    obtain ⟨i, rfl, hi, h, hK⟩ := hrel
    rcases Nat.lt_or_ge i b.length with hlt | hge
    · obtain ⟨g0, off, cap, e, hg0, hgl, _, _, hcell⟩ := hb.at (by omega)
      cases e
      have qb : wr.cell? ⟨g0, off + i, none⟩ = some (bv b[i]) := (hK.cell (p := ⟨g0, off + i, none⟩) hgl (hBA g0 hg0)).trans (hcell i _ (by rw [List.getElem?_map, List.getElem?_eq_getElem hlt]; rfl))
      have hth2 : there (writeB m addr (b.take i)) addr b.length = true := by rw [there_writeB]; exact hth
      obtain ⟨p, hp⟩ := there_at hth2 hlt
      obtain ⟨hpm, hpa⟩ := get_mem hp
      have hset := h.setB hp b[i]
      have hwr : writeB m addr (b.take (i + 1)) = Vm.setB (writeB m addr (b.take i)) (addr + i) b[i] := by
        rw [List.take_succ_eq_append_getElem hlt, writeB_snoc, List.length_take, Nat.min_eq_left (by omega)]
      rw [← hwr] at hset
      have hkset := hK.setCell (p := ⟨f p.addr, 4 + (addr + i) % 256, none⟩) (fun _ => (h.pg p hpm).1) (bv b[i])
      have hr256 : (addr + i) % 256 < 256 := Nat.mod_lt _ (by decide)
      have hr : ((addr + i : Nat) : Int) % 256 = (((addr + i) % 256 : Nat) : Int) := by omega
      have hby := h.byte hpm hr256
      have hfz : wr.frozen? ⟨f p.addr, 4 + (addr + i) % 256, none⟩ = false := (h.pg p hpm).2.frozen _
      have hpo : pageOf (addr + i) < 18446744073709551616 := by unfold pageOf; omega
      have hlkd := h.lk hpo hp wr.drew rfl
      have q1 : wr.cell? ⟨d, 0, none⟩ = some (.map (some mb)) := h.blk.cell 0
      have hal : addr + i < 18446744073709551616 := by omega
      have hsum : (addr : Int) + (i : Int) = ((addr + i : Nat) : Int) := by omega
      have hltz : (i : Int) < (b.length : Int) := by omega
      clear hcell hwr hp hpa hpo hth2 h hK
      generalize b[i] = x at *
      generalize (writeB m addr (b.take i)) = mi at *
      generalize p.b.getD ((addr + i) % 256) 0 = y at *
      generalize f p.addr = g at *
      generalize (addr + i) % 256 = r at *
      have hrt : ((addr + i : Nat) : Int).tmod 256 = (r : Int) := by rw [IntWalk.rem_in _ _ (by omega)]; exact hr
      have HS := Lib.hid hsum
      clear hsum
      have hrz : (r : Int) < 256 := by omega
      unfold bv at qb hby
      go_wp2_with fail
      rw [HS.out]
      generalize addr + i = at_ at *
      refine wp_region_sig (fun w' => w'.cell? ⟨d, 0, none⟩ = some (.map (some mb)) ∧ w'.cell? ⟨g, 4 + r, none⟩ = some (.int .u8 (y.toNat : Int)) ∧ w'.frozen? ⟨g, 4 + r, none⟩ = false ∧ (Instr.lookup 68 (.map (some mb)) (.int .u64 ((pageOf at_ : Nat) : Int)) false).run Try.prog w' = .ok (.pointer (some ⟨g, 0, none⟩)) w') (fun j => decide (j ≤ 12)) [(0, true), (1, true), (2, true), (3, true), (4, true), (7, true), (8, true), (9, true), (5, false), (6, true), (10, true), (11, true), (12, true), (13, false)] (by kernel_rfl) (by kernel_rfl) (by intro c a d v w h; cases d <;> exact h) ⟨q1, hby, hfz, hlkd⟩ ?_
      apply sig_still (o := ⟨some 20, _, _, _, _, _⟩) rfl rfl
      · intro w' hS
        obtain ⟨q1, q2, q3, q4⟩ := hS
        first | (go_simp; done) | (go_simp; rfl) | rfl
      go_frame
      apply sig_still (o := ⟨some 21, _, _, _, _, _⟩) rfl rfl
      · intro w' hS
        obtain ⟨q1, q2, q3, q4⟩ := hS
        first | (go_simp; done) | (go_simp; rfl) | rfl
      go_frame
      apply sig_still (o := ⟨some 22, _, _, _, _, _⟩) rfl rfl
      · intro w' hS
        obtain ⟨q1, q2, q3, q4⟩ := hS
        first | (go_simp; done) | (go_simp; rfl) | rfl
      go_frame
      apply sig_still (o := ⟨some 23, _, _, _, _, _⟩) rfl rfl
      · intro w' hS
        obtain ⟨q1, q2, q3, q4⟩ := hS
        first | (go_simp; done) | (go_simp; rfl) | rfl
      go_frame
      apply sig_still (o := ⟨some 24, _, _, _, _, _⟩) rfl rfl
      · intro w' hS
        obtain ⟨q1, q2, q3, q4⟩ := hS
        first | (go_simp; done) | (go_simp; rfl) | rfl
      go_frame
      apply sig_still (o := ⟨some 27, _, _, _, _, _⟩) rfl rfl
      · intro w' hS
        obtain ⟨q1, q2, q3, q4⟩ := hS
        first | (go_simp; done) | (go_simp; rfl) | rfl
      go_frame
      apply sig_still (o := ⟨some 28, _, _, _, _, _⟩) rfl rfl
      · intro w' hS
        obtain ⟨q1, q2, q3, q4⟩ := hS
        first | (go_simp; done) | (go_simp; rfl) | rfl
      go_frame
      apply sig_still (o := ⟨some 29, _, _, _, _, _⟩) rfl rfl
      · intro w' hS
        obtain ⟨q1, q2, q3, q4⟩ := hS
        first | (go_simp; done) | (go_simp; rfl) | rfl
      go_frame
      refine sig_eff (o := ⟨some 25, _, _, _, _, _⟩) rfl rfl (fun K hKe => ?_)
      go_wp2_with fail
      refine (vbase_any at_ hal _).mono ?_
      rintro e X ⟨rfl, rfl⟩
      go_wp2_with fail
      refine ⟨fun _ => ⟨q1, hby, hfz, hlkd⟩, ?_⟩
      apply sig_still (o := ⟨some 26, _, _, _, _, _⟩) rfl rfl
      · intro w' hS
        obtain ⟨q1, q2, q3, q4⟩ := hS
        first | (go_simp; done) | (go_simp; rfl) | rfl
      go_frame
      apply sig_still (o := ⟨some 30, _, _, _, _, _⟩) rfl rfl
      · intro w' hS
        obtain ⟨q1, q2, q3, q4⟩ := hS
        first | (go_simp; done) | (go_simp; rfl) | rfl
      go_frame
      apply sig_still (o := ⟨some 31, _, _, _, _, _⟩) rfl rfl
      · intro w' hS
        obtain ⟨q1, q2, q3, q4⟩ := hS
        first | (go_simp; done) | (go_simp; rfl) | rfl
      go_frame
      apply sig_still (o := ⟨some 32, _, _, _, _, _⟩) rfl rfl
      · intro w' hS
        obtain ⟨q1, q2, q3, q4⟩ := hS
        first | (go_simp; done) | (go_simp; rfl) | rfl
      go_frame
      refine sig_eff (o := ⟨none, _, _, _, _, _⟩) rfl rfl (fun K hKe => ?_)
      go_wp2_with fail
      refine ⟨fun h => by simp at h, sig_nil ?_⟩
      go_wp2_with fail
      go_roundw
      case rel => exact ⟨i + 1, by go_num, hlt, hset.same (fun _ _ => rfl), hkset.drew⟩
      case measure => simp [intOf]; omega
    · obtain rfl : i = b.length := Nat.le_antisymm hi hge
      have hgez : (b.length : Int) ≥ (b.length : Int) := Int.le_refl _
      rw [List.take_length] at h
      go_wp2_with fail
      go_end0
      exact ⟨rfl, h, hK⟩
end
end Go.Proofs.Ytaoillfofiehpaa
namespace Go.Dm.Oc
open Go
/-- the number of bytes, the lowest first -/
def leN : List UInt8 → Nat
  | [] => 0
  | b :: r => b.toNat + 256 * leN r
def le : Nat → Nat → List UInt8
  | 0, _ => []
  | n + 1, x => UInt8.ofNat (x % 256) :: le n (x / 256)
theorem le_len (n x : Nat) : (le n x).length = n := by
  induction n generalizing x with
  | zero => rfl
  | succ n ih => simp [le, ih]
theorem leN_le (n x : Nat) : leN (le n x) = x % 256 ^ n := by
  induction n generalizing x with
  | zero => simp [le, leN, Nat.mod_one]
  | succ n ih =>
    simp only [le, leN, ih, UInt8.toNat_ofNat', Nat.reducePow, Nat.mod_mod]
    rw [Nat.pow_succ, Nat.mul_comm (256 ^ n) 256, Nat.mod_mul]
theorem leN_lt (l : List UInt8) : leN l < 256 ^ l.length := by
  induction l with
  | nil => simp [leN]
  | cons b r ih =>
    have := b.toNat_lt
    simp only [leN, List.length_cons, Nat.pow_succ]
    omega
theorem leN_snoc (l : List UInt8) (b : UInt8) : leN (l ++ [b]) = leN l + 256 ^ l.length * b.toNat := by
  induction l with
  | nil => simp [leN]
  | cons c r ih =>
    simp only [List.cons_append, leN, ih, List.length_cons, Nat.pow_succ]
    rw [Nat.mul_add, Nat.mul_comm (256 ^ r.length) 256, Nat.mul_assoc, Nat.add_assoc]
theorem le_get (n x i : Nat) (hi : i < n) : (le n x)[i]'(by rw [le_len]; exact hi) = UInt8.ofNat (x / 256 ^ i % 256) := by
  induction n generalizing x i with
  | zero => omega
  | succ n ih =>
    cases i with
    | zero => simp [le]
    | succ i =>
      simp only [le, List.getElem_cons_succ]
      rw [ih (x / 256) i (by omega), Nat.div_div_eq_div_mul, Nat.pow_succ, Nat.mul_comm 256]
/-- one byte more is laid on top -/
theorem or_top (x b n : Nat) (hx : x < 2 ^ n) : x ||| (b * 2 ^ n) = x + 2 ^ n * b := by
  rw [Nat.or_comm, Go.nat_join n (b * 2 ^ n) x (Nat.mul_mod_left _ _) hx, Nat.mul_comm]; omega
theorem pow256 (i : Nat) : 256 ^ i = 2 ^ (8 * i) := by rw [Nat.pow_mul]
def widthB (n : Int) : Bool := decide (n = 1 ∨ n = 2 ∨ n = 4 ∨ n = 8)
def hasB (many at_ size : Nat) : Bool := decide (at_ ≤ many) && decide (size ≤ many - at_)
def fitsE (many at_ : Nat) (n : Int) : Nat := if widthB n then if hasB many at_ n.toNat then 0 else 10 else 1
def getX (b : List UInt8) (at_ : Nat) (n : Int) : Nat := if fitsE b.length at_ n = 0 then leN ((b.drop at_).take n.toNat) else 0
theorem fits_parts {many at_ : Nat} {n : Int} (h : fitsE many at_ n = 0) : (n = 1 ∨ n = 2 ∨ n = 4 ∨ n = 8) ∧ at_ ≤ many ∧ n.toNat ≤ many - at_ := by
  unfold fitsE at h
  split at h
  · rename_i hw
    split at h
    · rename_i hh
      simp only [hasB, Bool.and_eq_true, decide_eq_true_eq] at hh
      simp only [widthB, decide_eq_true_eq] at hw
      exact ⟨hw, hh⟩
    · cases h
  · cases h
/-- bytes laid over others from a place on -/
def setR : List UInt8 → Nat → List UInt8 → List UInt8
  | l, _, [] => l
  | l, k, x :: r => setR (l.set k x) (k + 1) r
theorem setR_len (l : List UInt8) (k : Nat) (c : List UInt8) : (setR l k c).length = l.length := by
  induction c generalizing l k with
  | nil => rfl
  | cons x r ih => unfold setR; rw [ih, List.length_set]
theorem setR_snoc (l : List UInt8) (k : Nat) (c : List UInt8) (x : UInt8) : setR l k (c ++ [x]) = (setR l k c).set (k + c.length) x := by
  induction c generalizing l k with
  | nil => rfl
  | cons y r ih =>
    show setR (l.set k y) (k + 1) (r ++ [x]) = (setR (l.set k y) (k + 1) r).set (k + (r.length + 1)) x
    rw [ih]
    congr 1
    omega
theorem setR_whole (l c : List UInt8) (h : c.length = l.length) : setR l 0 c = c := by
  suffices h2 : ∀ (k : Nat) (l c : List UInt8), k + c.length = l.length → setR l k c = l.take k ++ c by simpa using h2 0 l c (by omega)
  intro k l c
  induction c generalizing k l with
  | nil => intro h; simp only [setR, List.append_nil]; rw [List.take_of_length_le (by simpa using Nat.le_of_eq h.symm)]
  | cons x r ih =>
    intro h
    rw [List.length_cons] at h
    unfold setR
    rw [ih (k + 1) (l.set k x) (by rw [List.length_set]; omega), List.take_succ_eq_append_getElem (by rw [List.length_set]; omega), List.getElem_set_self, List.take_set_of_le (Nat.le_refl _), List.append_assoc]
    rfl
theorem getX_whole (b : List UInt8) (n : Nat) (h : b.length = n) (hn : n = 1 ∨ n = 2 ∨ n = 4 ∨ n = 8) : fitsE b.length 0 n = 0 ∧ getX b 0 n = leN b := by
  have hf : fitsE b.length 0 n = 0 := by
    unfold fitsE
    rw [if_pos (by simp only [widthB, decide_eq_true_eq]; omega), if_pos (by simp only [hasB, Bool.and_eq_true, decide_eq_true_eq]; omega)]
  refine ⟨hf, ?_⟩
  unfold getX
  rw [if_pos hf, List.drop_zero, List.take_of_length_le (by omega)]
end Go.Dm.Oc
namespace Go.Dm.Vm
open Go Go.Proofs.Ytaoillfofiehpaa Go.Dm.Oc

def noughts : List UInt8 := List.replicate 256 0
theorem noughts_len : noughts.length = 256 := List.length_replicate ..
/-- a page in its place -/
def insP (p : Pg) : V → V
  | [] => [p]
  | q :: r => if p.addr < q.addr then p :: q :: r else q :: insP p r
theorem insP_perm (p : Pg) (m : V) : (insP p m).Perm (p :: m) := by
  induction m with
  | nil => exact List.Perm.refl _
  | cons q r ih =>
    unfold insP
    split
    · exact List.Perm.refl _
    · exact (ih.cons q).trans (List.Perm.swap p q r)
theorem insP_mem {p x : Pg} {m : V} : x ∈ insP p m ↔ x = p ∨ x ∈ m := by rw [(insP_perm p m).mem_iff, List.mem_cons]
theorem insP_len (p : Pg) (m : V) : (insP p m).length = m.length + 1 := by rw [(insP_perm p m).length_eq, List.length_cons]
theorem insP_srt {p : Pg} {m : V} (h : m.Pairwise (fun p q => p.addr < q.addr)) (hn : ∀ q ∈ m, q.addr ≠ p.addr) : (insP p m).Pairwise (fun p q => p.addr < q.addr) := by
  induction m with
  | nil => simp [insP]
  | cons q r ih =>
    rw [List.pairwise_cons] at h
    unfold insP
    split
    · rename_i hlt
      rw [List.pairwise_cons]
      refine ⟨fun x hx => ?_, List.pairwise_cons.2 h⟩
      rcases List.mem_cons.1 hx with rfl | hx
      · exact hlt
      · exact Nat.lt_trans hlt (h.1 x hx)
    · rename_i hge
      rw [List.pairwise_cons]
      refine ⟨fun x hx => ?_, ih h.2 fun q hq => hn q (List.mem_cons_of_mem _ hq)⟩
      rcases insP_mem.1 hx with rfl | hx
      · have := hn q (List.mem_cons_self ..)
        omega
      · exact h.1 x hx
theorem insP_ok {p : Pg} {m : V} (h : Ok m) (hp : PgOk p) (hn : ∀ q ∈ m, q.addr ≠ p.addr) (hl : m.length < 512) : Ok (insP p m) :=
  ⟨insP_srt h.srt hn, fun q hq => (insP_mem.1 hq).elim (fun e => e ▸ hp) (h.pg q), by rw [insP_len]; omega⟩
def newPg (addr prot : Nat) (file : List UInt8) (off k : Nat) : Pg := ⟨addr + 256 * k, prot, false, file, if file = [] then 0 else (off + 256 * k) % 18446744073709551616, noughts⟩
def mapN (m : V) (addr prot : Nat) (file : List UInt8) (off : Nat) : Nat → V
  | 0 => m
  | k + 1 => insP (newPg addr prot file off k) (mapN m addr prot file off k)
def over (m : V) (addr size : Nat) : Bool := m.any fun p => decide (addr ≤ p.addr) && decide (p.addr - addr < size)
def mapE (m : V) (addr size : Nat) (prot : Int) : Nat := if may addr size prot then if over m addr size then 12 else if size / 256 > 512 - m.length then 13 else 0 else 1
def mapV (m : V) (addr size : Nat) (prot : Int) (file : List UInt8) (off : Nat) : V := if mapE m addr size prot = 0 then mapN m addr prot.toNat file off (size / 256) else m
theorem may_parts {addr size : Nat} {prot : Int} (h : may addr size prot = true) : addr % 256 = 0 ∧ size % 256 = 0 ∧ 0 < size ∧ addr ≤ top ∧ size ≤ top - addr ∧ 0 ≤ prot ∧ prot ≤ 7 := by
  simp only [may, Bool.and_eq_true, beq_iff_eq, decide_eq_true_eq] at h
  omega
theorem may_pages {addr size : Nat} {prot : Int} (h : may addr size prot = true) : pagesN addr size = size / 256 ∧ pageOf addr = addr := by
  have := may_parts h
  unfold pagesN pageOf
  omega
theorem mem_mapN {m : V} {addr prot : Nat} {file : List UInt8} {off k : Nat} {x : Pg} : x ∈ mapN m addr prot file off k ↔ x ∈ m ∨ ∃ j, j < k ∧ x = newPg addr prot file off j := by
  induction k with
  | zero => simp [mapN]
  | succ k ih =>
    unfold mapN
    rw [insP_mem, ih]
    constructor
    · rintro (rfl | h | ⟨j, hj, rfl⟩)
      · exact .inr ⟨k, by omega, rfl⟩
      · exact .inl h
      · exact .inr ⟨j, by omega, rfl⟩
    · rintro (h | ⟨j, hj, rfl⟩)
      · exact .inr (.inl h)
      · rcases Nat.lt_or_ge j k with h | h
        · exact .inr (.inr ⟨j, h, rfl⟩)
        · obtain rfl : j = k := by omega
          exact .inl rfl
theorem mapN_len (m : V) (addr prot : Nat) (file : List UInt8) (off k : Nat) : (mapN m addr prot file off k).length = m.length + k := by
  induction k with
  | zero => rfl
  | succ k ih => unfold mapN; rw [insP_len, ih]; rfl
/-- ahead of the k-th page of a span that nobody has, its address is free -/
theorem mapN_free {m : V} {addr size prot : Nat} {file : List UInt8} {off k : Nat} (ho : over m addr size = false) (hk : 256 * k < size) : ∀ q ∈ mapN m addr prot file off k, q.addr ≠ addr + 256 * k := by
  intro q hq e
  rcases mem_mapN.1 hq with h | ⟨j, hj, rfl⟩
  · have h1 := List.any_eq_false.1 ho q h
    simp only [Bool.and_eq_true, decide_eq_true_eq, not_and] at h1
    omega
  · simp only [newPg] at e; omega
theorem newPg_ok {addr size prot : Nat} {file : List UInt8} {off k : Nat} (ha : addr % 256 = 0) (hs : addr + size ≤ top) (hp : prot ≤ 7) (hf : file.length ≤ maxLen) (hk : 256 * k < size) : PgOk (newPg addr prot file off k) := by
  refine ⟨?_, ?_, hp, noughts_len, ?_, hf⟩
  · simp only [newPg]; omega
  · simp only [newPg]; omega
  · simp only [newPg]
    split <;> omega
theorem mapN_ok {m : V} {addr size prot : Nat} {file : List UInt8} {off k : Nat} (h : Ok m) (ha : addr % 256 = 0) (hs : addr + size ≤ top) (hp : prot ≤ 7) (hf : file.length ≤ maxLen) (ho : over m addr size = false) (hk : 256 * k ≤ size) (hl : m.length + k ≤ 512) : Ok (mapN m addr prot file off k) := by
  induction k with
  | zero => exact h
  | succ k ih =>
    have ih := ih (by omega) (by omega)
    exact insP_ok ih (newPg_ok ha hs hp hf (by omega)) (mapN_free ho (by omega)) (by rw [mapN_len]; omega)
/-- a page is made another -/
def upd (m : V) (a : Nat) (g : Pg → Pg) : V := m.map fun p => if p.addr = a then g p else p
def updN (g : Pg → Pg) (m : V) (a : Nat) : Nat → V
  | 0 => m
  | k + 1 => upd (updN g m a k) (a + 256 * k) g
theorem upd_addr {g : Pg → Pg} (hg : ∀ p, (g p).addr = p.addr) (a : Nat) (p : Pg) : (if p.addr = a then g p else p : Pg).addr = p.addr := by split; exact hg p; rfl
theorem upd_ok {m : V} (h : Ok m) {g : Pg → Pg} (hg : ∀ p, (g p).addr = p.addr) (hok : ∀ p, PgOk p → PgOk (g p)) (a : Nat) : Ok (upd m a g) := by
  refine ⟨?_, fun p hp => ?_, by unfold upd; rw [List.length_map]; exact h.len⟩
  · unfold upd
    rw [List.pairwise_map]
    exact h.srt.imp fun hlt => by rw [upd_addr hg, upd_addr hg]; exact hlt
  · obtain ⟨q, hq, rfl⟩ := List.mem_map.1 hp
    split
    · exact hok q (h.pg q hq)
    · exact h.pg q hq
theorem pageAt_upd (m : V) {g : Pg → Pg} (hg : ∀ p, (g p).addr = p.addr) (a x : Nat) : pageAt (upd m a g) x = (pageAt m x).map fun p => if p.addr = a then g p else p := pageAt_map (upd_addr hg a) x
theorem pageAt_updN (m : V) {g : Pg → Pg} (hg : ∀ p, (g p).addr = p.addr) (a x : Nat) (k : Nat) : (pageAt (updN g m a k) x).isSome = (pageAt m x).isSome := by
  induction k with
  | zero => rfl
  | succ k ih => unfold updN; rw [pageAt_upd _ hg, Option.isSome_map, ih]
theorem there_updN (m : V) {g : Pg → Pg} (hg : ∀ p, (g p).addr = p.addr) (a k x n : Nat) : there (updN g m a k) x n = there m x n := by
  unfold there
  congr 1
  funext y
  exact pageAt_updN m hg a y k
theorem updN_ok {m : V} (h : Ok m) {g : Pg → Pg} (hg : ∀ p, (g p).addr = p.addr) (hok : ∀ p, PgOk p → PgOk (g p)) (a k : Nat) : Ok (updN g m a k) := by
  induction k with
  | zero => exact h
  | succ k ih => exact upd_ok ih hg hok _
/-- updN, page by page -/
theorem updN_eq (m : V) {g : Pg → Pg} (hg : ∀ p, (g p).addr = p.addr) (a k : Nat) : updN g m a k = m.map fun p => if ∃ j, j < k ∧ p.addr = a + 256 * j then g p else p := by
  induction k with
  | zero =>
    unfold updN
    conv => lhs; rw [← List.map_id m]
    apply List.map_congr_left
    intro p _
    rw [if_neg (fun ⟨j, hj, _⟩ => absurd hj (Nat.not_lt_zero _))]
    rfl
  | succ k ih =>
    unfold updN
    rw [ih]
    unfold upd
    rw [List.map_map]
    apply List.map_congr_left
    intro p _
    simp only [Function.comp]
    by_cases h1 : ∃ j, j < k ∧ p.addr = a + 256 * j
    · obtain ⟨j, hj, e⟩ := h1
      rw [if_pos (⟨j, hj, e⟩ : ∃ j, j < k ∧ p.addr = a + 256 * j), if_pos (⟨j, by omega, e⟩ : ∃ j, j < k + 1 ∧ p.addr = a + 256 * j), if_neg (by rw [hg]; omega)]
    · rw [if_neg h1]
      by_cases h2 : p.addr = a + 256 * k
      · rw [if_pos h2, if_pos ⟨k, by omega, h2⟩]
      · rw [if_neg h2, if_neg]
        rintro ⟨j, hj, e⟩
        rcases Nat.lt_or_ge j k with h | h
        · exact h1 ⟨j, h, e⟩
        · obtain rfl : j = k := by omega
          exact h2 e
def delP (m : V) (a : Nat) : V := m.filter fun p => p.addr != a
def delN (m : V) (a : Nat) : Nat → V
  | 0 => m
  | k + 1 => delP (delN m a k) (a + 256 * k)
theorem delP_ok {m : V} (h : Ok m) (a : Nat) : Ok (delP m a) :=
  ⟨h.srt.filter _, fun p hp => h.pg p (List.mem_filter.1 hp).1, Nat.le_trans (List.length_filter_le _ _) h.len⟩
theorem delN_ok {m : V} (h : Ok m) (a k : Nat) : Ok (delN m a k) := by
  induction k with
  | zero => exact h
  | succ k ih => exact delP_ok ih _
def unmapE (m : V) (addr size : Nat) : Nat := if may addr size 0 then heldE m addr size else 1
def unmapV (m : V) (addr size : Nat) : V := if unmapE m addr size = 0 then delN m addr (size / 256) else m
def protE (m : V) (addr size : Nat) (prot : Int) : Nat := if may addr size prot then heldE m addr size else 1
def protV (m : V) (addr size : Nat) (prot : Int) : V := if protE m addr size prot = 0 then updN (fun p => { p with prot := prot.toNat }) m addr (size / 256) else m
def numE (m : V) (addr : Nat) (n : Int) (what : Nat) : Nat := if n = 1 ∨ n = 2 ∨ n = 4 ∨ n = 8 then if heldE m addr n.toNat = 0 then allowedE m addr n.toNat what else heldE m addr n.toNat else 1
def loadE (m : V) (addr : Nat) (n : Int) : Nat := numE m addr n 4
def loadX (m : V) (addr : Nat) (n : Int) : Nat := if loadE m addr n = 0 then leN (readB m addr n.toNat) else 0
def dirt (p : Pg) : Pg := { p with dirty := true }
def storeV (m : V) (addr : Nat) (n : Int) (x : Nat) : V := if numE m addr n 2 = 0 then updN dirt (writeB m addr (le n.toNat x)) (pageOf addr) (pagesN addr n.toNat) else m
def fetchE (m : V) (addr : Nat) : Nat := if addr % 8 = 0 then numE m addr 8 1 else 1
def fetchX (m : V) (addr : Nat) : Nat := if fetchE m addr = 0 then leN (readB m addr 8) else 0
def peekE (m : V) (addr size : Nat) : Nat := if size = 0 then 0 else heldE m addr size
def peekB (m : V) (addr size : Nat) : List UInt8 := if size = 0 then [] else if heldE m addr size = 0 then readB m addr size else []
def pokeV (m : V) (addr : Nat) (b : List UInt8) : V := if peekE m addr b.length = 0 then writeB m addr b else m
theorem held_parts {m : V} {addr size : Nat} (h : Vm.heldE m addr size = 0) : addr ≤ top ∧ size ≤ top - addr ∧ size ≤ 131328 ∧ there m addr size = true := by
  unfold Vm.heldE at h
  split at h
  · cases h
  · rename_i hn
    split at h
    · rename_i ht
      exact ⟨by omega, by omega, by omega, ht⟩
    · cases h
end Go.Dm.Vm
namespace Go.Proofs.Ytaoillfofiehpaa
open Go.RowKit Go.Dm Go.Dm.Oc

theorem o_info : (Try.prog.info? 5).map (fun i => (i.zero, i.size, i.bytes)) = some (some (.int .u8 0), 1, 1) := by kernel_rfl
section
variable {A : Nat → Prop} {w : World}
theorem owidth_any (n : Int) (w : World) : Calls Try.prog 63 #[.int .i64 n] w fun e w' => e = .returned (.bool (widthB n)) ∧ w = w' := by
  go_enter Try.func63, Try.ntmps63
  go_wp2_with fail
  all_goals
    go_ret
    refine ⟨congrArg (fun b => Ending.returned (Value.bool b)) ?_, rfl⟩
    rw [Bool.eq_iff_iff]
    simp only [widthB, decide_eq_true_eq, true_iff, Bool.or_eq_true, beq_iff_eq]
    omega
theorem ohas_any (many at_ size : Nat) (hm : many < 9223372036854775808) (ha : at_ < 18446744073709551616) (hs : size < 18446744073709551616) (w : World) :
    Calls Try.prog 64 #[.int .i64 (many : Int), .int .u64 (at_ : Int), .int .u64 (size : Int)] w fun e w' => e = .returned (.bool (hasB many at_ size)) ∧ w = w' := by
  go_enter Try.func64, Try.ntmps64
  go_wp2_with fail
  all_goals
    go_ret
    refine ⟨congrArg (fun b => Ending.returned (Value.bool b)) ?_, rfl⟩
    rw [Bool.eq_iff_iff]
    simp only [hasB, Bool.and_eq_true, decide_eq_true_eq, Bool.false_eq_true, false_iff]
    omega
theorem ofits_any {v : Value} (b : List UInt8) (at_ : Nat) (n : Int) (hb : Bts A w v b) (hl : b.length ≤ 1099511627776) (ha : at_ < 18446744073709551616) (h0 : -9223372036854775808 ≤ n) (h1 : n < 9223372036854775808) :
    Calls Try.prog 55 #[v, .int .u64 (at_ : Int), .int .i64 n] w fun e w' => e = .returned (.int .i64 (fitsE b.length at_ n : Nat)) ∧ w = w' := by
  obtain ⟨a, c, rfl, hc, hc2⟩ := hb.shape
  have hd : fitsE b.length at_ n = if widthB n then if hasB b.length at_ n.toNat then 0 else 10 else 1 := rfl
  have HD := Lib.hid hd
  clear hd
  go_enter Try.func55, Try.ntmps55
  go_wp2_with fail
  refine (owidth_any n _).mono ?_
  rintro e x ⟨rfl, rfl⟩
  cases hw : widthB n with
  | false =>
    have HE := Lib.hid (show fitsE b.length at_ n = 1 by rw [HD.out, hw]; rfl)
    clear HD
    go_wp2_with fail
    go_ret
    rw [HE.out]
    exact ⟨rfl, rfl⟩
  | true =>
    have hn : n = (n.toNat : Int) := by simp only [widthB, decide_eq_true_eq] at hw; omega
    have hn8 : n.toNat ≤ 8 := by simp only [widthB, decide_eq_true_eq] at hw; omega
    have HE := Lib.hid (show fitsE b.length at_ n = if hasB b.length at_ n.toNat then 0 else 10 by rw [HD.out, hw]; rfl)
    clear HD hw
    generalize n.toNat = k at *
    subst hn
    go_wp2_with fail
    refine (ohas_any b.length at_ k (by omega) ha (by omega) _).mono ?_
    rintro e x ⟨rfl, rfl⟩
    cases hh : hasB b.length at_ k with
    | false =>
      have HE2 := Lib.hid (show fitsE b.length at_ (k : Int) = 10 by rw [HE.out, hh]; rfl)
      clear HE
      go_wp2_with fail
      go_ret
      rw [HE2.out]
      exact ⟨rfl, rfl⟩
    | true =>
      have HE2 := Lib.hid (show fitsE b.length at_ (k : Int) = 0 by rw [HE.out, hh]; rfl)
      clear HE
      go_wp2_with fail
      go_ret
      rw [HE2.out]
      exact ⟨rfl, rfl⟩
set_option maxRecDepth 100000 in
set_option maxHeartbeats 2000000 in
theorem oget_any {v : Value} (b : List UInt8) (at_ : Nat) (n : Int) (hb : Bts A w v b) (hl : b.length ≤ 1099511627776) (ha : at_ < 18446744073709551616) (h0 : -9223372036854775808 ≤ n) (h1 : n < 9223372036854775808) :
    Calls Try.prog 42 #[v, .int .u64 (at_ : Int), .int .i64 n] w fun e w' => e = .returned (.tuple #[.int .u64 (getX b at_ n : Nat), .int .i64 (fitsE b.length at_ n : Nat)]) ∧ w = w' := by
  have hfit := ofits_any b at_ n hb hl ha h0 h1
  obtain ⟨a, c, rfl, hc, hc2⟩ := hb.shape
  obtain ⟨X, hX⟩ : ∃ X, getX b at_ n = X := ⟨_, rfl⟩
  have hx : getX b at_ n = if fitsE b.length at_ n = 0 then leN ((b.drop at_).take n.toNat) else 0 := rfl
  have hparts := @fits_parts b.length at_ n
  rw [hX] at hx ⊢
  generalize fitsE b.length at_ n = er at *
  have HX := Lib.hid hx
  clear hx hX
  go_enter Try.func42, Try.ntmps42
  go_wp2_with fail
  refine hfit.mono ?_
  rintro e x ⟨rfl, rfl⟩
  clear hfit
  by_cases hf : er = 0
  · subst hf
    obtain ⟨hn, hat, hsz⟩ := hparts rfl
    have HE := Lib.hid (show X = leN ((b.drop at_).take n.toNat) by rw [HX.out, if_pos rfl])
    clear HX hparts
    have hnn : n = (n.toNat : Int) := by omega
    have hn8 : n.toNat ≤ 8 := by omega
    have hn1 : 1 ≤ n.toNat := by omega
    generalize n.toNat = k at *
    subst hnn
    clear hn
    go_wp2_with fail
    go_loopw [9, 19] (fun xv iv wr => ∃ i : Nat, xv = .int .u64 (leN ((b.drop at_).take i) : Nat) ∧ iv = .int .i64 i ∧ i ≤ k ∧ wr = w) (fun _ iv _ => k - (intOf iv).toNat)
    case atStart => exact ⟨0, rfl, rfl, Nat.zero_le _, rfl⟩
    case round =>
      obtain ⟨i, rfl, rfl, hi, rfl⟩ := hrel
      rcases Nat.lt_or_ge i k with hlt | hge
      · obtain ⟨g0, off, cap, e, hg0, hgl, _, _, hcell⟩ := hb.at (by omega)
        cases e
        have hin : at_ + i < b.length := by omega
        have qb : wr.cell? ⟨g0, off + (at_ + i), none⟩ = some (bv b[at_ + i]) := hcell (at_ + i) _ (by rw [List.getElem?_map, List.getElem?_eq_getElem hin]; rfl)
        have htk : (b.drop at_).take (i + 1) = (b.drop at_).take i ++ [b[at_ + i]] := by
          rw [List.take_succ_eq_append_getElem (by rw [List.length_drop]; omega), List.getElem_drop]
        have hlen : ((b.drop at_).take i).length = i := by rw [List.length_take, List.length_drop]; omega
        have hnx : leN ((b.drop at_).take (i + 1)) = leN ((b.drop at_).take i) + 2 ^ (8 * i) * b[at_ + i].toNat := by rw [htk, leN_snoc, hlen, pow256]
        have hlt8 : leN ((b.drop at_).take i) < 2 ^ (8 * i) := by
          have := leN_lt ((b.drop at_).take i)
          rw [hlen, pow256] at this
          exact this
        have hbb := b[at_ + i].toNat_lt
        generalize b[at_ + i] = y at *
        generalize leN ((b.drop at_).take i) = x at *
        have hor := or_top x y.toNat (8 * i) hlt8
        have hp64 : y.toNat * 2 ^ (8 * i) < 18446744073709551616 := by
          have h1 : y.toNat * 2 ^ (8 * i) < 256 * 2 ^ (8 * i) := Nat.mul_lt_mul_of_pos_right hbb (Nat.two_pow_pos _)
          have h2 : 256 * 2 ^ (8 * i) = 2 ^ (8 * (i + 1)) := by rw [show (256 : Nat) = 2 ^ 8 by rfl, ← Nat.pow_add]; congr 1; omega
          have h3 : 2 ^ (8 * (i + 1)) ≤ 2 ^ 64 := Nat.pow_le_pow_right (by decide) (by omega)
          omega
        have hx64 : x < 18446744073709551616 := by
          have h3 : 2 ^ (8 * i) ≤ 2 ^ 64 := Nat.pow_le_pow_right (by decide) (by omega)
          omega
        have hwr : IntKind.u64.wrap ((y.toNat : Int) * 2 ^ (8 * i)) = ((y.toNat * 2 ^ (8 * i) : Nat) : Int) := by
          rw [show ((y.toNat : Int) * 2 ^ (8 * i)) = ((y.toNat * 2 ^ (8 * i) : Nat) : Int) by push_cast; rfl, IntKind.wrap_u64]
          omega
        have hbor := u64_or_nat x (y.toNat * 2 ^ (8 * i)) hx64 hp64
        rw [hor, ← hnx, ← hwr] at hbor
        have HB := Lib.hid hbor
        have hltz : (i : Int) < (k : Int) := by omega
        have hsum : (at_ : Int) + (i : Int) = ((at_ + i : Nat) : Int) := by omega
        have hinz : ((at_ + i : Nat) : Int) < (b.length : Int) := by omega
        have hatz : (at_ : Int) < 9223372036854775808 := by omega
        have hi8 : (i : Int) ≤ 8 := by omega
        unfold bv at qb
        clear hor hnx htk hlt8 hcell HE hwr hbor hp64
        obtain ⟨j, hj⟩ : ∃ j, j = at_ + i := ⟨_, rfl⟩
        rw [← hj] at hsum hinz qb
        have hjz : (j : Int) < 9223372036854775808 := by omega
        clear hj hin
        go_wp2_with fail
        go_roundw
        case rel => exact ⟨i + 1, by rw [HB.out], by go_num, hlt, trivial⟩
        case measure => simp [intOf]; omega
      · obtain rfl : i = k := Nat.le_antisymm hi hge
        go_wp2_with fail
        go_ret2
        rw [HE.out]
        exact ⟨rfl, rfl⟩
  · have HE := Lib.hid (show X = 0 by rw [HX.out, if_neg hf])
    clear HX hparts
    have hne : (er : Int) ≠ 0 := by omega
    go_wp2_with fail
    go_ret2
    rw [HE.out]
    exact ⟨rfl, rfl⟩
set_option maxRecDepth 100000 in
set_option maxHeartbeats 400000 in
theorem oclone_any (v : Value) (xs : List UInt8) (w : World) (h : Bts A w v xs) (b1 : xs.length ≤ 1099511627776) :
    Calls Try.prog 56 #[v] w fun e w' => ∃ v', e = .returned v' ∧ w'.ownsRow w.heap.size 5 1 v' xs.length (xs.map bv) ∧ Keep No w w' := by
  obtain ⟨a, c, rfl, hc, hc2⟩ := h.shape
  have qT := fun (w : World) (a : Option Addr) (n c n' c' : Nat) => Lib.run_eql_slice_nil (P := Try.prog) w _ _ a n c n' c' Try.underlying25
  cases a with
  | none =>
    have e0 : xs.length = 0 := by
      obtain ⟨_, a', cap, e, c1, _, c2, _⟩ := h
      cases e
      have := c2 rfl
      omega
    obtain rfl : xs = [] := List.eq_nil_of_length_eq_zero e0
    go_enter Try.func56, Try.ntmps56
    go_wp2_with fail
    go_ret
    exact ⟨_, rfl, World.ownsRow_nil _ _ _ _, Keep.refl _ _⟩
  | some a =>
    go_enter Try.func56, Try.ntmps56
    go_wp2_with (at_builtin; refine wl_append rfl _ _ _ _ rfl _ _ rfl rfl ?_)
    have hown : (w.alloc (.cells #[] 5)).ownsRow w.heap.size 5 1 (.slice (some ⟨w.heap.size, 0, none⟩) 0 0) 0 [] := World.ownsRow_made w #[] 0 (Nat.le_refl _) (Nat.zero_le _) rfl
    refine rg_append w.heap.size 5 _ 1 1 Try.underlying25 o_info rfl (by decide) hown (h.keep ((Keep.refl No w).alloc _) fun _ _ _ h => h) (bv_one _) (by unfold maxLen; omega) (by omega) (by simp) ?_
    intro v' w2 ho hk _ _
    simp only [Nat.zero_add, List.nil_append] at ho
    go_wp2_with fail
    go_ret
    exact ⟨_, rfl, ho, ((Keep.refl No w).alloc _).trans hk fun j hj e => by
      simp only [Value.ownBlock, Option.some.injEq] at e; omega⟩
/-- bytes with a number -/
def setX (b : List UInt8) (at_ : Nat) (n : Int) (x : Nat) : List UInt8 := setR b at_ (le n.toNat x)
theorem oset_bad {v : Value} (b : List UInt8) (at_ : Nat) (n : Int) (x : Nat) (hb : Bts A w v b) (hl : b.length ≤ 1099511627776) (ha : at_ < 18446744073709551616) (h0 : -9223372036854775808 ≤ n) (h1 : n < 9223372036854775808) (hf : fitsE b.length at_ n ≠ 0) :
    Calls Try.prog 38 #[v, .int .u64 (at_ : Int), .int .i64 n, .int .u64 (x : Int)] w fun e w' => e = .returned (.tuple #[.slice none 0 0, .int .i64 (fitsE b.length at_ n : Nat)]) ∧ w = w' := by
  have hfit := ofits_any b at_ n hb hl ha h0 h1
  obtain ⟨a, c, rfl, hc, hc2⟩ := hb.shape
  generalize fitsE b.length at_ n = er at *
  have hne : (er : Int) ≠ 0 := by omega
  go_enter Try.func38, Try.ntmps38
  go_wp2_with fail
  refine hfit.mono ?_
  rintro e x ⟨rfl, rfl⟩
  go_wp2_with fail
  go_ret2
  exact ⟨rfl, rfl⟩
set_option maxRecDepth 100000 in
set_option maxHeartbeats 2000000 in
theorem oset_any {v : Value} (b : List UInt8) (at_ : Nat) (n : Int) (x : Nat) (hb : Bts A w v b) (hl : b.length ≤ 1099511627776) (ha : at_ < 18446744073709551616) (hx : x < 18446744073709551616) (hf : fitsE b.length at_ n = 0) :
    Calls Try.prog 38 #[v, .int .u64 (at_ : Int), .int .i64 n, .int .u64 (x : Int)] w fun e w' => ∃ v', e = .returned (.tuple #[v', .int .i64 0]) ∧ w'.ownsRow w.heap.size 5 1 v' b.length ((setX b at_ n x).map bv) ∧ Keep No w w' := by
  obtain ⟨hn, hat, hsz⟩ := fits_parts hf
  have hfit := ofits_any b at_ n hb hl ha (by omega) (by omega)
  have hcl := oclone_any v b w hb hl
  rw [hf] at hfit
  unfold setX
  have hnn : n = (n.toNat : Int) := by omega
  have hn8 : n.toNat ≤ 8 := by omega
  have hn1 : 1 ≤ n.toNat := by omega
  generalize n.toNat = k at *
  subst hnn
  clear hn hf
  obtain ⟨a, c, rfl, hc, hc2⟩ := hb.shape
  go_enter Try.func38, Try.ntmps38
  go_wp2_with fail
  refine hfit.mono ?_
  rintro e W ⟨rfl, rfl⟩
  clear hfit
  go_wp2_with fail
  refine hcl.mono ?_
  rintro e W ⟨v', rfl, ho, hK⟩
  clear hcl
  have hbl : 0 < b.length := by omega
  rcases ho.2 with ⟨_, h0⟩ | ⟨g, cap, cur, rfl, hgb, _⟩
  · omega
  go_wp2_with fail
  go_loopw [23] (fun iv wr => ∃ i : Nat, iv = .int .i64 i ∧ i ≤ k ∧ wr.ownsRow w.heap.size 5 1 (.slice (some ⟨g, 0, none⟩) b.length cap) b.length ((setR b at_ ((le k x).take i)).map bv) ∧ Keep No w wr) (fun iv _ => k - (intOf iv).toNat)
  case atStart => exact ⟨0, rfl, Nat.zero_le _, ho, hK⟩
  case round =>
    clear ho hK
    obtain ⟨i, rfl, hi, ho, hK⟩ := hrel
    rcases Nat.lt_or_ge i k with hlt | hge
    · have hin : at_ + i < b.length := by omega
      have hle := le_len k x
      have htk : (le k x).take (i + 1) = (le k x).take i ++ [UInt8.ofNat (x / 256 ^ i % 256)] := by
        rw [List.take_succ_eq_append_getElem (by omega), le_get k x i hlt]
      have hlen : ((le k x).take i).length = i := by rw [List.length_take]; omega
      have hnx : setR b at_ ((le k x).take (i + 1)) = (setR b at_ ((le k x).take i)).set (at_ + i) (UInt8.ofNat (x / 256 ^ i % 256)) := by rw [htk, setR_snoc, hlen]
      have hsl : (setR b at_ ((le k x).take i)).length = b.length := setR_len _ _ _
      have hc1 : wr.cell? ⟨g, at_ + i, none⟩ = some (bv ((setR b at_ ((le k x).take i))[at_ + i]'(by omega))) := by
        rw [ho.cellAt (at_ + i) (by omega), List.getElem?_map, List.getElem?_eq_getElem (by omega)]
        rfl
      have hfz : wr.frozen? ⟨g, at_ + i, none⟩ = false := ho.frozenAt _
      have ho2 := ho.stored (at_ + i) (bv (UInt8.ofNat (x / 256 ^ i % 256)))
      rw [← List.map_set, ← hnx] at ho2
      have hshr : (x : Int) / 2 ^ (8 * i) = ((x / 256 ^ i : Nat) : Int) := by rw [pow256]; push_cast; rfl
      have hbyte : IntKind.u8.wrap ((x / 256 ^ i : Nat) : Int) = ((UInt8.ofNat (x / 256 ^ i % 256)).toNat : Int) := by
        rw [IntKind.wrap_u8', UInt8.toNat_ofNat', Nat.mod_mod]
        omega
      have hk2 := hK.setCell (p := ⟨g, at_ + i, none⟩) (fun h => absurd h (Nat.not_lt.2 hgb)) (bv (UInt8.ofNat (x / 256 ^ i % 256)))
      unfold bv at hc1 ho2 hk2
      generalize (setR b at_ ((le k x).take i))[at_ + i]'(by omega) = y at *
      have hltz : (i : Int) < (k : Int) := by omega
      have hsum : (at_ : Int) + (i : Int) = ((at_ + i : Nat) : Int) := by omega
      have hinz : ((at_ + i : Nat) : Int) < (b.length : Int) := by omega
      have hatz : (at_ : Int) < 9223372036854775808 := by omega
      have hi8 : (i : Int) ≤ 8 := by omega
      clear hnx htk hsl ho hK
      obtain ⟨j, hj⟩ : ∃ j, j = at_ + i := ⟨_, rfl⟩
      rw [← hj] at hsum hinz hc1 hfz ho2 hk2
      have hjz : (j : Int) < 9223372036854775808 := by omega
      clear hj hin
      generalize UInt8.ofNat (x / 256 ^ i % 256) = z at *
      generalize x / 256 ^ i = q at *
      go_wp2_with fail
      go_roundw
      case rel => exact ⟨i + 1, by go_num, hlt, ho2.1, hk2⟩
      case measure => simp [intOf]; omega
    · obtain rfl : i = k := Nat.le_antisymm hi hge
      rw [List.take_of_length_le (by rw [le_len]; exact Nat.le_refl _)] at ho
      go_wp2_with fail
      go_ret2
      exact ⟨_, rfl, ho, hK⟩
end
end Go.Proofs.Ytaoillfofiehpaa
