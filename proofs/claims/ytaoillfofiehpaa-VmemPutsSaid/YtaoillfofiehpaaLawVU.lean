/- VmemPuts: walked. No condition. -/
import Derived.Test.YtaoillfofiehpaaVmL
import Derived.Test.YtaoillfofiehpaaRv5
set_option linter.unusedVariables false
set_option linter.unusedSimpArgs false
namespace Go.Dm.Vm
open Go Go.Proofs.Ytaoillfofiehpaa
theorem put_raw (l : List PgR) : ∀ p, putE p l = 0 → (l.map toPg).map rawR = l := by
  induction l with
  | nil => intro p _; rfl
  | cons r t ih =>
    intro p h
    unfold putE at h
    split at h
    · cases h
    · rename_i hb
      have hg := (good_parts (by simpa using hb)).2.1
      have hp := may_parts hg
      rw [List.map_cons, List.map_cons, ih (some r) h]
      congr 1
      have h2 : ((r.prot.toNat : Nat) : Int) = r.prot := by omega
      show (⟨r.addr, ((r.prot.toNat : Nat) : Int), r.dirty, r.file, r.off, r.b⟩ : PgR) = r
      rw [h2]
end Go.Dm.Vm
namespace Go.Proofs.Ytaoillfofiehpaa
open Go.RowKit Go.Dm Go.Dm.Vm Go.Maps Go.Dm.Oc Go.WideMaps Go.WideElems
section
variable {A : Nat → Prop} {w : World}
set_option maxRecDepth 100000 in
set_option maxHeartbeats 8000000 in
theorem rvput_any {v : Value} (L : List PgR) (h : Fl A w 6 encT v L) (hr : ∀ x ∈ L, x.addr < 18446744073709551616 ∧ x.b.length ≤ 1099511627776) (hl : L.length ≤ 512) :
    Calls Try.prog 10 #[v] w fun e w' => e = .returned (.tuple #[.agg #[if putE none L = 0 then v else .slice none 0 0], .int .i64 (putE none L)]) ∧ Keep No w w' := by
  obtain ⟨av, cv, rfl, _, _⟩ := h.shape
  go_enter Try.func10, Try.ntmps10
  go_wp2_with fail
  have hkW1 : Keep No w (w.alloc (.cells #[.slice none 0 0] 34)) := (Keep.refl _ _).alloc _
  have hBW1 : Blk (w.alloc (.cells #[.slice none 0 0] 34)) w.heap.size #[.slice none 0 0] 34 := Blk.new _ _ _
  have hzW1 : (w.alloc (.cells #[.slice none 0 0] 34)).heap.size = w.heap.size + 1 := World.size_alloc _ _
  generalize w.alloc (.cells #[.slice none 0 0] 34) = W1 at *
  have HEnd : Hid (∀ wr wz : World, Keep No W1 wr → Keep (fun j => j = w.heap.size) wr wz → Keep No w wz) := Lib.hid fun wr wz h1 h2 => (hkW1.trans' h1).trans h2 fun j hj e => absurd hj (by have e2 : j = w.heap.size := e; omega)
  go_wp2_with fail
  go_loopw [4] (fun iv wr => ∃ i : Nat, iv = .int .i64 i ∧ i ≤ L.length ∧ okTo L i ∧ Keep No W1 wr) (fun iv _ => L.length - (intOf iv).toNat)
  case atStart => exact ⟨0, rfl, Nat.zero_le _, fun j _ hj => absurd hj (Nat.not_lt_zero _), Keep.refl _ _⟩
  case round =>
    obtain ⟨i, rfl, hi, hok, hk⟩ := hrel
    have hb2 := hBW1.keep hk fun h => h
    rcases Nat.lt_or_ge i L.length with hlt | hge
    · obtain ⟨g, off, cap, e, _, hgl, _, _, hc⟩ := (h.no (hkW1.trans' hk)).at encT_len hlt
      cases e
      have hiz : (i : Int) < (L.length : Int) := by omega
      have hprev : 0 < i → ∃ q : PgR, L[i - 1]? = some q ∧ wr.cell? ⟨g, off + (i - 1) * 6, none⟩ = some (.int .u64 (q.addr : Int)) := fun h0 => by
        have hj : i - 1 < L.length := by omega
        obtain ⟨g', off', cap', e', _, _, _, _, hc'⟩ := (h.no (hkW1.trans' hk)).at encT_len hj
        cases e'
        have := hc' 0 _ rfl
        rw [Nat.add_zero] at this
        exact ⟨L[i - 1], List.getElem?_eq_getElem hj, this⟩
      have hbad : ∀ c : Bool, badR (if i = 0 then none else L[i - 1]?) L[i] = c → (c = true → putE none L = 11) ∧ (c = false → okTo L (i + 1)) := fun c hc => by
        subst hc
        refine ⟨fun h => putE_bad _ none i hlt h, fun h => fun j hj hji => ?_⟩
        rcases Nat.lt_or_ge j i with h2 | h2
        · exact hok j hj h2
        · obtain rfl : j = i := by omega
          exact h
      have HBAD := Lib.hid hbad
      obtain ⟨ra, rb⟩ := hr _ (List.getElem_mem hlt)
      clear hbad hok
      generalize L[i] = r at *
      have c0 : wr.cell? ⟨g, off + i * 6, none⟩ = some (.int .u64 (r.addr : Int)) := hc 0 _ rfl
      have c1 : wr.cell? ⟨g, off + i * 6 + 1, none⟩ = some (.int .i64 r.prot) := hc 1 _ rfl
      have c3 : wr.cell? ⟨g, off + i * 6 + 3, none⟩ = some (.string ⟨r.file.toArray⟩) := hc 3 _ rfl
      have c4 : wr.cell? ⟨g, off + i * 6 + 4, none⟩ = some (.int .u64 (r.off : Int)) := hc 4 _ rfl
      have c5 : wr.cell? ⟨g, off + i * 6 + 5, none⟩ = some (.string ⟨r.b.toArray⟩) := hc 5 _ rfl
      obtain ⟨low, hlow⟩ : ∃ low : Bool, low = lowR (if i = 0 then none else L[i - 1]?) r := ⟨_, rfl⟩
      have hbd : badR (if i = 0 then none else L[i - 1]?) r = (low || !Vm.may r.addr 256 r.prot || !(r.b.length == 256) || (r.file.isEmpty && !(r.off == 0))) := by rw [hlow]; rfl
      rw [hbd] at HBAD
      clear hbd hc
      go_wp2_with fail
      go_quiet (first | (go_at_call 30; exact Calls.quiet_of_same ((rvmay_any r.addr 256 r.prot ra (by omega) _).mono fun _ _ h => ⟨h.1, h.2.symm⟩)))
      go_wp2_with fail
      have hkq : Keep No wr (wr.drewN nq) := (Keep.refl No wr).drewN nq
      generalize wr.drewN nq = wq at *
      have hk' := hk.trans' hkq
      have hb2' := hb2.keep hkq fun h => h
      have c0q : wq.cell? ⟨g, off + i * 6, none⟩ = some (.int .u64 (r.addr : Int)) := (hkq.cell (p := ⟨g, off + i * 6, none⟩) hgl fun h => h).trans c0
      have c3q : wq.cell? ⟨g, off + i * 6 + 3, none⟩ = some (.string ⟨r.file.toArray⟩) := (hkq.cell (p := ⟨g, off + i * 6 + 3, none⟩) hgl fun h => h).trans c3
      have c4q : wq.cell? ⟨g, off + i * 6 + 4, none⟩ = some (.int .u64 (r.off : Int)) := (hkq.cell (p := ⟨g, off + i * 6 + 4, none⟩) hgl fun h => h).trans c4
      have c5q : wq.cell? ⟨g, off + i * 6 + 5, none⟩ = some (.string ⟨r.b.toArray⟩) := (hkq.cell (p := ⟨g, off + i * 6 + 5, none⟩) hgl fun h => h).trans c5
      clear c0 c1 c3 c4 c5
      cases hmay : Vm.may r.addr 256 r.prot with
      | false =>
        have h11 := (HBAD.out true (by rw [hmay]; simp)).1 rfl
        clear HBAD
        go_quiet (fail)
        go_wp2_with (with_reducible refine wl_stAgg rfl _ _ _ rfl _ _ rfl rfl ?_)
        refine rg_stAgg (hb2'.keep ((Keep.refl No wq).drewN _) fun h => h) (by kernel_rfl) (by rfl) (by simp [Value.oneCell']) ?_
        intro wz hBz hkz hsz
        go_wp2_with fail
        refine ret_blk_tmp rfl rfl hBz Try.underlying34 rfl (by kernel_rfl) rfl ?_
        try rw [h11]
        exact ⟨rfl, HEnd.out _ _ (hk'.drewN _) hkz⟩
      | true =>
        rcases Nat.eq_zero_or_pos i with h0 | h0
        · have hl0 : low = false := by rw [hlow, if_pos h0]; rfl
          subst hl0
          have i1 : decide ((0 : Int) < (i : Int)) = false := by simp; omega
          have i2 : decide (0 < i) = false := by simp; omega
          clear hprev hlow h0
          refine wp_region_sig (fun w' => w'.cell? ⟨g, off + i * 6, none⟩ = some (.int .u64 (r.addr : Int)) ∧ w'.cell? ⟨g, off + i * 6 + 3, none⟩ = some (.string ⟨r.file.toArray⟩) ∧ w'.cell? ⟨g, off + i * 6 + 4, none⟩ = some (.int .u64 (r.off : Int)) ∧ w'.cell? ⟨g, off + i * 6 + 5, none⟩ = some (.string ⟨r.b.toArray⟩)) (fun j => decide (j ≤ 99)) [(0, true), (1, true), (2, true), (3, true), (4, true), (5, true), (6, true), (7, true), (8, true), (9, true), (10, true), (11, true), (12, true), (13, true), (14, true), (15, true), (16, true), (17, true), (18, true), (19, true), (20, true), (21, true), (22, true), (23, true), (24, true), (25, true), (26, true), (27, true), (28, true), (29, true), (30, true), (31, true), (32, true), (33, true), (34, true), (35, true), (36, true), (37, true), (38, true), (39, true), (40, true), (41, true), (42, true), (43, true), (44, true)] (by kernel_rfl) (by kernel_rfl) (by intro c a d v w h; cases d <;> exact h) ⟨c0q, c3q, c4q, c5q⟩ ?_
          apply sig_still (o := ⟨some 23, _, _, _, _, _⟩) rfl rfl
          · intro w' hS
            obtain ⟨q1, q2, q3, q4⟩ := hS
            first | (go_simp; done) | (go_simp; rfl) | rfl
          go_frame
          apply sig_still (o := ⟨some 24, _, _, _, _, _⟩) rfl rfl
          · intro w' hS
            obtain ⟨q1, q2, q3, q4⟩ := hS
            first | (go_simp; done) | (go_simp; rfl) | rfl
          go_frame
          apply sig_still (o := ⟨some 25, _, _, _, _, _⟩) rfl rfl
          · intro w' hS
            obtain ⟨q1, q2, q3, q4⟩ := hS
            first | (go_simp; done) | (go_simp; rfl) | rfl
          go_frame
          apply sig_guard (o := ⟨some 26, _, _, _, _, _⟩) rfl (by rfl)
          · intro w' hS
            obtain ⟨q1, q2, q3, q4⟩ := hS
            first | (go_simp; done) | (go_simp; rfl) | rfl
          go_frame
          apply sig_guard (o := ⟨some 27, _, _, _, _, _⟩) rfl (by rfl)
          · intro w' hS
            obtain ⟨q1, q2, q3, q4⟩ := hS
            first | (go_simp; done) | (go_simp; rfl) | rfl
          go_frame
          apply sig_guard (o := ⟨some 28, _, _, _, _, _⟩) rfl (by rfl)
          · intro w' hS
            obtain ⟨q1, q2, q3, q4⟩ := hS
            first | (go_simp; done) | (go_simp; rfl) | rfl
          go_frame
          refine sig_skip (o := ⟨some 29, _, _, _, _, _⟩) rfl (by rfl) ?_
          go_frame
          refine sig_skip (o := ⟨some 30, _, _, _, _, _⟩) rfl (by rfl) ?_
          go_frame
          refine sig_skip (o := ⟨some 31, _, _, _, _, _⟩) rfl (by rfl) ?_
          go_frame
          refine sig_skip (o := ⟨some 32, _, _, _, _, _⟩) rfl (by rfl) ?_
          go_frame
          refine sig_skip (o := ⟨some 33, _, _, _, _, _⟩) rfl (by rfl) ?_
          go_frame
          refine sig_skip (o := ⟨some 34, _, _, _, _, _⟩) rfl (by rfl) ?_
          go_frame
          refine sig_skip (o := ⟨some 35, _, _, _, _, _⟩) rfl (by rfl) ?_
          go_frame
          refine sig_skip (o := ⟨some 36, _, _, _, _, _⟩) rfl (by rfl) ?_
          go_frame
          refine sig_skip (o := ⟨some 37, _, _, _, _, _⟩) rfl (by rfl) ?_
          go_frame
          refine sig_skip (o := ⟨some 38, _, _, _, _, _⟩) rfl (by rfl) ?_
          go_frame
          refine sig_skip (o := ⟨some 39, _, _, _, _, _⟩) rfl (by rfl) ?_
          go_frame
          refine sig_skip (o := ⟨some 40, _, _, _, _, _⟩) rfl (by rfl) ?_
          go_frame
          apply sig_guard (o := ⟨some 41, _, _, _, _, _⟩) rfl (by rfl)
          · intro w' hS
            obtain ⟨q1, q2, q3, q4⟩ := hS
            first | (go_simp; done) | (go_simp; rfl) | rfl
          go_frame
          apply sig_still (o := ⟨some 42, _, _, _, _, _⟩) rfl rfl
          · intro w' hS
            obtain ⟨q1, q2, q3, q4⟩ := hS
            first | (go_simp; done) | (go_simp; rfl) | rfl
          go_frame
          apply sig_still (o := ⟨some 43, _, _, _, _, _⟩) rfl rfl
          · intro w' hS
            obtain ⟨q1, q2, q3, q4⟩ := hS
            first | (go_simp; done) | (go_simp; rfl) | rfl
          go_frame
          apply sig_guard (o := ⟨some 44, _, _, _, _, _⟩) rfl (by rfl)
          · intro w' hS
            obtain ⟨q1, q2, q3, q4⟩ := hS
            first | (go_simp; done) | (go_simp; rfl) | rfl
          go_frame
          apply sig_guard (o := ⟨some 45, _, _, _, _, _⟩) rfl (by rfl)
          · intro w' hS
            obtain ⟨q1, q2, q3, q4⟩ := hS
            first | (go_simp; done) | (go_simp; rfl) | rfl
          go_frame
          apply sig_guard (o := ⟨some 46, _, _, _, _, _⟩) rfl (by rfl)
          · intro w' hS
            obtain ⟨q1, q2, q3, q4⟩ := hS
            first | (go_simp; done) | (go_simp; rfl) | rfl
          go_frame
          apply sig_guard (o := ⟨some 47, _, _, _, _, _⟩) rfl (by rfl)
          · intro w' hS
            obtain ⟨q1, q2, q3, q4⟩ := hS
            first | (go_simp; done) | (go_simp; rfl) | rfl
          go_frame
          apply sig_guard (o := ⟨some 48, _, _, _, _, _⟩) rfl (by rfl)
          · intro w' hS
            obtain ⟨q1, q2, q3, q4⟩ := hS
            first | (go_simp; done) | (go_simp; rfl) | rfl
          go_frame
          apply sig_guard (o := ⟨some 49, _, _, _, _, _⟩) rfl (by rfl)
          · intro w' hS
            obtain ⟨q1, q2, q3, q4⟩ := hS
            first | (go_simp; done) | (go_simp; rfl) | rfl
          go_frame
          by_cases hb256 : r.b.length = 256
          · have hl256 : ((r.b.length : Int) == 256) = true := by simp; omega
            have hl257 : (r.b.length : Int) = 256 := by omega
            have hde : ({ data := #[] } : ByteArray).toList = [] := by rw [ByteArray.toList_eq]
            apply sig_guard (o := ⟨some 50, _, _, _, _, _⟩) rfl (by rfl)
            · intro w' hS
              obtain ⟨q1, q2, q3, q4⟩ := hS
              first | (go_simp; done) | (go_simp; rfl) | rfl
            go_frame
            apply sig_still (o := ⟨some 51, _, _, _, _, _⟩) rfl rfl
            · intro w' hS
              obtain ⟨q1, q2, q3, q4⟩ := hS
              first | (go_simp; done) | (go_simp; rfl) | rfl
            go_frame
            apply sig_still (o := ⟨some 52, _, _, _, _, _⟩) rfl rfl
            · intro w' hS
              obtain ⟨q1, q2, q3, q4⟩ := hS
              first | (go_simp; done) | (go_simp; rfl) | rfl
            go_frame
            by_cases hfe : r.file = []
            · have hdf : ({ data := r.file.toArray } : ByteArray).toList = [] := by rw [ByteArray.toList_eq, hfe]
              apply sig_guard (o := ⟨some 53, _, _, _, _, _⟩) rfl (by rfl)
              · intro w' hS
                obtain ⟨q1, q2, q3, q4⟩ := hS
                first | (go_simp; done) | (go_simp; rfl) | rfl
              go_frame
              apply sig_guard (o := ⟨some 54, _, _, _, _, _⟩) rfl (by rfl)
              · intro w' hS
                obtain ⟨q1, q2, q3, q4⟩ := hS
                first | (go_simp; done) | (go_simp; rfl) | rfl
              go_frame
              apply sig_guard (o := ⟨some 55, _, _, _, _, _⟩) rfl (by rfl)
              · intro w' hS
                obtain ⟨q1, q2, q3, q4⟩ := hS
                first | (go_simp; done) | (go_simp; rfl) | rfl
              go_frame
              apply sig_guard (o := ⟨some 56, _, _, _, _, _⟩) rfl (by rfl)
              · intro w' hS
                obtain ⟨q1, q2, q3, q4⟩ := hS
                first | (go_simp; done) | (go_simp; rfl) | rfl
              go_frame
              apply sig_guard (o := ⟨some 57, _, _, _, _, _⟩) rfl (by rfl)
              · intro w' hS
                obtain ⟨q1, q2, q3, q4⟩ := hS
                first | (go_simp; done) | (go_simp; rfl) | rfl
              go_frame
              apply sig_guard (o := ⟨some 58, _, _, _, _, _⟩) rfl (by rfl)
              · intro w' hS
                obtain ⟨q1, q2, q3, q4⟩ := hS
                first | (go_simp; done) | (go_simp; rfl) | rfl
              go_frame
              apply sig_guard (o := ⟨some 59, _, _, _, _, _⟩) rfl (by rfl)
              · intro w' hS
                obtain ⟨q1, q2, q3, q4⟩ := hS
                first | (go_simp; done) | (go_simp; rfl) | rfl
              go_frame
              apply sig_guard (o := ⟨some 60, _, _, _, _, _⟩) rfl (by rfl)
              · intro w' hS
                obtain ⟨q1, q2, q3, q4⟩ := hS
                first | (go_simp; done) | (go_simp; rfl) | rfl
              go_frame
              apply sig_guard (o := ⟨some 61, _, _, _, _, _⟩) rfl (by rfl)
              · intro w' hS
                obtain ⟨q1, q2, q3, q4⟩ := hS
                first | (go_simp; done) | (go_simp; rfl) | rfl
              go_frame
              apply sig_guard (o := ⟨some 62, _, _, _, _, _⟩) rfl (by rfl)
              · intro w' hS
                obtain ⟨q1, q2, q3, q4⟩ := hS
                first | (go_simp; done) | (go_simp; rfl) | rfl
              go_frame
              apply sig_guard (o := ⟨some 63, _, _, _, _, _⟩) rfl (by rfl)
              · intro w' hS
                obtain ⟨q1, q2, q3, q4⟩ := hS
                first | (go_simp; done) | (go_simp; rfl) | rfl
              go_frame
              apply sig_guard (o := ⟨some 64, _, _, _, _, _⟩) rfl (by rfl)
              · intro w' hS
                obtain ⟨q1, q2, q3, q4⟩ := hS
                first | (go_simp; done) | (go_simp; rfl) | rfl
              go_frame
              by_cases hoz : r.off = 0
              · have i0 : (r.off : Int) = 0 := by omega
                apply sig_guard (o := ⟨some 65, _, _, _, _, _⟩) rfl (by rfl)
                · intro w' hS
                  obtain ⟨q1, q2, q3, q4⟩ := hS
                  first | (go_simp; done) | (go_simp; rfl) | rfl
                go_frame
                apply sig_guard (o := ⟨some 66, _, _, _, _, _⟩) rfl (by rfl)
                · intro w' hS
                  obtain ⟨q1, q2, q3, q4⟩ := hS
                  first | (go_simp; done) | (go_simp; rfl) | rfl
                go_frame
                apply sig_still (o := ⟨some 67, _, _, _, _, _⟩) rfl rfl
                · intro w' hS
                  obtain ⟨q1, q2, q3, q4⟩ := hS
                  first | (go_simp; done) | (go_simp; rfl) | rfl
                go_frame
                refine sig_nil ?_
                have hok' := (HBAD.out false (by rw [hmay, hb256, hfe, hoz]; rfl)).2 rfl
                have HOK := Lib.hid hok'
                clear HBAD hok'
                go_wp2_with fail
                go_roundw
                case rel => exact ⟨i + 1, by go_num, hlt, HOK.out, hk'.drew⟩
                case measure => simp [intOf]; omega
              · have hoz1 : ((r.off : Int) == 0) = false := by simpa using hoz
                have hoz2 : (r.off : Int) ≠ 0 := by omega
                apply sig_guard (o := ⟨some 65, _, _, _, _, _⟩) rfl (by rfl)
                · intro w' hS
                  obtain ⟨q1, q2, q3, q4⟩ := hS
                  first | (go_simp; done) | (go_simp; rfl) | rfl
                go_frame
                apply sig_guard (o := ⟨some 66, _, _, _, _, _⟩) rfl (by rfl)
                · intro w' hS
                  obtain ⟨q1, q2, q3, q4⟩ := hS
                  first | (go_simp; done) | (go_simp; rfl) | rfl
                go_frame
                apply sig_still (o := ⟨some 67, _, _, _, _, _⟩) rfl rfl
                · intro w' hS
                  obtain ⟨q1, q2, q3, q4⟩ := hS
                  first | (go_simp; done) | (go_simp; rfl) | rfl
                go_frame
                refine sig_nil ?_
                have h11 := (HBAD.out true (by rw [hmay, hfe]; simp; omega)).1 rfl
                clear HBAD
                go_wp2_with (with_reducible refine wl_stAgg rfl _ _ _ rfl _ _ rfl rfl ?_)
                refine rg_stAgg (hb2'.keep (Keep.refl No wq).drew fun h => h) (by kernel_rfl) (by rfl) (by simp [Value.oneCell']) ?_
                intro wz hBz hkz hsz
                go_wp2_with fail
                refine ret_blk_tmp rfl rfl hBz Try.underlying34 rfl (by kernel_rfl) rfl ?_
                try rw [h11]
                exact ⟨rfl, HEnd.out _ _ hk'.drew hkz⟩
            · obtain ⟨x0, r0, hcr⟩ := List.exists_cons_of_ne_nil hfe
              have hdf : ({ data := r.file.toArray } : ByteArray).toList = x0 :: r0 := by rw [ByteArray.toList_eq, hcr]
              apply sig_guard (o := ⟨some 53, _, _, _, _, _⟩) rfl (by rfl)
              · intro w' hS
                obtain ⟨q1, q2, q3, q4⟩ := hS
                first | (go_simp; done) | (go_simp; rfl) | rfl
              go_frame
              apply sig_guard (o := ⟨some 54, _, _, _, _, _⟩) rfl (by rfl)
              · intro w' hS
                obtain ⟨q1, q2, q3, q4⟩ := hS
                first | (go_simp; done) | (go_simp; rfl) | rfl
              go_frame
              apply sig_guard (o := ⟨some 55, _, _, _, _, _⟩) rfl (by rfl)
              · intro w' hS
                obtain ⟨q1, q2, q3, q4⟩ := hS
                first | (go_simp; done) | (go_simp; rfl) | rfl
              go_frame
              apply sig_guard (o := ⟨some 56, _, _, _, _, _⟩) rfl (by rfl)
              · intro w' hS
                obtain ⟨q1, q2, q3, q4⟩ := hS
                first | (go_simp; done) | (go_simp; rfl) | rfl
              go_frame
              apply sig_guard (o := ⟨some 57, _, _, _, _, _⟩) rfl (by rfl)
              · intro w' hS
                obtain ⟨q1, q2, q3, q4⟩ := hS
                first | (go_simp; done) | (go_simp; rfl) | rfl
              go_frame
              apply sig_guard (o := ⟨some 58, _, _, _, _, _⟩) rfl (by rfl)
              · intro w' hS
                obtain ⟨q1, q2, q3, q4⟩ := hS
                first | (go_simp; done) | (go_simp; rfl) | rfl
              go_frame
              apply sig_guard (o := ⟨some 59, _, _, _, _, _⟩) rfl (by rfl)
              · intro w' hS
                obtain ⟨q1, q2, q3, q4⟩ := hS
                first | (go_simp; done) | (go_simp; rfl) | rfl
              go_frame
              refine sig_skip (o := ⟨some 60, _, _, _, _, _⟩) rfl (by rfl) ?_
              go_frame
              refine sig_skip (o := ⟨some 61, _, _, _, _, _⟩) rfl (by rfl) ?_
              go_frame
              refine sig_skip (o := ⟨some 62, _, _, _, _, _⟩) rfl (by rfl) ?_
              go_frame
              refine sig_skip (o := ⟨some 63, _, _, _, _, _⟩) rfl (by rfl) ?_
              go_frame
              refine sig_skip (o := ⟨some 64, _, _, _, _, _⟩) rfl (by rfl) ?_
              go_frame
              refine sig_skip (o := ⟨some 65, _, _, _, _, _⟩) rfl (by rfl) ?_
              go_frame
              apply sig_guard (o := ⟨some 66, _, _, _, _, _⟩) rfl (by rfl)
              · intro w' hS
                obtain ⟨q1, q2, q3, q4⟩ := hS
                first | (go_simp; done) | (go_simp; rfl) | rfl
              go_frame
              apply sig_still (o := ⟨some 67, _, _, _, _, _⟩) rfl rfl
              · intro w' hS
                obtain ⟨q1, q2, q3, q4⟩ := hS
                first | (go_simp; done) | (go_simp; rfl) | rfl
              go_frame
              refine sig_nil ?_
              have hok' := (HBAD.out false (by rw [hmay, hb256, hcr]; rfl)).2 rfl
              have HOK := Lib.hid hok'
              clear HBAD hok'
              go_wp2_with fail
              go_roundw
              case rel => exact ⟨i + 1, by go_num, hlt, HOK.out, hk'.drew⟩
              case measure => simp [intOf]; omega
          · have hl256 : ((r.b.length : Int) == 256) = false := by simp; omega
            have hl257 : (r.b.length : Int) ≠ 256 := by omega
            have hl258 : ((r.b.length : Int) != 256) = true := by simp; omega
            apply sig_guard (o := ⟨some 50, _, _, _, _, _⟩) (v := .bool true) rfl (by rfl)
            · intro w' hS
              first | (go_simp; done) | (go_simp; rfl) | (go_simp; simp [hb256]; done) | (go_simp; omega) | (go_simp; simp; omega) | rfl
            go_frame
            apply sig_still (o := ⟨some 51, _, _, _, _, _⟩) rfl rfl
            · intro w' hS
              obtain ⟨q1, q2, q3, q4⟩ := hS
              first | (go_simp; done) | (go_simp; rfl) | rfl
            go_frame
            apply sig_still (o := ⟨some 52, _, _, _, _, _⟩) rfl rfl
            · intro w' hS
              obtain ⟨q1, q2, q3, q4⟩ := hS
              first | (go_simp; done) | (go_simp; rfl) | rfl
            go_frame
            refine sig_skip (o := ⟨some 53, _, _, _, _, _⟩) rfl (by rfl) ?_
            go_frame
            refine sig_skip (o := ⟨some 54, _, _, _, _, _⟩) rfl (by rfl) ?_
            go_frame
            refine sig_skip (o := ⟨some 55, _, _, _, _, _⟩) rfl (by rfl) ?_
            go_frame
            refine sig_skip (o := ⟨some 56, _, _, _, _, _⟩) rfl (by rfl) ?_
            go_frame
            refine sig_skip (o := ⟨some 57, _, _, _, _, _⟩) rfl (by rfl) ?_
            go_frame
            refine sig_skip (o := ⟨some 58, _, _, _, _, _⟩) rfl (by rfl) ?_
            go_frame
            refine sig_skip (o := ⟨some 59, _, _, _, _, _⟩) rfl (by rfl) ?_
            go_frame
            refine sig_skip (o := ⟨some 60, _, _, _, _, _⟩) rfl (by rfl) ?_
            go_frame
            refine sig_skip (o := ⟨some 61, _, _, _, _, _⟩) rfl (by rfl) ?_
            go_frame
            refine sig_skip (o := ⟨some 62, _, _, _, _, _⟩) rfl (by rfl) ?_
            go_frame
            refine sig_skip (o := ⟨some 63, _, _, _, _, _⟩) rfl (by rfl) ?_
            go_frame
            refine sig_skip (o := ⟨some 64, _, _, _, _, _⟩) rfl (by rfl) ?_
            go_frame
            refine sig_skip (o := ⟨some 65, _, _, _, _, _⟩) rfl (by rfl) ?_
            go_frame
            refine sig_skip (o := ⟨some 66, _, _, _, _, _⟩) rfl (by rfl) ?_
            go_frame
            apply sig_still (o := ⟨some 67, _, _, _, _, _⟩) rfl rfl
            · intro w' hS
              obtain ⟨q1, q2, q3, q4⟩ := hS
              first | (go_simp; done) | (go_simp; rfl) | rfl
            go_frame
            refine sig_nil ?_
            have h11 := (HBAD.out true (by rw [hmay]; simp [hb256])).1 rfl
            clear HBAD
            go_wp2_with (with_reducible refine wl_stAgg rfl _ _ _ rfl _ _ rfl rfl ?_)
            refine rg_stAgg (hb2'.keep (Keep.refl No wq).drew fun h => h) (by kernel_rfl) (by rfl) (by simp [Value.oneCell']) ?_
            intro wz hBz hkz hsz
            go_wp2_with fail
            refine ret_blk_tmp rfl rfl hBz Try.underlying34 rfl (by kernel_rfl) rfl ?_
            try rw [h11]
            exact ⟨rfl, HEnd.out _ _ hk'.drew hkz⟩
        · obtain ⟨q, hq, qc⟩ := hprev h0
          rw [if_neg (by omega), hq] at hlow
          have hlw : low = decide (r.addr ≤ q.addr) := hlow
          have i1 : decide ((0 : Int) < (i : Int)) = true := by simp; omega
          have i2 : decide (0 < i) = true := by simp; omega
          have i1' : (0 : Int) < (i : Int) := by omega
          obtain ⟨j, hj⟩ : ∃ j, j = i - 1 := ⟨_, rfl⟩
          rw [← hj] at qc
          have i3 : (i : Int) - 1 = (j : Int) := by omega
          have i4 : IntKind.i64.wrap (j : Int) = (j : Int) := by rw [IntKind.wrap_i64]; omega
          have i5 : (j : Int) < (L.length : Int) := by omega
          have i6 : decide ((r.addr : Int) ≤ (q.addr : Int)) = low := by rw [hlw, Bool.eq_iff_iff]; simp
          have i7 : decide (r.addr ≤ q.addr) = low := hlw.symm
          have HJ := Lib.hid hj
          clear hj hlow hlw hprev hq
          have qcq : wq.cell? ⟨g, off + j * 6, none⟩ = some (.int .u64 (q.addr : Int)) := (hkq.cell (p := ⟨g, off + j * 6, none⟩) hgl fun h => h).trans qc
          clear qc
          refine wp_region_sig (fun w' => w'.cell? ⟨g, off + i * 6, none⟩ = some (.int .u64 (r.addr : Int)) ∧ w'.cell? ⟨g, off + i * 6 + 3, none⟩ = some (.string ⟨r.file.toArray⟩) ∧ w'.cell? ⟨g, off + i * 6 + 4, none⟩ = some (.int .u64 (r.off : Int)) ∧ w'.cell? ⟨g, off + i * 6 + 5, none⟩ = some (.string ⟨r.b.toArray⟩) ∧ w'.cell? ⟨g, off + j * 6, none⟩ = some (.int .u64 (q.addr : Int))) (fun j => decide (j ≤ 99)) [(0, true), (1, true), (2, true), (3, true), (4, true), (5, true), (6, true), (7, true), (8, true), (9, true), (10, true), (11, true), (12, true), (13, true), (14, true), (15, true), (16, true), (17, true), (18, true), (19, true), (20, true), (21, true), (22, true), (23, true), (24, true), (25, true), (26, true), (27, true), (28, true), (29, true), (30, true), (31, true), (32, true), (33, true), (34, true), (35, true), (36, true), (37, true), (38, true), (39, true), (40, true), (41, true), (42, true), (43, true), (44, true)] (by kernel_rfl) (by kernel_rfl) (by intro c a d v w h; cases d <;> exact h) ⟨c0q, c3q, c4q, c5q, qcq⟩ ?_
          apply sig_still (o := ⟨some 23, _, _, _, _, _⟩) rfl rfl
          · intro w' hS
            obtain ⟨q1, q2, q3, q4, q5⟩ := hS
            first | (go_simp; done) | (go_simp; rfl) | rfl
          go_frame
          apply sig_still (o := ⟨some 24, _, _, _, _, _⟩) rfl rfl
          · intro w' hS
            obtain ⟨q1, q2, q3, q4, q5⟩ := hS
            first | (go_simp; done) | (go_simp; rfl) | rfl
          go_frame
          apply sig_still (o := ⟨some 25, _, _, _, _, _⟩) rfl rfl
          · intro w' hS
            obtain ⟨q1, q2, q3, q4, q5⟩ := hS
            first | (go_simp; done) | (go_simp; rfl) | rfl
          go_frame
          apply sig_guard (o := ⟨some 26, _, _, _, _, _⟩) rfl (by rfl)
          · intro w' hS
            obtain ⟨q1, q2, q3, q4, q5⟩ := hS
            first | (go_simp; done) | (go_simp; rfl) | rfl
          go_frame
          apply sig_guard (o := ⟨some 27, _, _, _, _, _⟩) rfl (by rfl)
          · intro w' hS
            obtain ⟨q1, q2, q3, q4, q5⟩ := hS
            first | (go_simp; done) | (go_simp; rfl) | rfl
          go_frame
          apply sig_guard (o := ⟨some 28, _, _, _, _, _⟩) rfl (by rfl)
          · intro w' hS
            obtain ⟨q1, q2, q3, q4, q5⟩ := hS
            first | (go_simp; done) | (go_simp; rfl) | rfl
          go_frame
          apply sig_guard (o := ⟨some 29, _, _, _, _, _⟩) rfl (by rfl)
          · intro w' hS
            obtain ⟨q1, q2, q3, q4, q5⟩ := hS
            first | (go_simp; done) | (go_simp; rfl) | rfl
          go_frame
          apply sig_guard (o := ⟨some 30, _, _, _, _, _⟩) rfl (by rfl)
          · intro w' hS
            obtain ⟨q1, q2, q3, q4, q5⟩ := hS
            first | (go_simp; done) | (go_simp; rfl) | rfl
          go_frame
          apply sig_guard (o := ⟨some 31, _, _, _, _, _⟩) rfl (by rfl)
          · intro w' hS
            obtain ⟨q1, q2, q3, q4, q5⟩ := hS
            first | (go_simp; done) | (go_simp; rfl) | rfl
          go_frame
          apply sig_guard (o := ⟨some 32, _, _, _, _, _⟩) rfl (by rfl)
          · intro w' hS
            obtain ⟨q1, q2, q3, q4, q5⟩ := hS
            first | (go_simp; done) | (go_simp; rfl) | rfl
          go_frame
          apply sig_guard (o := ⟨some 33, _, _, _, _, _⟩) rfl (by rfl)
          · intro w' hS
            obtain ⟨q1, q2, q3, q4, q5⟩ := hS
            first | (go_simp; done) | (go_simp; rfl) | rfl
          go_frame
          apply sig_guard (o := ⟨some 34, _, _, _, _, _⟩) rfl (by rfl)
          · intro w' hS
            obtain ⟨q1, q2, q3, q4, q5⟩ := hS
            first | (go_simp; done) | (go_simp; rfl) | rfl
          go_frame
          apply sig_guard (o := ⟨some 35, _, _, _, _, _⟩) rfl (by rfl)
          · intro w' hS
            obtain ⟨q1, q2, q3, q4, q5⟩ := hS
            first | (go_simp; done) | (go_simp; rfl) | rfl
          go_frame
          apply sig_guard (o := ⟨some 36, _, _, _, _, _⟩) rfl (by rfl)
          · intro w' hS
            obtain ⟨q1, q2, q3, q4, q5⟩ := hS
            first | (go_simp; done) | (go_simp; rfl) | rfl
          go_frame
          apply sig_guard (o := ⟨some 37, _, _, _, _, _⟩) rfl (by rfl)
          · intro w' hS
            obtain ⟨q1, q2, q3, q4, q5⟩ := hS
            first | (go_simp; done) | (go_simp; rfl) | rfl
          go_frame
          apply sig_guard (o := ⟨some 38, _, _, _, _, _⟩) rfl (by rfl)
          · intro w' hS
            obtain ⟨q1, q2, q3, q4, q5⟩ := hS
            first | (go_simp; done) | (go_simp; rfl) | rfl
          go_frame
          apply sig_guard (o := ⟨some 39, _, _, _, _, _⟩) rfl (by rfl)
          · intro w' hS
            obtain ⟨q1, q2, q3, q4, q5⟩ := hS
            first | (go_simp; done) | (go_simp; rfl) | rfl
          go_frame
          apply sig_guard (o := ⟨some 40, _, _, _, _, _⟩) rfl (by rfl)
          · intro w' hS
            obtain ⟨q1, q2, q3, q4, q5⟩ := hS
            first | (go_simp; done) | (go_simp; rfl) | rfl
          go_frame
          cases low with
          | true =>
            apply sig_guard (o := ⟨some 41, _, _, _, _, _⟩) rfl (by rfl)
            · intro w' hS
              obtain ⟨q1, q2, q3, q4, q5⟩ := hS
              first | (go_simp; done) | (go_simp; rfl) | rfl
            go_frame
            apply sig_still (o := ⟨some 42, _, _, _, _, _⟩) rfl rfl
            · intro w' hS
              obtain ⟨q1, q2, q3, q4, q5⟩ := hS
              first | (go_simp; done) | (go_simp; rfl) | rfl
            go_frame
            apply sig_still (o := ⟨some 43, _, _, _, _, _⟩) rfl rfl
            · intro w' hS
              obtain ⟨q1, q2, q3, q4, q5⟩ := hS
              first | (go_simp; done) | (go_simp; rfl) | rfl
            go_frame
            refine sig_skip (o := ⟨some 44, _, _, _, _, _⟩) rfl (by rfl) ?_
            go_frame
            refine sig_skip (o := ⟨some 45, _, _, _, _, _⟩) rfl (by rfl) ?_
            go_frame
            refine sig_skip (o := ⟨some 46, _, _, _, _, _⟩) rfl (by rfl) ?_
            go_frame
            refine sig_skip (o := ⟨some 47, _, _, _, _, _⟩) rfl (by rfl) ?_
            go_frame
            refine sig_skip (o := ⟨some 48, _, _, _, _, _⟩) rfl (by rfl) ?_
            go_frame
            refine sig_skip (o := ⟨some 49, _, _, _, _, _⟩) rfl (by rfl) ?_
            go_frame
            refine sig_skip (o := ⟨some 50, _, _, _, _, _⟩) rfl (by rfl) ?_
            go_frame
            apply sig_still (o := ⟨some 51, _, _, _, _, _⟩) rfl rfl
            · intro w' hS
              obtain ⟨q1, q2, q3, q4, q5⟩ := hS
              first | (go_simp; done) | (go_simp; rfl) | rfl
            go_frame
            apply sig_still (o := ⟨some 52, _, _, _, _, _⟩) rfl rfl
            · intro w' hS
              obtain ⟨q1, q2, q3, q4, q5⟩ := hS
              first | (go_simp; done) | (go_simp; rfl) | rfl
            go_frame
            refine sig_skip (o := ⟨some 53, _, _, _, _, _⟩) rfl (by rfl) ?_
            go_frame
            refine sig_skip (o := ⟨some 54, _, _, _, _, _⟩) rfl (by rfl) ?_
            go_frame
            refine sig_skip (o := ⟨some 55, _, _, _, _, _⟩) rfl (by rfl) ?_
            go_frame
            refine sig_skip (o := ⟨some 56, _, _, _, _, _⟩) rfl (by rfl) ?_
            go_frame
            refine sig_skip (o := ⟨some 57, _, _, _, _, _⟩) rfl (by rfl) ?_
            go_frame
            refine sig_skip (o := ⟨some 58, _, _, _, _, _⟩) rfl (by rfl) ?_
            go_frame
            refine sig_skip (o := ⟨some 59, _, _, _, _, _⟩) rfl (by rfl) ?_
            go_frame
            refine sig_skip (o := ⟨some 60, _, _, _, _, _⟩) rfl (by rfl) ?_
            go_frame
            refine sig_skip (o := ⟨some 61, _, _, _, _, _⟩) rfl (by rfl) ?_
            go_frame
            refine sig_skip (o := ⟨some 62, _, _, _, _, _⟩) rfl (by rfl) ?_
            go_frame
            refine sig_skip (o := ⟨some 63, _, _, _, _, _⟩) rfl (by rfl) ?_
            go_frame
            refine sig_skip (o := ⟨some 64, _, _, _, _, _⟩) rfl (by rfl) ?_
            go_frame
            refine sig_skip (o := ⟨some 65, _, _, _, _, _⟩) rfl (by rfl) ?_
            go_frame
            refine sig_skip (o := ⟨some 66, _, _, _, _, _⟩) rfl (by rfl) ?_
            go_frame
            apply sig_still (o := ⟨some 67, _, _, _, _, _⟩) rfl rfl
            · intro w' hS
              obtain ⟨q1, q2, q3, q4, q5⟩ := hS
              first | (go_simp; done) | (go_simp; rfl) | rfl
            go_frame
            refine sig_nil ?_
            have h11 := (HBAD.out true (by rfl)).1 rfl
            clear HBAD
            go_wp2_with (with_reducible refine wl_stAgg rfl _ _ _ rfl _ _ rfl rfl ?_)
            refine rg_stAgg (hb2'.keep (Keep.refl No wq).drew fun h => h) (by kernel_rfl) (by rfl) (by simp [Value.oneCell']) ?_
            intro wz hBz hkz hsz
            go_wp2_with fail
            refine ret_blk_tmp rfl rfl hBz Try.underlying34 rfl (by kernel_rfl) rfl ?_
            try rw [h11]
            exact ⟨rfl, HEnd.out _ _ hk'.drew hkz⟩
          | false =>
            apply sig_guard (o := ⟨some 41, _, _, _, _, _⟩) rfl (by rfl)
            · intro w' hS
              obtain ⟨q1, q2, q3, q4, q5⟩ := hS
              first | (go_simp; done) | (go_simp; rfl) | rfl
            go_frame
            apply sig_still (o := ⟨some 42, _, _, _, _, _⟩) rfl rfl
            · intro w' hS
              obtain ⟨q1, q2, q3, q4, q5⟩ := hS
              first | (go_simp; done) | (go_simp; rfl) | rfl
            go_frame
            apply sig_still (o := ⟨some 43, _, _, _, _, _⟩) rfl rfl
            · intro w' hS
              obtain ⟨q1, q2, q3, q4, q5⟩ := hS
              first | (go_simp; done) | (go_simp; rfl) | rfl
            go_frame
            apply sig_guard (o := ⟨some 44, _, _, _, _, _⟩) rfl (by rfl)
            · intro w' hS
              obtain ⟨q1, q2, q3, q4, q5⟩ := hS
              first | (go_simp; done) | (go_simp; rfl) | rfl
            go_frame
            apply sig_guard (o := ⟨some 45, _, _, _, _, _⟩) rfl (by rfl)
            · intro w' hS
              obtain ⟨q1, q2, q3, q4, q5⟩ := hS
              first | (go_simp; done) | (go_simp; rfl) | rfl
            go_frame
            apply sig_guard (o := ⟨some 46, _, _, _, _, _⟩) rfl (by rfl)
            · intro w' hS
              obtain ⟨q1, q2, q3, q4, q5⟩ := hS
              first | (go_simp; done) | (go_simp; rfl) | rfl
            go_frame
            apply sig_guard (o := ⟨some 47, _, _, _, _, _⟩) rfl (by rfl)
            · intro w' hS
              obtain ⟨q1, q2, q3, q4, q5⟩ := hS
              first | (go_simp; done) | (go_simp; rfl) | rfl
            go_frame
            apply sig_guard (o := ⟨some 48, _, _, _, _, _⟩) rfl (by rfl)
            · intro w' hS
              obtain ⟨q1, q2, q3, q4, q5⟩ := hS
              first | (go_simp; done) | (go_simp; rfl) | rfl
            go_frame
            apply sig_guard (o := ⟨some 49, _, _, _, _, _⟩) rfl (by rfl)
            · intro w' hS
              obtain ⟨q1, q2, q3, q4, q5⟩ := hS
              first | (go_simp; done) | (go_simp; rfl) | rfl
            go_frame
            by_cases hb256 : r.b.length = 256
            · have hl256 : ((r.b.length : Int) == 256) = true := by simp; omega
              have hl257 : (r.b.length : Int) = 256 := by omega
              have hde : ({ data := #[] } : ByteArray).toList = [] := by rw [ByteArray.toList_eq]
              apply sig_guard (o := ⟨some 50, _, _, _, _, _⟩) rfl (by rfl)
              · intro w' hS
                obtain ⟨q1, q2, q3, q4, q5⟩ := hS
                first | (go_simp; done) | (go_simp; rfl) | rfl
              go_frame
              apply sig_still (o := ⟨some 51, _, _, _, _, _⟩) rfl rfl
              · intro w' hS
                obtain ⟨q1, q2, q3, q4, q5⟩ := hS
                first | (go_simp; done) | (go_simp; rfl) | rfl
              go_frame
              apply sig_still (o := ⟨some 52, _, _, _, _, _⟩) rfl rfl
              · intro w' hS
                obtain ⟨q1, q2, q3, q4, q5⟩ := hS
                first | (go_simp; done) | (go_simp; rfl) | rfl
              go_frame
              by_cases hfe : r.file = []
              · have hdf : ({ data := r.file.toArray } : ByteArray).toList = [] := by rw [ByteArray.toList_eq, hfe]
                apply sig_guard (o := ⟨some 53, _, _, _, _, _⟩) rfl (by rfl)
                · intro w' hS
                  obtain ⟨q1, q2, q3, q4, q5⟩ := hS
                  first | (go_simp; done) | (go_simp; rfl) | rfl
                go_frame
                apply sig_guard (o := ⟨some 54, _, _, _, _, _⟩) rfl (by rfl)
                · intro w' hS
                  obtain ⟨q1, q2, q3, q4, q5⟩ := hS
                  first | (go_simp; done) | (go_simp; rfl) | rfl
                go_frame
                apply sig_guard (o := ⟨some 55, _, _, _, _, _⟩) rfl (by rfl)
                · intro w' hS
                  obtain ⟨q1, q2, q3, q4, q5⟩ := hS
                  first | (go_simp; done) | (go_simp; rfl) | rfl
                go_frame
                apply sig_guard (o := ⟨some 56, _, _, _, _, _⟩) rfl (by rfl)
                · intro w' hS
                  obtain ⟨q1, q2, q3, q4, q5⟩ := hS
                  first | (go_simp; done) | (go_simp; rfl) | rfl
                go_frame
                apply sig_guard (o := ⟨some 57, _, _, _, _, _⟩) rfl (by rfl)
                · intro w' hS
                  obtain ⟨q1, q2, q3, q4, q5⟩ := hS
                  first | (go_simp; done) | (go_simp; rfl) | rfl
                go_frame
                apply sig_guard (o := ⟨some 58, _, _, _, _, _⟩) rfl (by rfl)
                · intro w' hS
                  obtain ⟨q1, q2, q3, q4, q5⟩ := hS
                  first | (go_simp; done) | (go_simp; rfl) | rfl
                go_frame
                apply sig_guard (o := ⟨some 59, _, _, _, _, _⟩) rfl (by rfl)
                · intro w' hS
                  obtain ⟨q1, q2, q3, q4, q5⟩ := hS
                  first | (go_simp; done) | (go_simp; rfl) | rfl
                go_frame
                apply sig_guard (o := ⟨some 60, _, _, _, _, _⟩) rfl (by rfl)
                · intro w' hS
                  obtain ⟨q1, q2, q3, q4, q5⟩ := hS
                  first | (go_simp; done) | (go_simp; rfl) | rfl
                go_frame
                apply sig_guard (o := ⟨some 61, _, _, _, _, _⟩) rfl (by rfl)
                · intro w' hS
                  obtain ⟨q1, q2, q3, q4, q5⟩ := hS
                  first | (go_simp; done) | (go_simp; rfl) | rfl
                go_frame
                apply sig_guard (o := ⟨some 62, _, _, _, _, _⟩) rfl (by rfl)
                · intro w' hS
                  obtain ⟨q1, q2, q3, q4, q5⟩ := hS
                  first | (go_simp; done) | (go_simp; rfl) | rfl
                go_frame
                apply sig_guard (o := ⟨some 63, _, _, _, _, _⟩) rfl (by rfl)
                · intro w' hS
                  obtain ⟨q1, q2, q3, q4, q5⟩ := hS
                  first | (go_simp; done) | (go_simp; rfl) | rfl
                go_frame
                apply sig_guard (o := ⟨some 64, _, _, _, _, _⟩) rfl (by rfl)
                · intro w' hS
                  obtain ⟨q1, q2, q3, q4, q5⟩ := hS
                  first | (go_simp; done) | (go_simp; rfl) | rfl
                go_frame
                by_cases hoz : r.off = 0
                · have i0 : (r.off : Int) = 0 := by omega
                  apply sig_guard (o := ⟨some 65, _, _, _, _, _⟩) rfl (by rfl)
                  · intro w' hS
                    obtain ⟨q1, q2, q3, q4, q5⟩ := hS
                    first | (go_simp; done) | (go_simp; rfl) | rfl
                  go_frame
                  apply sig_guard (o := ⟨some 66, _, _, _, _, _⟩) rfl (by rfl)
                  · intro w' hS
                    obtain ⟨q1, q2, q3, q4, q5⟩ := hS
                    first | (go_simp; done) | (go_simp; rfl) | rfl
                  go_frame
                  apply sig_still (o := ⟨some 67, _, _, _, _, _⟩) rfl rfl
                  · intro w' hS
                    obtain ⟨q1, q2, q3, q4, q5⟩ := hS
                    first | (go_simp; done) | (go_simp; rfl) | rfl
                  go_frame
                  refine sig_nil ?_
                  have hok' := (HBAD.out false (by rw [hmay, hb256, hfe, hoz]; rfl)).2 rfl
                  have HOK := Lib.hid hok'
                  clear HBAD hok'
                  go_wp2_with fail
                  go_roundw
                  case rel => exact ⟨i + 1, by go_num, hlt, HOK.out, hk'.drew⟩
                  case measure => simp [intOf]; omega
                · have hoz1 : ((r.off : Int) == 0) = false := by simpa using hoz
                  have hoz2 : (r.off : Int) ≠ 0 := by omega
                  apply sig_guard (o := ⟨some 65, _, _, _, _, _⟩) rfl (by rfl)
                  · intro w' hS
                    obtain ⟨q1, q2, q3, q4, q5⟩ := hS
                    first | (go_simp; done) | (go_simp; rfl) | rfl
                  go_frame
                  apply sig_guard (o := ⟨some 66, _, _, _, _, _⟩) rfl (by rfl)
                  · intro w' hS
                    obtain ⟨q1, q2, q3, q4, q5⟩ := hS
                    first | (go_simp; done) | (go_simp; rfl) | rfl
                  go_frame
                  apply sig_still (o := ⟨some 67, _, _, _, _, _⟩) rfl rfl
                  · intro w' hS
                    obtain ⟨q1, q2, q3, q4, q5⟩ := hS
                    first | (go_simp; done) | (go_simp; rfl) | rfl
                  go_frame
                  refine sig_nil ?_
                  have h11 := (HBAD.out true (by rw [hmay, hfe]; simp; omega)).1 rfl
                  clear HBAD
                  go_wp2_with (with_reducible refine wl_stAgg rfl _ _ _ rfl _ _ rfl rfl ?_)
                  refine rg_stAgg (hb2'.keep (Keep.refl No wq).drew fun h => h) (by kernel_rfl) (by rfl) (by simp [Value.oneCell']) ?_
                  intro wz hBz hkz hsz
                  go_wp2_with fail
                  refine ret_blk_tmp rfl rfl hBz Try.underlying34 rfl (by kernel_rfl) rfl ?_
                  try rw [h11]
                  exact ⟨rfl, HEnd.out _ _ hk'.drew hkz⟩
              · obtain ⟨x0, r0, hcr⟩ := List.exists_cons_of_ne_nil hfe
                have hdf : ({ data := r.file.toArray } : ByteArray).toList = x0 :: r0 := by rw [ByteArray.toList_eq, hcr]
                apply sig_guard (o := ⟨some 53, _, _, _, _, _⟩) rfl (by rfl)
                · intro w' hS
                  obtain ⟨q1, q2, q3, q4, q5⟩ := hS
                  first | (go_simp; done) | (go_simp; rfl) | rfl
                go_frame
                apply sig_guard (o := ⟨some 54, _, _, _, _, _⟩) rfl (by rfl)
                · intro w' hS
                  obtain ⟨q1, q2, q3, q4, q5⟩ := hS
                  first | (go_simp; done) | (go_simp; rfl) | rfl
                go_frame
                apply sig_guard (o := ⟨some 55, _, _, _, _, _⟩) rfl (by rfl)
                · intro w' hS
                  obtain ⟨q1, q2, q3, q4, q5⟩ := hS
                  first | (go_simp; done) | (go_simp; rfl) | rfl
                go_frame
                apply sig_guard (o := ⟨some 56, _, _, _, _, _⟩) rfl (by rfl)
                · intro w' hS
                  obtain ⟨q1, q2, q3, q4, q5⟩ := hS
                  first | (go_simp; done) | (go_simp; rfl) | rfl
                go_frame
                apply sig_guard (o := ⟨some 57, _, _, _, _, _⟩) rfl (by rfl)
                · intro w' hS
                  obtain ⟨q1, q2, q3, q4, q5⟩ := hS
                  first | (go_simp; done) | (go_simp; rfl) | rfl
                go_frame
                apply sig_guard (o := ⟨some 58, _, _, _, _, _⟩) rfl (by rfl)
                · intro w' hS
                  obtain ⟨q1, q2, q3, q4, q5⟩ := hS
                  first | (go_simp; done) | (go_simp; rfl) | rfl
                go_frame
                apply sig_guard (o := ⟨some 59, _, _, _, _, _⟩) rfl (by rfl)
                · intro w' hS
                  obtain ⟨q1, q2, q3, q4, q5⟩ := hS
                  first | (go_simp; done) | (go_simp; rfl) | rfl
                go_frame
                refine sig_skip (o := ⟨some 60, _, _, _, _, _⟩) rfl (by rfl) ?_
                go_frame
                refine sig_skip (o := ⟨some 61, _, _, _, _, _⟩) rfl (by rfl) ?_
                go_frame
                refine sig_skip (o := ⟨some 62, _, _, _, _, _⟩) rfl (by rfl) ?_
                go_frame
                refine sig_skip (o := ⟨some 63, _, _, _, _, _⟩) rfl (by rfl) ?_
                go_frame
                refine sig_skip (o := ⟨some 64, _, _, _, _, _⟩) rfl (by rfl) ?_
                go_frame
                refine sig_skip (o := ⟨some 65, _, _, _, _, _⟩) rfl (by rfl) ?_
                go_frame
                apply sig_guard (o := ⟨some 66, _, _, _, _, _⟩) rfl (by rfl)
                · intro w' hS
                  obtain ⟨q1, q2, q3, q4, q5⟩ := hS
                  first | (go_simp; done) | (go_simp; rfl) | rfl
                go_frame
                apply sig_still (o := ⟨some 67, _, _, _, _, _⟩) rfl rfl
                · intro w' hS
                  obtain ⟨q1, q2, q3, q4, q5⟩ := hS
                  first | (go_simp; done) | (go_simp; rfl) | rfl
                go_frame
                refine sig_nil ?_
                have hok' := (HBAD.out false (by rw [hmay, hb256, hcr]; rfl)).2 rfl
                have HOK := Lib.hid hok'
                clear HBAD hok'
                go_wp2_with fail
                go_roundw
                case rel => exact ⟨i + 1, by go_num, hlt, HOK.out, hk'.drew⟩
                case measure => simp [intOf]; omega
            · have hl256 : ((r.b.length : Int) == 256) = false := by simp; omega
              have hl257 : (r.b.length : Int) ≠ 256 := by omega
              have hl258 : ((r.b.length : Int) != 256) = true := by simp; omega
              apply sig_guard (o := ⟨some 50, _, _, _, _, _⟩) (v := .bool true) rfl (by rfl)
              · intro w' hS
                first | (go_simp; done) | (go_simp; rfl) | (go_simp; simp [hb256]; done) | (go_simp; omega) | (go_simp; simp; omega) | rfl
              go_frame
              apply sig_still (o := ⟨some 51, _, _, _, _, _⟩) rfl rfl
              · intro w' hS
                obtain ⟨q1, q2, q3, q4, q5⟩ := hS
                first | (go_simp; done) | (go_simp; rfl) | rfl
              go_frame
              apply sig_still (o := ⟨some 52, _, _, _, _, _⟩) rfl rfl
              · intro w' hS
                obtain ⟨q1, q2, q3, q4, q5⟩ := hS
                first | (go_simp; done) | (go_simp; rfl) | rfl
              go_frame
              refine sig_skip (o := ⟨some 53, _, _, _, _, _⟩) rfl (by rfl) ?_
              go_frame
              refine sig_skip (o := ⟨some 54, _, _, _, _, _⟩) rfl (by rfl) ?_
              go_frame
              refine sig_skip (o := ⟨some 55, _, _, _, _, _⟩) rfl (by rfl) ?_
              go_frame
              refine sig_skip (o := ⟨some 56, _, _, _, _, _⟩) rfl (by rfl) ?_
              go_frame
              refine sig_skip (o := ⟨some 57, _, _, _, _, _⟩) rfl (by rfl) ?_
              go_frame
              refine sig_skip (o := ⟨some 58, _, _, _, _, _⟩) rfl (by rfl) ?_
              go_frame
              refine sig_skip (o := ⟨some 59, _, _, _, _, _⟩) rfl (by rfl) ?_
              go_frame
              refine sig_skip (o := ⟨some 60, _, _, _, _, _⟩) rfl (by rfl) ?_
              go_frame
              refine sig_skip (o := ⟨some 61, _, _, _, _, _⟩) rfl (by rfl) ?_
              go_frame
              refine sig_skip (o := ⟨some 62, _, _, _, _, _⟩) rfl (by rfl) ?_
              go_frame
              refine sig_skip (o := ⟨some 63, _, _, _, _, _⟩) rfl (by rfl) ?_
              go_frame
              refine sig_skip (o := ⟨some 64, _, _, _, _, _⟩) rfl (by rfl) ?_
              go_frame
              refine sig_skip (o := ⟨some 65, _, _, _, _, _⟩) rfl (by rfl) ?_
              go_frame
              refine sig_skip (o := ⟨some 66, _, _, _, _, _⟩) rfl (by rfl) ?_
              go_frame
              apply sig_still (o := ⟨some 67, _, _, _, _, _⟩) rfl rfl
              · intro w' hS
                obtain ⟨q1, q2, q3, q4, q5⟩ := hS
                first | (go_simp; done) | (go_simp; rfl) | rfl
              go_frame
              refine sig_nil ?_
              have h11 := (HBAD.out true (by rw [hmay]; simp [hb256])).1 rfl
              clear HBAD
              go_wp2_with (with_reducible refine wl_stAgg rfl _ _ _ rfl _ _ rfl rfl ?_)
              refine rg_stAgg (hb2'.keep (Keep.refl No wq).drew fun h => h) (by kernel_rfl) (by rfl) (by simp [Value.oneCell']) ?_
              intro wz hBz hkz hsz
              go_wp2_with fail
              refine ret_blk_tmp rfl rfl hBz Try.underlying34 rfl (by kernel_rfl) rfl ?_
              try rw [h11]
              exact ⟨rfl, HEnd.out _ _ hk'.drew hkz⟩
    · obtain rfl : i = L.length := Nat.le_antisymm hi hge
      have hE : putE none L = 0 := putE_of _ _ fun j hj => hok j hj hj
      have hlz : (L.length : Int) ≤ 512 := by omega
      go_wp2_with (with_reducible refine wl_stAgg rfl _ _ _ rfl _ _ rfl rfl ?_)
      refine rg_stAgg hb2 (by kernel_rfl) (by rfl) (by simp [Value.oneCell']) ?_
      intro wz hBz hkz hsz
      go_wp2_with fail
      refine ret_blk_tmp rfl rfl hBz Try.underlying34 rfl (by kernel_rfl) rfl ?_
      try rw [hE]
      exact ⟨rfl, HEnd.out _ _ hk hkz⟩
end
end Go.Proofs.Ytaoillfofiehpaa
