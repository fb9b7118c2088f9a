/- The document's Peek, number (chapter 13). No condition. -/
import Derived.Test.YtaoillfofiehpaaRv5
namespace Go.Proofs.Ytaoillfofiehpaa
open Go.RowKit Go.Dm Go.Dm.Vm Go.Maps Go.Dm.Oc

section
variable {A : Nat → Prop} {w : World} {v : Value} {m : V}
theorem ok_small {m : V} (h : Ok m) : ∀ p ∈ m, p.addr < 18446744073709551616 := fun p hp => by have := (h.pg p hp).lt; unfold top at this; omega
theorem rvfind_at (a : Nat) (ha : a < 18446744073709551616) (h : Fl A w 6 encS v m) (hok : Ok m) {i : Nat} (hi : i < m.length) (hip : m[i].addr = pageOf a) :
    Calls Try.prog 49 #[.agg #[v], .int .u64 (a : Int)] w fun e w' => e = .returned (.int .i64 (i : Int)) ∧ Keep No w w' := by
  refine (rvfind_any a ha h (by have := hok.len; omega) (ok_small hok)).mono ?_
  rintro e w' ⟨r, rfl, hr, hk⟩
  rcases hr with ⟨rfl, hno⟩ | ⟨i', hi', rfl, hadr⟩
  · exact absurd hip (hno _ (List.getElem_mem hi))
  · obtain rfl := idx_unique hok.srt hi hi' (by rw [hip, hadr])
    exact ⟨rfl, hk⟩
theorem page_idx {m : V} {a : Nat} (h : ∃ p, pageAt m (pageOf a) = some p) : ∃ (i : Nat) (hi : i < m.length), m[i].addr = pageOf a ∧ pageAt m (pageOf a) = some m[i] := by
  obtain ⟨p, hp⟩ := h
  obtain ⟨hpm, hpa⟩ := get_mem hp
  obtain ⟨i, hi, rfl⟩ := List.getElem_of_mem hpm
  exact ⟨i, hi, hpa, hp⟩
theorem str_index (l : List UInt8) (k : Nat) (hk : k < l.length) (w : World) : (Instr.index 9 (.string ⟨l.toArray⟩) (.int .u64 (k : Int))).run Try.prog w = .ok (.int .u8 ((l.getD k 0).toNat : Int)) w := by
  rw [run_index_string _ _ _ _ _ Try.underlying9]
  have h1 : (0 : Int) ≤ (k : Int) ∧ (k : Int) < ((⟨l.toArray⟩ : ByteArray).size : Nat) := by
    refine ⟨by omega, ?_⟩
    show (k : Int) < (l.toArray.size : Nat)
    rw [List.size_toArray]; omega
  rw [dif_pos h1]
  congr 3
  have h2 : ((⟨l.toArray⟩ : ByteArray)[(k : Int).toNat]'(by omega)) = l[k] := by
    show l.toArray[(k : Int).toNat]'_ = l[k]
    simp
  rw [h2, List.getD_eq_getElem?_getD, List.getElem?_eq_getElem hk]
  rfl
def encB (b : UInt8) : List Value := [bv b]
theorem encB_map (l : List UInt8) : l.flatMap encB = l.map bv := by
  induction l with
  | nil => rfl
  | cons x r ih => rw [List.flatMap_cons, ih]; rfl
theorem encB_bts {base : Nat} {e : TypeId} {w : World} {v : Value} {l : List UInt8} (h : FlO w base e 1 encB v l) : Bts (fun j => base ≤ j ∧ j < w.heap.size) w v l := by
  have := h.fl
  unfold Fl at this
  rw [encB_map] at this
  exact this
theorem readB_succ (m : V) (a j : Nat) : readB m a (j + 1) = readB m a j ++ [byteAt m (a + j)] := by
  unfold readB
  rw [List.range_succ, List.map_append]
  rfl
set_option maxRecDepth 100000 in
set_option maxHeartbeats 4000000 in
theorem rvpeek_any (addr size : Nat) (ha : addr < 18446744073709551616) (hs : size ≤ 1000) (h : Fl A w 6 encS v m) (hok : Ok m) :
    Calls Try.prog 57 #[.agg #[v], .int .u64 (addr : Int), .int .u64 (size : Int)] w fun e w' => ∃ v', e = .returned (.tuple #[v', .int .i64 (peekE m addr size : Nat)]) ∧ FlO w' w.heap.size 5 1 encB v' (peekB m addr size) ∧ Keep No w w' := by
  obtain ⟨av, cv, rfl, _, _⟩ := h.shape
  have hX : peekB m addr size = if size = 0 then [] else if Vm.heldE m addr size = 0 then readB m addr size else [] := rfl
  have hE : peekE m addr size = if size = 0 then 0 else Vm.heldE m addr size := rfl
  have hpt := @held_parts m addr size
  have hml := hok.len
  generalize peekB m addr size = X at *
  generalize peekE m addr size = E at *
  by_cases h0 : size = 0
  · subst h0
    rw [if_pos rfl] at hX hE
    subst hX hE
    clear hs hpt hok
    go_enter Try.func57, Try.ntmps57
    go_wp2_with (first | (at_builtin; refine wl_append rfl _ _ _ _ rfl _ _ rfl rfl ?_) | (at_make; refine wl_make rfl _ _ _ rfl _ _ rfl rfl ?_) | (at_mapUpdate; refine wl_mapUpdate rfl _ _ _ _ rfl _ _ _ rfl rfl rfl ?_) | (at_lookup; refine wl_lookup rfl _ _ _ _ rfl _ _ rfl rfl ?_) | (at_delete; refine wl_delete rfl _ _ _ _ rfl _ _ rfl rfl ?_) | (with_reducible refine wl_len rfl _ _ rfl _ rfl ?_) | (with_reducible refine wl_range rfl _ _ rfl _ rfl ?_) | (with_reducible refine wl_next rfl _ rfl _ rfl ?_) | (with_reducible refine wl_copy rfl _ _ _ _ rfl _ _ rfl rfl ?_) | (with_reducible refine wl_max rfl _ _ _ _ rfl _ _ rfl rfl ?_) | (with_reducible refine wl_min rfl _ _ _ _ rfl _ _ rfl rfl ?_))
    go_ret2
    exact ⟨_, rfl, FlO.nil, (Keep.refl _ _).alloc _⟩
  · rw [if_neg h0] at hX hE
    have hth := fun (W : World) (hk : Keep No w W) => rvthere_any (w := W) addr size ha (by omega) (by omega) (by omega) (h.no hk) (by omega) (ok_small hok)
    have hne0 : ((size : Int) == 0) = false := by simpa using h0
    have HX := Lib.hid hX
    have HOK := Lib.hid hok
    have HPT := Lib.hid hpt
    have hhe : Vm.heldE m addr size = 0 ∨ Vm.heldE m addr size = 40 := by
      unfold Vm.heldE
      split
      · exact .inr rfl
      · split
        · exact .inl rfl
        · exact .inr rfl
    clear hX hok hpt h0
    have HTH := Lib.hid hth
    have hsz : (size : Int) ≤ 1000 := by omega
    have HL := Lib.hid h
    clear hth h
    go_enter Try.func57, Try.ntmps57
    go_wp2_with (first | (at_builtin; refine wl_append rfl _ _ _ _ rfl _ _ rfl rfl ?_) | (at_make; refine wl_make rfl _ _ _ rfl _ _ rfl rfl ?_) | (at_mapUpdate; refine wl_mapUpdate rfl _ _ _ _ rfl _ _ _ rfl rfl rfl ?_) | (at_lookup; refine wl_lookup rfl _ _ _ _ rfl _ _ rfl rfl ?_) | (at_delete; refine wl_delete rfl _ _ _ _ rfl _ _ rfl rfl ?_) | (with_reducible refine wl_len rfl _ _ rfl _ rfl ?_) | (with_reducible refine wl_range rfl _ _ rfl _ rfl ?_) | (with_reducible refine wl_next rfl _ rfl _ rfl ?_) | (with_reducible refine wl_copy rfl _ _ _ _ rfl _ _ rfl rfl ?_) | (with_reducible refine wl_max rfl _ _ _ _ rfl _ _ rfl rfl ?_) | (with_reducible refine wl_min rfl _ _ _ _ rfl _ _ rfl rfl ?_))
    have hkW : Keep No w (w.alloc (.cells #[.slice av m.length cv] 34)) := (Keep.refl _ _).alloc _
    have hBW : Blk (w.alloc (.cells #[.slice av m.length cv] 34)) w.heap.size #[.slice av m.length cv] 34 := Blk.new _ _ _
    have hzW : (w.alloc (.cells #[.slice av m.length cv] 34)).heap.size = w.heap.size + 1 := World.size_alloc _ _
    generalize w.alloc (.cells #[.slice av m.length cv] 34) = W at *
    have q3 : W.cell? ⟨w.heap.size, 0, none⟩ = some (.slice av m.length cv) := hBW.cell 0
    have hcall := HTH.out W hkW
    go_wp2_with (first | (at_builtin; refine wl_append rfl _ _ _ _ rfl _ _ rfl rfl ?_) | (at_make; refine wl_make rfl _ _ _ rfl _ _ rfl rfl ?_) | (at_mapUpdate; refine wl_mapUpdate rfl _ _ _ _ rfl _ _ _ rfl rfl rfl ?_) | (at_lookup; refine wl_lookup rfl _ _ _ _ rfl _ _ rfl rfl ?_) | (at_delete; refine wl_delete rfl _ _ _ _ rfl _ _ rfl rfl ?_) | (with_reducible refine wl_len rfl _ _ rfl _ rfl ?_) | (with_reducible refine wl_range rfl _ _ rfl _ rfl ?_) | (with_reducible refine wl_next rfl _ rfl _ rfl ?_) | (with_reducible refine wl_copy rfl _ _ _ _ rfl _ _ rfl rfl ?_) | (with_reducible refine wl_max rfl _ _ _ _ rfl _ _ rfl rfl ?_) | (with_reducible refine wl_min rfl _ _ _ _ rfl _ _ rfl rfl ?_))
    refine hcall.mono ?_
    rintro e W2 ⟨rfl, hk2⟩
    have hB2 := hBW.keep hk2 fun h => h
    have hkw2 := hkW.trans' hk2
    rcases hhe with he | he
    · rw [he] at hE HX ⊢
      subst hE
      rw [if_pos rfl] at HX
      obtain ⟨p1, p2, _, p4⟩ := HPT.out he
      unfold top at p1 p2
      have hal : (addr : Int) ≤ 4294967296 := by omega
      have hsl : (addr : Int) + (size : Int) ≤ 4294967296 := by omega
      have HP4 := Lib.hid p4
      clear p1 p2 p4 he hcall q3 hBW hkW hk2
      go_wp2_with (first | (at_builtin; refine wl_append rfl _ _ _ _ rfl _ _ rfl rfl ?_) | (at_make; refine wl_make rfl _ _ _ rfl _ _ rfl rfl ?_) | (at_mapUpdate; refine wl_mapUpdate rfl _ _ _ _ rfl _ _ _ rfl rfl rfl ?_) | (at_lookup; refine wl_lookup rfl _ _ _ _ rfl _ _ rfl rfl ?_) | (at_delete; refine wl_delete rfl _ _ _ _ rfl _ _ rfl rfl ?_) | (with_reducible refine wl_len rfl _ _ rfl _ rfl ?_) | (with_reducible refine wl_range rfl _ _ rfl _ rfl ?_) | (with_reducible refine wl_next rfl _ rfl _ rfl ?_) | (with_reducible refine wl_copy rfl _ _ _ _ rfl _ _ rfl rfl ?_) | (with_reducible refine wl_max rfl _ _ _ _ rfl _ _ rfl rfl ?_) | (with_reducible refine wl_min rfl _ _ _ _ rfl _ _ rfl rfl ?_))
      go_loopw [9, 10] (fun lv iv wr => ∃ j : Nat, iv = .int .u64 ((addr + j : Nat) : Int) ∧ j ≤ size ∧ FlO wr W2.heap.size 5 1 encB lv (readB m addr j) ∧ Keep No W2 wr) (fun _ iv _ => addr + size - (intOf iv).toNat)
      case atStart => exact ⟨0, rfl, Nat.zero_le _, FlO.nil, Keep.refl _ _⟩
      case round =>
        obtain ⟨j, rfl, hj, ho, hk⟩ := hrel
        generalize wr = wz at *
        have hB3 := hB2.keep hk fun h => h
        have p3 : wz.cell? ⟨w.heap.size, 0, none⟩ = some (.slice av m.length cv) := hB3.cell 0
        have hkz := hkw2.trans' hk
        obtain ⟨al, cl, rfl, _, _⟩ := ho.fl.shape
        have hlen := readB_len m addr j
        rw [hlen] at ho ⊢
        rcases Nat.lt_or_ge j size with hlt | hge
        · obtain ⟨i, hi, hpa, hpat⟩ := page_idx (there_at HP4.out hlt)
          have hby : byteAt m (addr + j) = m[i].b.getD ((addr + j) % 256) 0 := by unfold byteAt; rw [hpat]
          have hsu := readB_succ m addr j
          rw [hby] at hsu
          obtain ⟨g, off, cap, e, _, hgl, _, _, hc⟩ := (HL.out.no hkz).at encS_len hi
          cases e
          have c5 : wz.cell? ⟨g, off + i * 6 + 5, none⟩ = some (.string ⟨m[i].b.toArray⟩) := hc 5 _ rfl
          have hpb := (HOK.out.pg _ (List.getElem_mem hi)).bl
          have hix := str_index m[i].b ((addr + j) % 256) (by omega)
          have hfi : ∀ W, Keep No wz W → _ := fun W hkw => rvfind_at (w := W) (addr + j) (by omega) (HL.out.no (hkz.trans' hkw)) HOK.out hi hpa
          have HSU := Lib.hid hsu
          have HFI := Lib.hid hfi
          have hilz : (i : Int) < (m.length : Int) := by omega
          have hltz : ((addr + j : Nat) : Int) < (addr : Int) + (size : Int) := by omega
          have hmod : ((addr + j : Nat) : Int).tmod 256 = (((addr + j) % 256 : Nat) : Int) := by rw [Int.tmod_eq_emod_of_nonneg (by omega)]; omega
          have hA0 : addr + j < 4294967296 := by omega
          have hstp : addr + j + 1 = addr + (j + 1) := by omega
          have HST := Lib.hid hstp
          have HLEN := Lib.hid hlen
          clear hsu hfi hc hby hpa hpat hpb hstp hlen
          generalize m[i].b.getD ((addr + j) % 256) 0 = by_ at *
          generalize (addr + j) % 256 = k0 at *
          generalize (⟨m[i].b.toArray⟩ : ByteArray) = bs at *
          generalize addr + j = A0 at *
          have hkd : Keep No wz wz.drew := (Keep.refl No wz).drew
          go_wp2_with (first | (at_builtin; refine wl_append rfl _ _ _ _ rfl _ _ rfl rfl ?_) | (at_make; refine wl_make rfl _ _ _ rfl _ _ rfl rfl ?_) | (at_mapUpdate; refine wl_mapUpdate rfl _ _ _ _ rfl _ _ _ rfl rfl rfl ?_) | (at_lookup; refine wl_lookup rfl _ _ _ _ rfl _ _ rfl rfl ?_) | (at_delete; refine wl_delete rfl _ _ _ _ rfl _ _ rfl rfl ?_) | (with_reducible refine wl_len rfl _ _ rfl _ rfl ?_) | (with_reducible refine wl_range rfl _ _ rfl _ rfl ?_) | (with_reducible refine wl_next rfl _ rfl _ rfl ?_) | (with_reducible refine wl_copy rfl _ _ _ _ rfl _ _ rfl rfl ?_) | (with_reducible refine wl_max rfl _ _ _ _ rfl _ _ rfl rfl ?_) | (with_reducible refine wl_min rfl _ _ _ _ rfl _ _ rfl rfl ?_))
          refine wp_region_sig (fun w' => w'.cell? ⟨w.heap.size, 0, none⟩ = some (.slice (some ⟨g, off, none⟩) m.length cv) ∧ w'.cell? ⟨g, off + i * 6 + 5, none⟩ = some (.string bs)) (fun j => decide (j ≤ 12)) [(0, true), (1, true), (2, true), (3, true), (4, true), (9, true), (10, true), (5, false), (6, true), (7, true), (8, true), (11, true), (12, false), (13, false), (14, false)] (by kernel_rfl) (by kernel_rfl) (by intro c a d v w h; cases d <;> exact h) ⟨p3, c5⟩ ?_
          apply sig_still (o := ⟨some 27, _, _, _, _, _⟩) rfl rfl
          · intro w' hS
            obtain ⟨q1, q2⟩ := hS
            first | (go_simp; done) | (go_simp; rfl) | rfl
          go_frame
          apply sig_still (o := ⟨some 28, _, _, _, _, _⟩) rfl rfl
          · intro w' hS
            obtain ⟨q1, q2⟩ := hS
            first | (go_simp; done) | (go_simp; rfl) | rfl
          go_frame
          apply sig_still (o := ⟨some 29, _, _, _, _, _⟩) rfl rfl
          · intro w' hS
            obtain ⟨q1, q2⟩ := hS
            first | (go_simp; done) | (go_simp; rfl) | rfl
          go_frame
          apply sig_still (o := ⟨some 30, _, _, _, _, _⟩) rfl rfl
          · intro w' hS
            obtain ⟨q1, q2⟩ := hS
            first | (go_simp; done) | (go_simp; rfl) | rfl
          go_frame
          apply sig_still (o := ⟨some 31, _, _, _, _, _⟩) rfl rfl
          · intro w' hS
            obtain ⟨q1, q2⟩ := hS
            first | (go_simp; done) | (go_simp; rfl) | rfl
          go_frame
          apply sig_still (o := ⟨some 36, _, _, _, _, _⟩) rfl rfl
          · intro w' hS
            obtain ⟨q1, q2⟩ := hS
            first | (go_simp; done) | (go_simp; rfl) | rfl
          go_frame
          apply sig_still (o := ⟨some 37, _, _, _, _, _⟩) rfl rfl
          · intro w' hS
            obtain ⟨q1, q2⟩ := hS
            first | (go_simp; done) | (go_simp; rfl) | rfl
          go_frame
          refine sig_eff (o := ⟨some 32, _, _, _, _, _⟩) rfl rfl (fun K hKe => ?_)
          have hfa := HFI.out _ hkd
          go_wp2_with (first | (at_builtin; refine wl_append rfl _ _ _ _ rfl _ _ rfl rfl ?_) | (at_make; refine wl_make rfl _ _ _ rfl _ _ rfl rfl ?_) | (at_mapUpdate; refine wl_mapUpdate rfl _ _ _ _ rfl _ _ _ rfl rfl rfl ?_) | (at_lookup; refine wl_lookup rfl _ _ _ _ rfl _ _ rfl rfl ?_) | (at_delete; refine wl_delete rfl _ _ _ _ rfl _ _ rfl rfl ?_) | (with_reducible refine wl_len rfl _ _ rfl _ rfl ?_) | (with_reducible refine wl_range rfl _ _ rfl _ rfl ?_) | (with_reducible refine wl_next rfl _ rfl _ rfl ?_) | (with_reducible refine wl_copy rfl _ _ _ _ rfl _ _ rfl rfl ?_) | (with_reducible refine wl_max rfl _ _ _ _ rfl _ _ rfl rfl ?_) | (with_reducible refine wl_min rfl _ _ _ _ rfl _ _ rfl rfl ?_))
          refine hfa.mono ?_
          rintro e w3 ⟨rfl, hk3⟩
          replace hk3 := hkd.trans' hk3
          have p3a : w3.cell? ⟨w.heap.size, 0, none⟩ = _ := (hk3.cell (p := ⟨w.heap.size, 0, none⟩) hB3.lt fun h => h).trans p3
          have c5a : w3.cell? ⟨g, off + i * 6 + 5, none⟩ = _ := (hk3.cell (p := ⟨g, off + i * 6 + 5, none⟩) hgl fun h => h).trans c5
          go_wp2_with (first | (at_builtin; refine wl_append rfl _ _ _ _ rfl _ _ rfl rfl ?_) | (at_make; refine wl_make rfl _ _ _ rfl _ _ rfl rfl ?_) | (at_mapUpdate; refine wl_mapUpdate rfl _ _ _ _ rfl _ _ _ rfl rfl rfl ?_) | (at_lookup; refine wl_lookup rfl _ _ _ _ rfl _ _ rfl rfl ?_) | (at_delete; refine wl_delete rfl _ _ _ _ rfl _ _ rfl rfl ?_) | (with_reducible refine wl_len rfl _ _ rfl _ rfl ?_) | (with_reducible refine wl_range rfl _ _ rfl _ rfl ?_) | (with_reducible refine wl_next rfl _ rfl _ rfl ?_) | (with_reducible refine wl_copy rfl _ _ _ _ rfl _ _ rfl rfl ?_) | (with_reducible refine wl_max rfl _ _ _ _ rfl _ _ rfl rfl ?_) | (with_reducible refine wl_min rfl _ _ _ _ rfl _ _ rfl rfl ?_))
          refine ⟨fun _ => ⟨p3a, c5a⟩, ?_⟩
          apply sig_still (o := ⟨some 33, _, _, _, _, _⟩) rfl rfl
          · intro w' hS
            obtain ⟨q1, q2⟩ := hS
            first | (go_simp; done) | (go_simp; rfl) | rfl
          go_frame
          apply sig_still (o := ⟨some 34, _, _, _, _, _⟩) rfl rfl
          · intro w' hS
            obtain ⟨q1, q2⟩ := hS
            first | (go_simp; done) | (go_simp; rfl) | rfl
          go_frame
          apply sig_still (o := ⟨some 35, _, _, _, _, _⟩) rfl rfl
          · intro w' hS
            obtain ⟨q1, q2⟩ := hS
            first | (go_simp; done) | (go_simp; rfl) | rfl
          go_frame
          apply sig_still (o := ⟨some 38, _, _, _, _, _⟩) rfl rfl
          · intro w' hS
            obtain ⟨q1, q2⟩ := hS
            first | (go_simp; done) | (go_simp; rfl) | rfl
          go_frame
          refine sig_eff (o := ⟨some 39, _, _, _, _, _⟩) rfl rfl (fun K hKe => ?_)
          go_wp2_with (first | (at_builtin; refine wl_append rfl _ _ _ _ rfl _ _ rfl rfl ?_) | (at_make; refine wl_make rfl _ _ _ rfl _ _ rfl rfl ?_) | (at_mapUpdate; refine wl_mapUpdate rfl _ _ _ _ rfl _ _ _ rfl rfl rfl ?_) | (at_lookup; refine wl_lookup rfl _ _ _ _ rfl _ _ rfl rfl ?_) | (at_delete; refine wl_delete rfl _ _ _ _ rfl _ _ rfl rfl ?_) | (with_reducible refine wl_len rfl _ _ rfl _ rfl ?_) | (with_reducible refine wl_range rfl _ _ rfl _ rfl ?_) | (with_reducible refine wl_next rfl _ rfl _ rfl ?_) | (with_reducible refine wl_copy rfl _ _ _ _ rfl _ _ rfl rfl ?_) | (with_reducible refine wl_max rfl _ _ _ _ rfl _ _ rfl rfl ?_) | (with_reducible refine wl_min rfl _ _ _ _ rfl _ _ rfl rfl ?_))
          have hka : Keep No w3 (w3.alloc (.cells #[bv by_] 5)) := (Keep.refl _ _).alloc _
          refine ⟨fun _ => ⟨((hk3.trans' hka).cell (p := ⟨w.heap.size, 0, none⟩) hB3.lt fun h => h).trans p3, ((hk3.trans' hka).cell (p := ⟨g, off + i * 6 + 5, none⟩) hgl fun h => h).trans c5⟩, ?_⟩
          refine sig_eff (o := ⟨some 40, _, _, _, _, _⟩) rfl rfl (fun K hKe => ?_)
          refine wo_append (.tmp 27) (.tmp 39) 25 25 rfl _ _ rfl rfl ?_
          refine rg_push (w := w3) (cs := #[bv by_]) (enc := encB) (x := by_) (l := readB m addr j) (base := W2.heap.size) _ 1 Try.underlying25 o_info rfl (by decide) rfl rfl (by intro u hu; simp only [encB, List.mem_singleton] at hu; subst hu; rfl) (by exact ho.no hk3) (by rw [HLEN.out]; omega) (by decide) (by exact Nat.le_trans hk.size hk3.size) ?_
          intro lv2 w4 ho4 hk4 _
          have hk4' : Keep No W2 w4 := (hk.trans' hk3).own (ho.no hk3) hk4
          rw [← HSU.out] at ho4
          obtain ⟨a4, c4, rfl, _, _⟩ := ho4.fl.shape
          refine hKe _ _ ⟨fun h => by simp at h, ?_⟩
          refine sig_eff (o := ⟨some 9, _, _, _, _, _⟩) rfl rfl (fun K hKe => ?_)
          go_wp2_with (first | (at_builtin; refine wl_append rfl _ _ _ _ rfl _ _ rfl rfl ?_) | (at_make; refine wl_make rfl _ _ _ rfl _ _ rfl rfl ?_) | (at_mapUpdate; refine wl_mapUpdate rfl _ _ _ _ rfl _ _ _ rfl rfl rfl ?_) | (at_lookup; refine wl_lookup rfl _ _ _ _ rfl _ _ rfl rfl ?_) | (at_delete; refine wl_delete rfl _ _ _ _ rfl _ _ rfl rfl ?_) | (with_reducible refine wl_len rfl _ _ rfl _ rfl ?_) | (with_reducible refine wl_range rfl _ _ rfl _ rfl ?_) | (with_reducible refine wl_next rfl _ rfl _ rfl ?_) | (with_reducible refine wl_copy rfl _ _ _ _ rfl _ _ rfl rfl ?_) | (with_reducible refine wl_max rfl _ _ _ _ rfl _ _ rfl rfl ?_) | (with_reducible refine wl_min rfl _ _ _ _ rfl _ _ rfl rfl ?_))
          refine ⟨fun h => by simp at h, sig_nil ?_⟩
          go_wp2_with (first | (at_builtin; refine wl_append rfl _ _ _ _ rfl _ _ rfl rfl ?_) | (at_make; refine wl_make rfl _ _ _ rfl _ _ rfl rfl ?_) | (at_mapUpdate; refine wl_mapUpdate rfl _ _ _ _ rfl _ _ _ rfl rfl rfl ?_) | (at_lookup; refine wl_lookup rfl _ _ _ _ rfl _ _ rfl rfl ?_) | (at_delete; refine wl_delete rfl _ _ _ _ rfl _ _ rfl rfl ?_) | (with_reducible refine wl_len rfl _ _ rfl _ rfl ?_) | (with_reducible refine wl_range rfl _ _ rfl _ rfl ?_) | (with_reducible refine wl_next rfl _ rfl _ rfl ?_) | (with_reducible refine wl_copy rfl _ _ _ _ rfl _ _ rfl rfl ?_) | (with_reducible refine wl_max rfl _ _ _ _ rfl _ _ rfl rfl ?_) | (with_reducible refine wl_min rfl _ _ _ _ rfl _ _ rfl rfl ?_))
          go_roundw
          case rel => exact ⟨j + 1, by rw [← HST.out]; go_num, hlt, ho4, hk4'⟩
          case measure => have := HST.out; simp [intOf]; omega
        · obtain rfl : j = size := Nat.le_antisymm hj hge
          have hltz : ¬ ((addr + j : Nat) : Int) < (addr : Int) + (j : Int) := by omega
          clear hlen
          generalize addr + j = A0 at *
          go_wp2_with (first | (at_builtin; refine wl_append rfl _ _ _ _ rfl _ _ rfl rfl ?_) | (at_make; refine wl_make rfl _ _ _ rfl _ _ rfl rfl ?_) | (at_mapUpdate; refine wl_mapUpdate rfl _ _ _ _ rfl _ _ _ rfl rfl rfl ?_) | (at_lookup; refine wl_lookup rfl _ _ _ _ rfl _ _ rfl rfl ?_) | (at_delete; refine wl_delete rfl _ _ _ _ rfl _ _ rfl rfl ?_) | (with_reducible refine wl_len rfl _ _ rfl _ rfl ?_) | (with_reducible refine wl_range rfl _ _ rfl _ rfl ?_) | (with_reducible refine wl_next rfl _ rfl _ rfl ?_) | (with_reducible refine wl_copy rfl _ _ _ _ rfl _ _ rfl rfl ?_) | (with_reducible refine wl_max rfl _ _ _ _ rfl _ _ rfl rfl ?_) | (with_reducible refine wl_min rfl _ _ _ _ rfl _ _ rfl rfl ?_))
          go_ret2
          rw [HX.out]
          exact ⟨_, rfl, World.ownsRow.base_le ho hkw2.size, hkz⟩
    · rw [he] at hE HX ⊢
      subst hE
      rw [if_neg (by decide)] at HX
      clear hcall HPT
      go_wp2_with (first | (at_builtin; refine wl_append rfl _ _ _ _ rfl _ _ rfl rfl ?_) | (at_make; refine wl_make rfl _ _ _ rfl _ _ rfl rfl ?_) | (at_mapUpdate; refine wl_mapUpdate rfl _ _ _ _ rfl _ _ _ rfl rfl rfl ?_) | (at_lookup; refine wl_lookup rfl _ _ _ _ rfl _ _ rfl rfl ?_) | (at_delete; refine wl_delete rfl _ _ _ _ rfl _ _ rfl rfl ?_) | (with_reducible refine wl_len rfl _ _ rfl _ rfl ?_) | (with_reducible refine wl_range rfl _ _ rfl _ rfl ?_) | (with_reducible refine wl_next rfl _ rfl _ rfl ?_) | (with_reducible refine wl_copy rfl _ _ _ _ rfl _ _ rfl rfl ?_) | (with_reducible refine wl_max rfl _ _ _ _ rfl _ _ rfl rfl ?_) | (with_reducible refine wl_min rfl _ _ _ _ rfl _ _ rfl rfl ?_))
      go_ret2
      rw [HX.out]
      exact ⟨_, rfl, FlO.nil, hkw2⟩
set_option maxRecDepth 100000 in
set_option maxHeartbeats 4000000 in
theorem rvnumber_any (addr n : Nat) (ha : addr < 18446744073709551616) (hn : 0 < n) (hn8 : n ≤ 8) (hh : Vm.heldE m addr n = 0) (h : Fl A w 6 encS v m) (hok : Ok m) :
    Calls Try.prog 44 #[.agg #[v], .int .u64 (addr : Int), .int .i64 (n : Int)] w fun e w' => e = .returned (.int .u64 (leN (readB m addr n) : Nat)) ∧ Keep No w w' := by
  obtain ⟨av, cv, rfl, _, _⟩ := h.shape
  have hB : peekB m addr n = readB m addr n := by unfold peekB; rw [if_neg (by omega), if_pos hh]
  have hpk := fun (W : World) (hk : Keep No w W) => rvpeek_any (w := W) addr n ha (by omega) (h.no hk) hok
  have hlen := readB_len m addr n
  rw [hB] at hpk
  generalize peekE m addr n = E at *
  generalize readB m addr n = b at *
  have HPK := Lib.hid hpk
  have HLEN := Lib.hid hlen
  clear hpk hB hh hlen
  have hn8z : (n : Int) ≤ 8 := by omega
  go_enter Try.func44, Try.ntmps44
  go_wp2_with (first | (at_builtin; refine wl_append rfl _ _ _ _ rfl _ _ rfl rfl ?_) | (at_make; refine wl_make rfl _ _ _ rfl _ _ rfl rfl ?_) | (at_mapUpdate; refine wl_mapUpdate rfl _ _ _ _ rfl _ _ _ rfl rfl rfl ?_) | (at_lookup; refine wl_lookup rfl _ _ _ _ rfl _ _ rfl rfl ?_) | (at_delete; refine wl_delete rfl _ _ _ _ rfl _ _ rfl rfl ?_) | (with_reducible refine wl_len rfl _ _ rfl _ rfl ?_) | (with_reducible refine wl_range rfl _ _ rfl _ rfl ?_) | (with_reducible refine wl_next rfl _ rfl _ rfl ?_) | (with_reducible refine wl_copy rfl _ _ _ _ rfl _ _ rfl rfl ?_) | (with_reducible refine wl_max rfl _ _ _ _ rfl _ _ rfl rfl ?_) | (with_reducible refine wl_min rfl _ _ _ _ rfl _ _ rfl rfl ?_))
  have hkW : Keep No w (w.alloc (.cells #[.slice av m.length cv] 34)) := (Keep.refl _ _).alloc _
  have hBW : Blk (w.alloc (.cells #[.slice av m.length cv] 34)) w.heap.size #[.slice av m.length cv] 34 := Blk.new _ _ _
  have hzW : (w.alloc (.cells #[.slice av m.length cv] 34)).heap.size = w.heap.size + 1 := World.size_alloc _ _
  generalize w.alloc (.cells #[.slice av m.length cv] 34) = W at *
  have q3 : W.cell? ⟨w.heap.size, 0, none⟩ = some (.slice av m.length cv) := hBW.cell 0
  have hpa := HPK.out W hkW
  go_wp2_with (first | (at_builtin; refine wl_append rfl _ _ _ _ rfl _ _ rfl rfl ?_) | (at_make; refine wl_make rfl _ _ _ rfl _ _ rfl rfl ?_) | (at_mapUpdate; refine wl_mapUpdate rfl _ _ _ _ rfl _ _ _ rfl rfl rfl ?_) | (at_lookup; refine wl_lookup rfl _ _ _ _ rfl _ _ rfl rfl ?_) | (at_delete; refine wl_delete rfl _ _ _ _ rfl _ _ rfl rfl ?_) | (with_reducible refine wl_len rfl _ _ rfl _ rfl ?_) | (with_reducible refine wl_range rfl _ _ rfl _ rfl ?_) | (with_reducible refine wl_next rfl _ rfl _ rfl ?_) | (with_reducible refine wl_copy rfl _ _ _ _ rfl _ _ rfl rfl ?_) | (with_reducible refine wl_max rfl _ _ _ _ rfl _ _ rfl rfl ?_) | (with_reducible refine wl_min rfl _ _ _ _ rfl _ _ rfl rfl ?_))
  refine hpa.mono ?_
  rintro e W2 ⟨v2, rfl, ho, hk2⟩
  clear hpa q3
  obtain ⟨a2, c2, rfl, _, _⟩ := ho.fl.shape
  rw [HLEN.out] at ho ⊢
  have hb := encB_bts ho
  have hk2 := hkW.trans' hk2
  clear ho
  go_wp2_with (first | (at_builtin; refine wl_append rfl _ _ _ _ rfl _ _ rfl rfl ?_) | (at_make; refine wl_make rfl _ _ _ rfl _ _ rfl rfl ?_) | (at_mapUpdate; refine wl_mapUpdate rfl _ _ _ _ rfl _ _ _ rfl rfl rfl ?_) | (at_lookup; refine wl_lookup rfl _ _ _ _ rfl _ _ rfl rfl ?_) | (at_delete; refine wl_delete rfl _ _ _ _ rfl _ _ rfl rfl ?_) | (with_reducible refine wl_len rfl _ _ rfl _ rfl ?_) | (with_reducible refine wl_range rfl _ _ rfl _ rfl ?_) | (with_reducible refine wl_next rfl _ rfl _ rfl ?_) | (with_reducible refine wl_copy rfl _ _ _ _ rfl _ _ rfl rfl ?_) | (with_reducible refine wl_max rfl _ _ _ _ rfl _ _ rfl rfl ?_) | (with_reducible refine wl_min rfl _ _ _ _ rfl _ _ rfl rfl ?_))
  go_loopw [9, 10] (fun xv iv wr => ∃ j : Nat, xv = .int .u64 (leN (b.drop j) : Nat) ∧ iv = .int .i64 ((j : Int) - 1) ∧ j ≤ n ∧ wr = W2) (fun _ iv _ => (intOf iv + 1).toNat)
  case atStart => exact ⟨n, by rw [List.drop_of_length_le (by rw [HLEN.out]; exact Nat.le_refl _)]; rfl, rfl, Nat.le_refl _, rfl⟩
  case round =>
    obtain ⟨j, rfl, rfl, hj, rfl⟩ := hrel
    generalize wr = wz at *
    rcases Nat.eq_zero_or_pos j with h0 | h0
    · subst h0
      rw [List.drop_zero]
      go_wp2_with (first | (at_builtin; refine wl_append rfl _ _ _ _ rfl _ _ rfl rfl ?_) | (at_make; refine wl_make rfl _ _ _ rfl _ _ rfl rfl ?_) | (at_mapUpdate; refine wl_mapUpdate rfl _ _ _ _ rfl _ _ _ rfl rfl rfl ?_) | (at_lookup; refine wl_lookup rfl _ _ _ _ rfl _ _ rfl rfl ?_) | (at_delete; refine wl_delete rfl _ _ _ _ rfl _ _ rfl rfl ?_) | (with_reducible refine wl_len rfl _ _ rfl _ rfl ?_) | (with_reducible refine wl_range rfl _ _ rfl _ rfl ?_) | (with_reducible refine wl_next rfl _ rfl _ rfl ?_) | (with_reducible refine wl_copy rfl _ _ _ _ rfl _ _ rfl rfl ?_) | (with_reducible refine wl_max rfl _ _ _ _ rfl _ _ rfl rfl ?_) | (with_reducible refine wl_min rfl _ _ _ _ rfl _ _ rfl rfl ?_))
      go_ret
      exact ⟨rfl, hk2⟩
    · obtain ⟨i, rfl⟩ : ∃ i, j = i + 1 := ⟨j - 1, by omega⟩
      have hil : i < b.length := by rw [HLEN.out]; omega
      obtain ⟨g0, off, cap, e, hg0, hgl, _, _, hcell⟩ := hb.at (by omega)
      obtain rfl : a2 = some ⟨g0, off, none⟩ := (Value.slice.inj e).1
      have qb : wz.cell? ⟨g0, off + i, none⟩ = some (bv b[i]) := hcell i _ (by rw [List.getElem?_map, List.getElem?_eq_getElem hil]; rfl)
      have hd : b.drop i = b[i] :: b.drop (i + 1) := List.drop_eq_getElem_cons hil
      have hle : leN (b.drop i) = b[i].toNat + 256 * leN (b.drop (i + 1)) := by rw [hd]; rfl
      have hlt : leN (b.drop i) < 18446744073709551616 := by
        have h1 := leN_lt (b.drop i)
        rw [List.length_drop, HLEN.out] at h1
        have h2 : 256 ^ (n - i) ≤ 256 ^ 8 := Nat.pow_le_pow_right (by decide) (by omega)
        have h3 : (256 : Nat) ^ 8 = 18446744073709551616 := by decide
        omega
      have hiz : ((i + 1 : Nat) : Int) - 1 = (i : Int) := by omega
      rw [hiz]
      have hsum : ((leN (b.drop (i + 1)) : Nat) : Int) * 256 + (b[i].toNat : Int) = ((leN (b.drop i) : Nat) : Int) := by omega
      have hm : ((leN (b.drop (i + 1)) : Nat) : Int) * 256 ≤ 18446744073709551615 := by omega
      have hs : ((leN (b.drop (i + 1)) : Nat) : Int) * 256 + (b[i].toNat : Int) ≤ 18446744073709551615 := by omega
      have hby := b[i].toNat_lt
      have hiz2 : (i : Int) < (n : Int) := by omega
      unfold bv at qb
      have HI := Lib.hid hsum
      clear hd hle hlt hcell hsum e
      generalize leN (b.drop (i + 1)) = x at *
      generalize b[i].toNat = y at *
      clear hil
      go_wp2_with (first | (at_builtin; refine wl_append rfl _ _ _ _ rfl _ _ rfl rfl ?_) | (at_make; refine wl_make rfl _ _ _ rfl _ _ rfl rfl ?_) | (at_mapUpdate; refine wl_mapUpdate rfl _ _ _ _ rfl _ _ _ rfl rfl rfl ?_) | (at_lookup; refine wl_lookup rfl _ _ _ _ rfl _ _ rfl rfl ?_) | (at_delete; refine wl_delete rfl _ _ _ _ rfl _ _ rfl rfl ?_) | (with_reducible refine wl_len rfl _ _ rfl _ rfl ?_) | (with_reducible refine wl_range rfl _ _ rfl _ rfl ?_) | (with_reducible refine wl_next rfl _ rfl _ rfl ?_) | (with_reducible refine wl_copy rfl _ _ _ _ rfl _ _ rfl rfl ?_) | (with_reducible refine wl_max rfl _ _ _ _ rfl _ _ rfl rfl ?_) | (with_reducible refine wl_min rfl _ _ _ _ rfl _ _ rfl rfl ?_))
      go_roundw
      case rel => exact ⟨i, by rw [← HI.out], by first | rfl | trivial, by omega, by first | rfl | trivial⟩
      case measure => simp [intOf]
end
end Go.Proofs.Ytaoillfofiehpaa
