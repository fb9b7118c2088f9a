/- The document's Map (chapter 13). Bytes written to pages that may become dirty by it: plain lists. No condition. -/
import Derived.Test.YtaoillfofiehpaaRv2
import Derived.Test.YtaoillfofiehpaaVmL
set_option linter.unusedVariables false
set_option linter.unusedSimpArgs false
namespace Go.Proofs.Ytaoillfofiehpaa
open Go.RowKit Go.Dm Go.Dm.Vm Go.Maps Go.Dm.Oc

section
variable {A : Nat → Prop} {w : World} {m : V} {v : Value}
set_option maxRecDepth 100000 in
set_option maxHeartbeats 4000000 in
theorem rvmap_any (addr size : Nat) (prot : Int) (file : List UInt8) (off : Nat) (ha : addr < 18446744073709551616) (hs : size < 18446744073709551616) (hof : off < 18446744073709551616) (hp0 : -9223372036854775808 ≤ prot) (hp1 : prot < 9223372036854775808) (hfl : file.length ≤ maxLen) (h : Fl A w 6 encS v m) (hA : ∀ k, A k → k < w.heap.size) (hok : Ok m) :
    Calls Try.prog 16 #[.agg #[v], .int .u64 (addr : Int), .int .u64 (size : Int), .int .i64 prot, .string ⟨file.toArray⟩, .int .u64 (off : Int)] w fun e w' => ∃ v', e = .returned (.tuple #[.agg #[v'], .int .i64 (mapE m addr size prot : Nat)]) ∧ Fl (Plus A w w') w' 6 encS v' (mapV m addr size prot file off) ∧ Keep No w w' := by
  obtain ⟨av, cv, rfl, _, _⟩ := h.shape
  have hX : mapV m addr size prot file off = if mapE m addr size prot = 0 then mapN m addr prot.toNat file off (size / 256) else m := rfl
  have hE : mapE m addr size prot = if Vm.may addr size prot then if over m addr size then 12 else if size / 256 > 512 - m.length then 13 else 0 else 1 := rfl
  generalize mapE m addr size prot = E at *
  generalize mapV m addr size prot file off = X at *
  have HX := Lib.hid hX
  have HE := Lib.hid hE
  have hml := hok.len
  have HOK := Lib.hid hok
  clear hX hE hok
  go_enter Try.func16, Try.ntmps16
  go_wp2_with (first | (at_builtin; refine wl_append rfl _ _ _ _ rfl _ _ rfl rfl ?_) | (at_make; refine wl_make rfl _ _ _ rfl _ _ rfl rfl ?_) | (at_mapUpdate; refine wl_mapUpdate rfl _ _ _ _ rfl _ _ _ rfl rfl rfl ?_) | (at_lookup; refine wl_lookup rfl _ _ _ _ rfl _ _ rfl rfl ?_) | (at_delete; refine wl_delete rfl _ _ _ _ rfl _ _ rfl rfl ?_) | (with_reducible refine wl_len rfl _ _ rfl _ rfl ?_) | (with_reducible refine wl_range rfl _ _ rfl _ rfl ?_) | (with_reducible refine wl_next rfl _ rfl _ rfl ?_) | (with_reducible refine wl_copy rfl _ _ _ _ rfl _ _ rfl rfl ?_) | (with_reducible refine wl_max rfl _ _ _ _ rfl _ _ rfl rfl ?_) | (with_reducible refine wl_min rfl _ _ _ _ rfl _ _ rfl rfl ?_))
  have hkW1 : Keep No w (w.alloc (.cells #[.slice av m.length cv] 34)) := (Keep.refl _ _).alloc _
  have hBW1 : Blk (w.alloc (.cells #[.slice av m.length cv] 34)) w.heap.size #[.slice av m.length cv] 34 := Blk.new _ _ _
  have hzW1 : (w.alloc (.cells #[.slice av m.length cv] 34)).heap.size = w.heap.size + 1 := World.size_alloc _ _
  generalize w.alloc (.cells #[.slice av m.length cv] 34) = W1 at *
  have hkW2 : Keep No W1 (W1.alloc (.cells #[.slice none 0 0] 34)) := (Keep.refl _ _).alloc _
  have hBW2 : Blk (W1.alloc (.cells #[.slice none 0 0] 34)) W1.heap.size #[.slice none 0 0] 34 := Blk.new _ _ _
  have hzW2 : (W1.alloc (.cells #[.slice none 0 0] 34)).heap.size = W1.heap.size + 1 := World.size_alloc _ _
  generalize W1.alloc (.cells #[.slice none 0 0] 34) = W2 at *
  rw [hzW1] at hBW2 hzW2
  have b6 := hBW1.keep hkW2 fun h => h
  have b12 := hBW2
  have hkW : Keep No w W2 := hkW1.trans' hkW2
  have hz2 : W2.heap.size = w.heap.size + 2 := by omega
  clear hBW1 hBW2 hkW1 hkW2 hzW1 hzW2
  have q6 : W2.cell? ⟨w.heap.size, 0, none⟩ = some (.slice av m.length cv) := b6.cell 0
  have hfz := b12.frozen 0
  have hf6 := b6.frozen 0
  go_wp2_with (first | (at_builtin; refine wl_append rfl _ _ _ _ rfl _ _ rfl rfl ?_) | (at_make; refine wl_make rfl _ _ _ rfl _ _ rfl rfl ?_) | (at_mapUpdate; refine wl_mapUpdate rfl _ _ _ _ rfl _ _ _ rfl rfl rfl ?_) | (at_lookup; refine wl_lookup rfl _ _ _ _ rfl _ _ rfl rfl ?_) | (at_delete; refine wl_delete rfl _ _ _ _ rfl _ _ rfl rfl ?_) | (with_reducible refine wl_len rfl _ _ rfl _ rfl ?_) | (with_reducible refine wl_range rfl _ _ rfl _ rfl ?_) | (with_reducible refine wl_next rfl _ rfl _ rfl ?_) | (with_reducible refine wl_copy rfl _ _ _ _ rfl _ _ rfl rfl ?_) | (with_reducible refine wl_max rfl _ _ _ _ rfl _ _ rfl rfl ?_) | (with_reducible refine wl_min rfl _ _ _ _ rfl _ _ rfl rfl ?_))
  refine (rvmay_any addr size prot ha hs _).mono ?_
  rintro e W ⟨rfl, rfl⟩
  have hA12 : ∀ k, A k → k ≠ w.heap.size + 1 := fun k hk e => by have := hA k hk; omega
  have hend : ∀ (er : Nat) (w' : World), E = er → er ≠ 0 → Keep (fun j => j = w.heap.size + 1) W2 w' → (Fl (Plus A w w') w' 6 encS (.slice av m.length cv) X ∧ Keep No w w') := by
    rintro er w' rfl hne hkz
    rw [HX.out, if_neg hne]
    exact ⟨((h.no hkW).keep hkz fun j _ ha e => hA12 j ha e).mono fun _ _ ha => .inl ha, hkW.trans hkz fun j hj e => absurd hj (by rw [e]; omega)⟩
  have HEnd := Lib.hid hend
  clear hend
  cases hmay : Vm.may addr size prot with
  | false =>
    rw [hmay] at HE
    have hE := HE.out
    simp only [Bool.false_eq_true, if_false] at hE
    subst hE
    go_wp2_with (first | (at_builtin; refine wl_append rfl _ _ _ _ rfl _ _ rfl rfl ?_) | (at_make; refine wl_make rfl _ _ _ rfl _ _ rfl rfl ?_) | (at_mapUpdate; refine wl_mapUpdate rfl _ _ _ _ rfl _ _ _ rfl rfl rfl ?_) | (at_lookup; refine wl_lookup rfl _ _ _ _ rfl _ _ rfl rfl ?_) | (at_delete; refine wl_delete rfl _ _ _ _ rfl _ _ rfl rfl ?_) | (with_reducible refine wl_len rfl _ _ rfl _ rfl ?_) | (with_reducible refine wl_range rfl _ _ rfl _ rfl ?_) | (with_reducible refine wl_next rfl _ rfl _ rfl ?_) | (with_reducible refine wl_copy rfl _ _ _ _ rfl _ _ rfl rfl ?_) | (with_reducible refine wl_max rfl _ _ _ _ rfl _ _ rfl rfl ?_) | (with_reducible refine wl_min rfl _ _ _ _ rfl _ _ rfl rfl ?_) | (with_reducible refine wl_stAgg rfl _ _ _ rfl _ _ rfl rfl ?_))
    refine rg_stAgg b12 (by kernel_rfl) (by rfl) (by first | (simp [Value.oneCell']; done) | simpa using hone) ?_
    intro wz hBz hkz hsz
    go_wp2_with (first | (at_builtin; refine wl_append rfl _ _ _ _ rfl _ _ rfl rfl ?_) | (at_make; refine wl_make rfl _ _ _ rfl _ _ rfl rfl ?_) | (at_mapUpdate; refine wl_mapUpdate rfl _ _ _ _ rfl _ _ _ rfl rfl rfl ?_) | (at_lookup; refine wl_lookup rfl _ _ _ _ rfl _ _ rfl rfl ?_) | (at_delete; refine wl_delete rfl _ _ _ _ rfl _ _ rfl rfl ?_) | (with_reducible refine wl_len rfl _ _ rfl _ rfl ?_) | (with_reducible refine wl_range rfl _ _ rfl _ rfl ?_) | (with_reducible refine wl_next rfl _ rfl _ rfl ?_) | (with_reducible refine wl_copy rfl _ _ _ _ rfl _ _ rfl rfl ?_) | (with_reducible refine wl_max rfl _ _ _ _ rfl _ _ rfl rfl ?_) | (with_reducible refine wl_min rfl _ _ _ _ rfl _ _ rfl rfl ?_))
    refine ret_blk_tmp rfl rfl hBz Try.underlying34 rfl (by kernel_rfl) rfl ?_
    obtain ⟨r1, r2⟩ := HEnd.out 1 _ rfl (by decide) hkz
    exact ⟨_, rfl, r1, r2⟩
  | true =>
    rw [hmay, if_pos rfl] at HE
    obtain ⟨m1, m2, m3, m4, m5, m6, m7⟩ := may_parts hmay
    obtain ⟨pn, rfl⟩ : ∃ pn : Nat, prot = pn := ⟨prot.toNat, by omega⟩
    obtain ⟨n, rfl⟩ : ∃ n, size = 256 * n := ⟨size / 256, by omega⟩
    have htop : top = 4294967296 := rfl
    rw [htop] at m4 m5
    have hn8 : 256 * n / 256 = n := by omega
    rw [hn8] at HX HE
    rw [Int.toNat_natCast] at HX
    have hsz : ((256 * n : Nat) : Int) ≤ 4294967296 - (addr : Int) := by omega
    have hdiv : ((256 * n : Nat) : Int).tdiv 256 = (n : Int) := by rw [Int.tdiv_eq_ediv_of_nonneg (by omega)]; omega
    have hn64 : (n : Int) ≤ 16777216 := by omega
    have hal : (addr : Int) ≤ 4294967296 := by omega
    have hov : over m addr (256 * n) = true ↔ ∃ (i : Nat) (hi : i < m.length), addr ≤ m[i].addr ∧ m[i].addr < addr + 256 * n := by
      unfold over
      rw [List.any_eq_true]
      constructor
      · rintro ⟨p, hp, e⟩
        obtain ⟨i, hi, rfl⟩ := List.getElem_of_mem hp
        simp only [Bool.and_eq_true, decide_eq_true_eq] at e
        exact ⟨i, hi, e.1, by omega⟩
      · rintro ⟨i, hi, e1, e2⟩
        exact ⟨m[i], List.getElem_mem hi, by simp only [Bool.and_eq_true, decide_eq_true_eq]; omega⟩
    have HOV := Lib.hid hov
    have HP7 := Lib.hid m7
    have HM1 := Lib.hid m1
    have HM5 := Lib.hid m5
    have hmn : ((256 * n : Nat) : Int) = 256 * (n : Int) := by omega
    clear hov m1 m2 m3 m5 m6 m7 hmay hn8 htop hs m4 hp0 hp1
    generalize hsn : 256 * n = sz at *
    have HSN := Lib.hid hsn
    have HMN := Lib.hid hmn
    clear hsn hmn
    go_wp2_with (first | (at_builtin; refine wl_append rfl _ _ _ _ rfl _ _ rfl rfl ?_) | (at_make; refine wl_make rfl _ _ _ rfl _ _ rfl rfl ?_) | (at_mapUpdate; refine wl_mapUpdate rfl _ _ _ _ rfl _ _ _ rfl rfl rfl ?_) | (at_lookup; refine wl_lookup rfl _ _ _ _ rfl _ _ rfl rfl ?_) | (at_delete; refine wl_delete rfl _ _ _ _ rfl _ _ rfl rfl ?_) | (with_reducible refine wl_len rfl _ _ rfl _ rfl ?_) | (with_reducible refine wl_range rfl _ _ rfl _ rfl ?_) | (with_reducible refine wl_next rfl _ rfl _ rfl ?_) | (with_reducible refine wl_copy rfl _ _ _ _ rfl _ _ rfl rfl ?_) | (with_reducible refine wl_max rfl _ _ _ _ rfl _ _ rfl rfl ?_) | (with_reducible refine wl_min rfl _ _ _ _ rfl _ _ rfl rfl ?_))
    go_loopw [15] (fun iv wr => ∃ i : Nat, iv = .int .i64 i ∧ i ≤ m.length ∧ (∀ j (hj : j < m.length), j < i → ¬ (addr ≤ m[j].addr ∧ m[j].addr < addr + sz)) ∧ wr = W2) (fun iv _ => m.length - (intOf iv).toNat)
    case atStart => exact ⟨0, rfl, Nat.zero_le _, fun j _ hj => absurd hj (Nat.not_lt_zero _), rfl⟩
    case round =>
      obtain ⟨i, rfl, hi, hno, rfl⟩ := hrel
      rcases Nat.lt_or_ge i m.length with hlt | hge
      · obtain ⟨g, off2, cap, e, _, _, _, _, hc⟩ := (h.no hkW).at encS_len hlt
        cases e
        have c0 := hc 0 _ rfl
        rw [Nat.add_zero] at c0
        have hiz : (i : Int) < (m.length : Int) := by omega
        have hno2 : ¬ (addr ≤ m[i].addr ∧ m[i].addr < addr + sz) → ∀ j (hj : j < m.length), j < i + 1 → ¬ (addr ≤ m[j].addr ∧ m[j].addr < addr + sz) := fun h j hj hji => by
          rcases Nat.lt_or_ge j i with h2 | h2
          · exact hno j hj h2
          · obtain rfl : j = i := by omega
            exact h
        have hyes : (addr ≤ m[i].addr ∧ m[i].addr < addr + sz) → over m addr sz = true := fun h => HOV.out.2 ⟨i, hlt, h⟩
        have HN := Lib.hid hno2
        have HY := Lib.hid hyes
        clear hc hno hno2 hyes
        generalize m[i].addr = x at *
        by_cases e : addr ≤ x ∧ x < addr + sz
        · have hE := HE.out
          rw [HY.out e, if_pos rfl] at hE
          subst hE
          have i1 : (addr : Int) ≤ (x : Int) := by omega
          have i2 : (x : Int) < (addr : Int) + (sz : Int) := by omega
          go_wp2_with (first | (at_builtin; refine wl_append rfl _ _ _ _ rfl _ _ rfl rfl ?_) | (at_make; refine wl_make rfl _ _ _ rfl _ _ rfl rfl ?_) | (at_mapUpdate; refine wl_mapUpdate rfl _ _ _ _ rfl _ _ _ rfl rfl rfl ?_) | (at_lookup; refine wl_lookup rfl _ _ _ _ rfl _ _ rfl rfl ?_) | (at_delete; refine wl_delete rfl _ _ _ _ rfl _ _ rfl rfl ?_) | (with_reducible refine wl_len rfl _ _ rfl _ rfl ?_) | (with_reducible refine wl_range rfl _ _ rfl _ rfl ?_) | (with_reducible refine wl_next rfl _ rfl _ rfl ?_) | (with_reducible refine wl_copy rfl _ _ _ _ rfl _ _ rfl rfl ?_) | (with_reducible refine wl_max rfl _ _ _ _ rfl _ _ rfl rfl ?_) | (with_reducible refine wl_min rfl _ _ _ _ rfl _ _ rfl rfl ?_) | (with_reducible refine wl_stAgg rfl _ _ _ rfl _ _ rfl rfl ?_))
          refine rg_stAgg b12 (by kernel_rfl) (by rfl) (by first | (simp [Value.oneCell']; done) | simpa using hone) ?_
          intro wz hBz hkz hsz
          go_wp2_with (first | (at_builtin; refine wl_append rfl _ _ _ _ rfl _ _ rfl rfl ?_) | (at_make; refine wl_make rfl _ _ _ rfl _ _ rfl rfl ?_) | (at_mapUpdate; refine wl_mapUpdate rfl _ _ _ _ rfl _ _ _ rfl rfl rfl ?_) | (at_lookup; refine wl_lookup rfl _ _ _ _ rfl _ _ rfl rfl ?_) | (at_delete; refine wl_delete rfl _ _ _ _ rfl _ _ rfl rfl ?_) | (with_reducible refine wl_len rfl _ _ rfl _ rfl ?_) | (with_reducible refine wl_range rfl _ _ rfl _ rfl ?_) | (with_reducible refine wl_next rfl _ rfl _ rfl ?_) | (with_reducible refine wl_copy rfl _ _ _ _ rfl _ _ rfl rfl ?_) | (with_reducible refine wl_max rfl _ _ _ _ rfl _ _ rfl rfl ?_) | (with_reducible refine wl_min rfl _ _ _ _ rfl _ _ rfl rfl ?_))
          refine ret_blk_tmp rfl rfl hBz Try.underlying34 rfl (by kernel_rfl) rfl ?_
          obtain ⟨r1, r2⟩ := HEnd.out 12 _ rfl (by decide) hkz
          exact ⟨_, rfl, r1, r2⟩
        · have i1 : (x : Int) < (addr : Int) ∨ ((addr : Int) ≤ (x : Int) ∧ (addr : Int) + (sz : Int) ≤ (x : Int)) := by omega
          rcases i1 with i1 | ⟨i1, i2⟩
          all_goals
            go_wp2_with (first | (at_builtin; refine wl_append rfl _ _ _ _ rfl _ _ rfl rfl ?_) | (at_make; refine wl_make rfl _ _ _ rfl _ _ rfl rfl ?_) | (at_mapUpdate; refine wl_mapUpdate rfl _ _ _ _ rfl _ _ _ rfl rfl rfl ?_) | (at_lookup; refine wl_lookup rfl _ _ _ _ rfl _ _ rfl rfl ?_) | (at_delete; refine wl_delete rfl _ _ _ _ rfl _ _ rfl rfl ?_) | (with_reducible refine wl_len rfl _ _ rfl _ rfl ?_) | (with_reducible refine wl_range rfl _ _ rfl _ rfl ?_) | (with_reducible refine wl_next rfl _ rfl _ rfl ?_) | (with_reducible refine wl_copy rfl _ _ _ _ rfl _ _ rfl rfl ?_) | (with_reducible refine wl_max rfl _ _ _ _ rfl _ _ rfl rfl ?_) | (with_reducible refine wl_min rfl _ _ _ _ rfl _ _ rfl rfl ?_))
            go_roundw
            case rel => exact ⟨i + 1, by go_num, hlt, HN.out e, trivial⟩
            case measure => simp [intOf]; omega
      · obtain rfl : i = m.length := Nat.le_antisymm hi hge
        have hof0 : over m addr sz = false := by
          cases ho : over m addr sz with
          | false => rfl
          | true => obtain ⟨j, hj, e⟩ := HOV.out.1 ho; exact absurd e (hno j hj hj)
        have HO := Lib.hid hof0
        rw [hof0] at HE
        simp only [Bool.false_eq_true, if_false] at HE
        clear hno hof0
        by_cases hbig : n > 512 - m.length
        · rw [if_pos hbig] at HE
          have hE := HE.out
          subst hE
          have i1 : (512 : Int) < (m.length : Int) + (n : Int) := by omega
          go_wp2_with (first | (at_builtin; refine wl_append rfl _ _ _ _ rfl _ _ rfl rfl ?_) | (at_make; refine wl_make rfl _ _ _ rfl _ _ rfl rfl ?_) | (at_mapUpdate; refine wl_mapUpdate rfl _ _ _ _ rfl _ _ _ rfl rfl rfl ?_) | (at_lookup; refine wl_lookup rfl _ _ _ _ rfl _ _ rfl rfl ?_) | (at_delete; refine wl_delete rfl _ _ _ _ rfl _ _ rfl rfl ?_) | (with_reducible refine wl_len rfl _ _ rfl _ rfl ?_) | (with_reducible refine wl_range rfl _ _ rfl _ rfl ?_) | (with_reducible refine wl_next rfl _ rfl _ rfl ?_) | (with_reducible refine wl_copy rfl _ _ _ _ rfl _ _ rfl rfl ?_) | (with_reducible refine wl_max rfl _ _ _ _ rfl _ _ rfl rfl ?_) | (with_reducible refine wl_min rfl _ _ _ _ rfl _ _ rfl rfl ?_) | (with_reducible refine wl_stAgg rfl _ _ _ rfl _ _ rfl rfl ?_))
          refine rg_stAgg b12 (by kernel_rfl) (by rfl) (by first | (simp [Value.oneCell']; done) | simpa using hone) ?_
          intro wz hBz hkz hsz
          go_wp2_with (first | (at_builtin; refine wl_append rfl _ _ _ _ rfl _ _ rfl rfl ?_) | (at_make; refine wl_make rfl _ _ _ rfl _ _ rfl rfl ?_) | (at_mapUpdate; refine wl_mapUpdate rfl _ _ _ _ rfl _ _ _ rfl rfl rfl ?_) | (at_lookup; refine wl_lookup rfl _ _ _ _ rfl _ _ rfl rfl ?_) | (at_delete; refine wl_delete rfl _ _ _ _ rfl _ _ rfl rfl ?_) | (with_reducible refine wl_len rfl _ _ rfl _ rfl ?_) | (with_reducible refine wl_range rfl _ _ rfl _ rfl ?_) | (with_reducible refine wl_next rfl _ rfl _ rfl ?_) | (with_reducible refine wl_copy rfl _ _ _ _ rfl _ _ rfl rfl ?_) | (with_reducible refine wl_max rfl _ _ _ _ rfl _ _ rfl rfl ?_) | (with_reducible refine wl_min rfl _ _ _ _ rfl _ _ rfl rfl ?_))
          refine ret_blk_tmp rfl rfl hBz Try.underlying34 rfl (by kernel_rfl) rfl ?_
          obtain ⟨r1, r2⟩ := HEnd.out 13 _ rfl (by decide) hkz
          exact ⟨_, rfl, r1, r2⟩
        · rw [if_neg hbig] at HE
          have hE := HE.out
          subst hE
          have i1 : (m.length : Int) + (n : Int) ≤ 512 := by omega
          have HI1 := Lib.hid i1
          go_wp2_with (first | (at_builtin; refine wl_append rfl _ _ _ _ rfl _ _ rfl rfl ?_) | (at_make; refine wl_make rfl _ _ _ rfl _ _ rfl rfl ?_) | (at_mapUpdate; refine wl_mapUpdate rfl _ _ _ _ rfl _ _ _ rfl rfl rfl ?_) | (at_lookup; refine wl_lookup rfl _ _ _ _ rfl _ _ rfl rfl ?_) | (at_delete; refine wl_delete rfl _ _ _ _ rfl _ _ rfl rfl ?_) | (with_reducible refine wl_len rfl _ _ rfl _ rfl ?_) | (with_reducible refine wl_range rfl _ _ rfl _ rfl ?_) | (with_reducible refine wl_next rfl _ rfl _ rfl ?_) | (with_reducible refine wl_copy rfl _ _ _ _ rfl _ _ rfl rfl ?_) | (with_reducible refine wl_max rfl _ _ _ _ rfl _ _ rfl rfl ?_) | (with_reducible refine wl_min rfl _ _ _ _ rfl _ _ rfl rfl ?_))
          clear i1
          go_loopw [16] (fun iv wr => ∃ (k : Nat) (vk : Value), iv = .int .u64 ((addr + 256 * k : Nat) : Int) ∧ k ≤ n ∧ Blk wr w.heap.size #[vk] 34 ∧ Blk wr (w.heap.size + 1) #[.slice none 0 0] 34 ∧ Fl (fun j => A j ∨ (w.heap.size + 2 ≤ j ∧ j < wr.heap.size)) wr 6 encS vk (mapN m addr pn file off k) ∧ Keep No w wr) (fun iv _ => addr + 256 * n - (intOf iv).toNat)
          case atStart => exact ⟨0, _, by simp, Nat.zero_le _, b6, b12, (h.no hkW).mono fun _ _ ha => .inl ha, hkW⟩
          case round =>
            obtain ⟨k, vk, rfl, hk, hb6, hb12, hfk, hkk⟩ := hrel
            have hone : vk.oneCell' = true := by obtain ⟨_, _, rfl, _, _⟩ := hfk.shape; rfl
            have hok := HOK.out
            have hsn := HSN.out
            have hm5 := HM5.out
            have p6 : wr.cell? ⟨w.heap.size, 0, none⟩ = some vk := hb6.cell 0
            have hw2 : w.heap.size + 2 ≤ wr.heap.size := by have := hb12.lt; omega
            have hAk : ∀ j, (A j ∨ (w.heap.size + 2 ≤ j ∧ j < wr.heap.size)) → j ≠ w.heap.size ∧ j ≠ w.heap.size + 1 ∧ j < wr.heap.size := fun j hj => hj.elim (fun ha => by have := hA j ha; omega) (fun h => by omega)
            rcases Nat.lt_or_ge k n with hkl | hkl
            · have hml1 : m.length + n ≤ 512 := by have := HI1.out; omega
              have hov0 := HO.out
              rw [← hsn] at hov0
              have hfree := mapN_free (k := k) (prot := pn) (file := file) (off := off) hov0 (by omega)
              have hokk := mapN_ok (k := k) (prot := pn) (file := file) (off := off) hok HM1.out (show addr + 256 * n ≤ top by unfold top; omega) (by have := HP7.out; omega) hfl hov0 (by omega) (by omega)
              have hmap : mapN m addr pn file off (k + 1) = withP (newPg addr pn file off k) (mapN m addr pn file off k) false := (withP_new hokk.srt hfree).symm
              have hlk := mapN_len m addr pn file off k
              have hltz : ((addr + 256 * k : Nat) : Int) < (addr : Int) + (sz : Int) := by omega
              have hle1 : addr + 256 * k + 256 ≤ 4294967296 := by omega
              have hstp : addr + 256 * k + 256 = addr + 256 * (k + 1) := by omega
              have hnext : addr + 256 * (k + 1) ≤ addr + 256 * n := by omega
              have hpq : ∀ q ∈ mapN m addr pn file off k, q.addr < 18446744073709551616 := fun q hq => by have := (hokk.pg q hq).lt; unfold top at this; omega
              have hll : (mapN m addr pn file off k).length ≤ 1000000 := by omega
              generalize hmk2 : mapN m addr pn file off (k + 1) = mk2 at *
              have HMK := Lib.hid hmk2.symm
              clear hmk2
              generalize mapN m addr pn file off k = mk at *
              have hnp : newPg addr pn file off k = ⟨addr + 256 * k, pn, false, file, if file = [] then 0 else (off + 256 * k) % 18446744073709551616, noughts⟩ := rfl
              rw [hnp] at hmap
              obtain ⟨j, hj⟩ : ∃ j, j = 256 * k := ⟨_, rfl⟩
              have hsub : ((addr + 256 * k : Nat) : Int) - (addr : Int) = (j : Int) := by omega
              have hwr : IntKind.u64.wrap ((off : Int) + (j : Int)) = (((off + j) % 18446744073709551616 : Nat) : Int) := by rw [IntKind.wrap_u64]; omega
              have hj64 : (j : Int) ≤ 4294967296 := by omega
              replace hmap : mk2 = withP ⟨addr + 256 * k, pn, false, file, if file = [] then 0 else (off + j) % 18446744073709551616, noughts⟩ mk false := by rw [hmap, hj]
              have H1 := Lib.hid hstp
              have H2 := Lib.hid hnext
              have HM := Lib.hid hmap
              have HLL := Lib.hid hll
              have HPQ := Lib.hid hpq
              clear hov0 hfree hokk hmap hlk hstp hnext hnp hsn hm5 hok hj hml1 hll hpq
              generalize addr + 256 * k = at_ at *
              by_cases hfe : file = []
              · subst hfe
                rw [if_pos rfl] at HM
                have hdf : (({ data := ([] : List UInt8).toArray } : ByteArray) == { data := #[] }) = true := rfl
                go_wp2_with (first | (at_builtin; refine wl_append rfl _ _ _ _ rfl _ _ rfl rfl ?_) | (at_make; refine wl_make rfl _ _ _ rfl _ _ rfl rfl ?_) | (at_mapUpdate; refine wl_mapUpdate rfl _ _ _ _ rfl _ _ _ rfl rfl rfl ?_) | (at_lookup; refine wl_lookup rfl _ _ _ _ rfl _ _ rfl rfl ?_) | (at_delete; refine wl_delete rfl _ _ _ _ rfl _ _ rfl rfl ?_) | (with_reducible refine wl_len rfl _ _ rfl _ rfl ?_) | (with_reducible refine wl_range rfl _ _ rfl _ rfl ?_) | (with_reducible refine wl_next rfl _ rfl _ rfl ?_) | (with_reducible refine wl_copy rfl _ _ _ _ rfl _ _ rfl rfl ?_) | (with_reducible refine wl_max rfl _ _ _ _ rfl _ _ rfl rfl ?_) | (with_reducible refine wl_min rfl _ _ _ _ rfl _ _ rfl rfl ?_))
                refine wp_region_sig (fun w' => w'.cell? ⟨w.heap.size, 0, none⟩ = some vk ∧ True) (fun j => decide (j ≤ 6)) [(0, true), (1, true), (2, true), (3, true), (4, true), (5, false), (6, true), (7, false), (8, false)] (by kernel_rfl) (by kernel_rfl) (by intro c a d v w h; cases d <;> exact h) ⟨p6, trivial⟩ ?_
                apply sig_still (o := ⟨some 77, _, _, _, _, _⟩) rfl rfl
                · intro w' hS
                  obtain ⟨q1, q2⟩ := hS
                  first | (go_simp; done) | (go_simp; rfl) | rfl
                go_frame
                apply sig_still (o := ⟨some 78, _, _, _, _, _⟩) rfl rfl
                · intro w' hS
                  obtain ⟨q1, q2⟩ := hS
                  first | (go_simp; done) | (go_simp; rfl) | rfl
                go_frame
                apply sig_still (o := ⟨some 79, _, _, _, _, _⟩) rfl rfl
                · intro w' hS
                  obtain ⟨q1, q2⟩ := hS
                  first | (go_simp; done) | (go_simp; rfl) | rfl
                go_frame
                apply sig_still (o := ⟨some 80, _, _, _, _, _⟩) rfl rfl
                · intro w' hS
                  obtain ⟨q1, q2⟩ := hS
                  first | (go_simp; done) | (go_simp; rfl) | rfl
                go_frame
                apply sig_still (o := ⟨some 81, _, _, _, _, _⟩) rfl rfl
                · intro w' hS
                  obtain ⟨q1, q2⟩ := hS
                  first | (go_simp; done) | (go_simp; rfl) | rfl
                go_frame
                refine sig_eff (o := ⟨some 82, _, _, _, _, _⟩) rfl rfl (fun K hKe => ?_)
                go_wp2_with (first | (at_builtin; refine wl_append rfl _ _ _ _ rfl _ _ rfl rfl ?_) | (at_make; refine wl_make rfl _ _ _ rfl _ _ rfl rfl ?_) | (at_mapUpdate; refine wl_mapUpdate rfl _ _ _ _ rfl _ _ _ rfl rfl rfl ?_) | (at_lookup; refine wl_lookup rfl _ _ _ _ rfl _ _ rfl rfl ?_) | (at_delete; refine wl_delete rfl _ _ _ _ rfl _ _ rfl rfl ?_) | (with_reducible refine wl_len rfl _ _ rfl _ rfl ?_) | (with_reducible refine wl_range rfl _ _ rfl _ rfl ?_) | (with_reducible refine wl_next rfl _ rfl _ rfl ?_) | (with_reducible refine wl_copy rfl _ _ _ _ rfl _ _ rfl rfl ?_) | (with_reducible refine wl_max rfl _ _ _ _ rfl _ _ rfl rfl ?_) | (with_reducible refine wl_min rfl _ _ _ _ rfl _ _ rfl rfl ?_))
                refine (rvnoughts_any _).mono ?_
                rintro e w3 ⟨rfl, hk3⟩
                generalize noughts = NO at *
                replace hk3 : Keep No wr w3 := ⟨hk3.os, hk3.tape, hk3.output, hk3.size, hk3.block⟩
                have hb6a := hb6.keep hk3 fun h => h
                have hb12a := hb12.keep hk3 fun h => h
                have p6a : w3.cell? ⟨w.heap.size, 0, none⟩ = some vk := hb6a.cell 0
                have hfka := hfk.no hk3
                have hkka := hkk.trans' hk3
                go_wp2_with (first | (at_builtin; refine wl_append rfl _ _ _ _ rfl _ _ rfl rfl ?_) | (at_make; refine wl_make rfl _ _ _ rfl _ _ rfl rfl ?_) | (at_mapUpdate; refine wl_mapUpdate rfl _ _ _ _ rfl _ _ _ rfl rfl rfl ?_) | (at_lookup; refine wl_lookup rfl _ _ _ _ rfl _ _ rfl rfl ?_) | (at_delete; refine wl_delete rfl _ _ _ _ rfl _ _ rfl rfl ?_) | (with_reducible refine wl_len rfl _ _ rfl _ rfl ?_) | (with_reducible refine wl_range rfl _ _ rfl _ rfl ?_) | (with_reducible refine wl_next rfl _ rfl _ rfl ?_) | (with_reducible refine wl_copy rfl _ _ _ _ rfl _ _ rfl rfl ?_) | (with_reducible refine wl_max rfl _ _ _ _ rfl _ _ rfl rfl ?_) | (with_reducible refine wl_min rfl _ _ _ _ rfl _ _ rfl rfl ?_))
                refine ⟨fun _ => ⟨p6a, trivial⟩, ?_⟩
                apply sig_still (o := ⟨some 83, _, _, _, _, _⟩) rfl rfl
                · intro w' hS
                  obtain ⟨q1, q2⟩ := hS
                  first | (go_simp; done) | (go_simp; rfl) | rfl
                go_frame
                refine sig_eff (o := ⟨some 84, _, _, _, _, _⟩) rfl rfl (fun K hKe => ?_)
                go_wp2_with (first | (at_builtin; refine wl_append rfl _ _ _ _ rfl _ _ rfl rfl ?_) | (at_make; refine wl_make rfl _ _ _ rfl _ _ rfl rfl ?_) | (at_mapUpdate; refine wl_mapUpdate rfl _ _ _ _ rfl _ _ _ rfl rfl rfl ?_) | (at_lookup; refine wl_lookup rfl _ _ _ _ rfl _ _ rfl rfl ?_) | (at_delete; refine wl_delete rfl _ _ _ _ rfl _ _ rfl rfl ?_) | (with_reducible refine wl_len rfl _ _ rfl _ rfl ?_) | (with_reducible refine wl_range rfl _ _ rfl _ rfl ?_) | (with_reducible refine wl_next rfl _ rfl _ rfl ?_) | (with_reducible refine wl_copy rfl _ _ _ _ rfl _ _ rfl rfl ?_) | (with_reducible refine wl_max rfl _ _ _ _ rfl _ _ rfl rfl ?_) | (with_reducible refine wl_min rfl _ _ _ _ rfl _ _ rfl rfl ?_))
                refine (rvwith_any ⟨at_, pn, false, [], 0, NO⟩ hfka (fun j hj => Nat.lt_of_lt_of_le (hAk j hj).2.2 hk3.size) HLL.out HPQ.out (show at_ < 18446744073709551616 by omega)).mono ?_
                rintro e w4 ⟨v4, rfl, ho4, hk4⟩
                rw [← HM.out] at ho4
                obtain ⟨a4, c4, rfl, _, _⟩ := ho4.fl.shape
                go_wp2_with (first | (at_builtin; refine wl_append rfl _ _ _ _ rfl _ _ rfl rfl ?_) | (at_make; refine wl_make rfl _ _ _ rfl _ _ rfl rfl ?_) | (at_mapUpdate; refine wl_mapUpdate rfl _ _ _ _ rfl _ _ _ rfl rfl rfl ?_) | (at_lookup; refine wl_lookup rfl _ _ _ _ rfl _ _ rfl rfl ?_) | (at_delete; refine wl_delete rfl _ _ _ _ rfl _ _ rfl rfl ?_) | (with_reducible refine wl_len rfl _ _ rfl _ rfl ?_) | (with_reducible refine wl_range rfl _ _ rfl _ rfl ?_) | (with_reducible refine wl_next rfl _ rfl _ rfl ?_) | (with_reducible refine wl_copy rfl _ _ _ _ rfl _ _ rfl rfl ?_) | (with_reducible refine wl_max rfl _ _ _ _ rfl _ _ rfl rfl ?_) | (with_reducible refine wl_min rfl _ _ _ _ rfl _ _ rfl rfl ?_))
                refine ⟨fun h => by simp at h, ?_⟩
                refine sig_eff (o := ⟨none, _, _, _, _, _⟩) rfl rfl (fun K hKe => ?_)
                refine wo_stAgg (.tmp 6) (.tmp 84) 34 rfl _ _ rfl rfl ?_
                refine rg_stAgg (hb6a.keep hk4 fun h => h) (by kernel_rfl) (by rfl) (by simp [Value.oneCell']) ?_
                intro w5 hb6b hk5 hs5
                refine hKe _ _ ⟨fun h => by simp at h, sig_nil ?_⟩
                go_wp2_with (first | (at_builtin; refine wl_append rfl _ _ _ _ rfl _ _ rfl rfl ?_) | (at_make; refine wl_make rfl _ _ _ rfl _ _ rfl rfl ?_) | (at_mapUpdate; refine wl_mapUpdate rfl _ _ _ _ rfl _ _ _ rfl rfl rfl ?_) | (at_lookup; refine wl_lookup rfl _ _ _ _ rfl _ _ rfl rfl ?_) | (at_delete; refine wl_delete rfl _ _ _ _ rfl _ _ rfl rfl ?_) | (with_reducible refine wl_len rfl _ _ rfl _ rfl ?_) | (with_reducible refine wl_range rfl _ _ rfl _ rfl ?_) | (with_reducible refine wl_next rfl _ rfl _ rfl ?_) | (with_reducible refine wl_copy rfl _ _ _ _ rfl _ _ rfl rfl ?_) | (with_reducible refine wl_max rfl _ _ _ _ rfl _ _ rfl rfl ?_) | (with_reducible refine wl_min rfl _ _ _ _ rfl _ _ rfl rfl ?_))
                go_roundw
                case rel =>
                  have hs34 := hk3.size
                  have hs45 := hk4.size
                  have hb12c := (hb12a.keep hk4 fun h => h).keep hk5 (by omega)
                  have hk5' : Keep No w w5 := (hkka.trans' hk4).trans hk5 fun j hj e => absurd hj (by have e2 : j = w.heap.size := e; omega)
                  have hf5 : Fl (fun j => A j ∨ (w.heap.size + 2 ≤ j ∧ j < w5.heap.size)) w5 6 encS (.slice a4 mk2.length c4) mk2 := by
                    refine (ho4.fl.keep hk5 fun j _ ha e => ?_).mono fun j hj ha => .inr ?_
                    · have e2 : j = w.heap.size := e
                      have := ha.1
                      omega
                    · have := ha.1
                      exact ⟨by omega, hj⟩
                  exact ⟨k + 1, _, by rw [← H1.out]; go_num, hkl, hb6b, hb12c, HMK.out ▸ hf5, hk5'⟩
                case measure => have := H1.out; have := H2.out; simp [intOf]; omega
              · rw [if_neg hfe] at HM
                obtain ⟨c0, r0, hcr⟩ := List.exists_cons_of_ne_nil hfe
                have hdf : ({ data := file.toArray } : ByteArray).toList = c0 :: r0 := by rw [ByteArray.toList_eq, hcr]
                have hde : ({ data := #[] } : ByteArray).toList = [] := by rw [ByteArray.toList_eq]
                have hwr2 : ((off + j) % 18446744073709551616 : Nat) < 18446744073709551616 := Nat.mod_lt _ (by decide)
                generalize (off + j) % 18446744073709551616 = o2 at *
                generalize hbs : ({ data := file.toArray } : ByteArray) = bs at *
                have HBS := Lib.hid hbs
                clear hbs hcr hfe
                go_wp2_with (first | (at_builtin; refine wl_append rfl _ _ _ _ rfl _ _ rfl rfl ?_) | (at_make; refine wl_make rfl _ _ _ rfl _ _ rfl rfl ?_) | (at_mapUpdate; refine wl_mapUpdate rfl _ _ _ _ rfl _ _ _ rfl rfl rfl ?_) | (at_lookup; refine wl_lookup rfl _ _ _ _ rfl _ _ rfl rfl ?_) | (at_delete; refine wl_delete rfl _ _ _ _ rfl _ _ rfl rfl ?_) | (with_reducible refine wl_len rfl _ _ rfl _ rfl ?_) | (with_reducible refine wl_range rfl _ _ rfl _ rfl ?_) | (with_reducible refine wl_next rfl _ rfl _ rfl ?_) | (with_reducible refine wl_copy rfl _ _ _ _ rfl _ _ rfl rfl ?_) | (with_reducible refine wl_max rfl _ _ _ _ rfl _ _ rfl rfl ?_) | (with_reducible refine wl_min rfl _ _ _ _ rfl _ _ rfl rfl ?_))
                obtain rfl := HBS.out
                clear hdf hde
                refine wp_region_sig (fun w' => w'.cell? ⟨w.heap.size, 0, none⟩ = some vk ∧ True) (fun j => decide (j ≤ 6)) [(0, true), (1, true), (2, true), (3, true), (4, true), (5, false), (6, true), (7, false), (8, false)] (by kernel_rfl) (by kernel_rfl) (by intro c a d v w h; cases d <;> exact h) ⟨p6, trivial⟩ ?_
                apply sig_still (o := ⟨some 77, _, _, _, _, _⟩) rfl rfl
                · intro w' hS
                  obtain ⟨q1, q2⟩ := hS
                  first | (go_simp; done) | (go_simp; rfl) | rfl
                go_frame
                apply sig_still (o := ⟨some 78, _, _, _, _, _⟩) rfl rfl
                · intro w' hS
                  obtain ⟨q1, q2⟩ := hS
                  first | (go_simp; done) | (go_simp; rfl) | rfl
                go_frame
                apply sig_still (o := ⟨some 79, _, _, _, _, _⟩) rfl rfl
                · intro w' hS
                  obtain ⟨q1, q2⟩ := hS
                  first | (go_simp; done) | (go_simp; rfl) | rfl
                go_frame
                apply sig_still (o := ⟨some 80, _, _, _, _, _⟩) rfl rfl
                · intro w' hS
                  obtain ⟨q1, q2⟩ := hS
                  first | (go_simp; done) | (go_simp; rfl) | rfl
                go_frame
                apply sig_still (o := ⟨some 81, _, _, _, _, _⟩) rfl rfl
                · intro w' hS
                  obtain ⟨q1, q2⟩ := hS
                  first | (go_simp; done) | (go_simp; rfl) | rfl
                go_frame
                refine sig_eff (o := ⟨some 82, _, _, _, _, _⟩) rfl rfl (fun K hKe => ?_)
                go_wp2_with (first | (at_builtin; refine wl_append rfl _ _ _ _ rfl _ _ rfl rfl ?_) | (at_make; refine wl_make rfl _ _ _ rfl _ _ rfl rfl ?_) | (at_mapUpdate; refine wl_mapUpdate rfl _ _ _ _ rfl _ _ _ rfl rfl rfl ?_) | (at_lookup; refine wl_lookup rfl _ _ _ _ rfl _ _ rfl rfl ?_) | (at_delete; refine wl_delete rfl _ _ _ _ rfl _ _ rfl rfl ?_) | (with_reducible refine wl_len rfl _ _ rfl _ rfl ?_) | (with_reducible refine wl_range rfl _ _ rfl _ rfl ?_) | (with_reducible refine wl_next rfl _ rfl _ rfl ?_) | (with_reducible refine wl_copy rfl _ _ _ _ rfl _ _ rfl rfl ?_) | (with_reducible refine wl_max rfl _ _ _ _ rfl _ _ rfl rfl ?_) | (with_reducible refine wl_min rfl _ _ _ _ rfl _ _ rfl rfl ?_))
                refine (rvnoughts_any _).mono ?_
                rintro e w3 ⟨rfl, hk3⟩
                generalize noughts = NO at *
                replace hk3 : Keep No wr w3 := ⟨hk3.os, hk3.tape, hk3.output, hk3.size, hk3.block⟩
                have hb6a := hb6.keep hk3 fun h => h
                have hb12a := hb12.keep hk3 fun h => h
                have p6a : w3.cell? ⟨w.heap.size, 0, none⟩ = some vk := hb6a.cell 0
                have hfka := hfk.no hk3
                have hkka := hkk.trans' hk3
                go_wp2_with (first | (at_builtin; refine wl_append rfl _ _ _ _ rfl _ _ rfl rfl ?_) | (at_make; refine wl_make rfl _ _ _ rfl _ _ rfl rfl ?_) | (at_mapUpdate; refine wl_mapUpdate rfl _ _ _ _ rfl _ _ _ rfl rfl rfl ?_) | (at_lookup; refine wl_lookup rfl _ _ _ _ rfl _ _ rfl rfl ?_) | (at_delete; refine wl_delete rfl _ _ _ _ rfl _ _ rfl rfl ?_) | (with_reducible refine wl_len rfl _ _ rfl _ rfl ?_) | (with_reducible refine wl_range rfl _ _ rfl _ rfl ?_) | (with_reducible refine wl_next rfl _ rfl _ rfl ?_) | (with_reducible refine wl_copy rfl _ _ _ _ rfl _ _ rfl rfl ?_) | (with_reducible refine wl_max rfl _ _ _ _ rfl _ _ rfl rfl ?_) | (with_reducible refine wl_min rfl _ _ _ _ rfl _ _ rfl rfl ?_))
                refine ⟨fun _ => ⟨p6a, trivial⟩, ?_⟩
                apply sig_still (o := ⟨some 83, _, _, _, _, _⟩) rfl rfl
                · intro w' hS
                  obtain ⟨q1, q2⟩ := hS
                  first | (go_simp; done) | (go_simp; rfl) | rfl
                go_frame
                refine sig_eff (o := ⟨some 84, _, _, _, _, _⟩) rfl rfl (fun K hKe => ?_)
                go_wp2_with (first | (at_builtin; refine wl_append rfl _ _ _ _ rfl _ _ rfl rfl ?_) | (at_make; refine wl_make rfl _ _ _ rfl _ _ rfl rfl ?_) | (at_mapUpdate; refine wl_mapUpdate rfl _ _ _ _ rfl _ _ _ rfl rfl rfl ?_) | (at_lookup; refine wl_lookup rfl _ _ _ _ rfl _ _ rfl rfl ?_) | (at_delete; refine wl_delete rfl _ _ _ _ rfl _ _ rfl rfl ?_) | (with_reducible refine wl_len rfl _ _ rfl _ rfl ?_) | (with_reducible refine wl_range rfl _ _ rfl _ rfl ?_) | (with_reducible refine wl_next rfl _ rfl _ rfl ?_) | (with_reducible refine wl_copy rfl _ _ _ _ rfl _ _ rfl rfl ?_) | (with_reducible refine wl_max rfl _ _ _ _ rfl _ _ rfl rfl ?_) | (with_reducible refine wl_min rfl _ _ _ _ rfl _ _ rfl rfl ?_))
                refine (rvwith_any ⟨at_, pn, false, file, o2, NO⟩ hfka (fun j hj => Nat.lt_of_lt_of_le (hAk j hj).2.2 hk3.size) HLL.out HPQ.out (show at_ < 18446744073709551616 by omega)).mono ?_
                rintro e w4 ⟨v4, rfl, ho4, hk4⟩
                rw [← HM.out] at ho4
                obtain ⟨a4, c4, rfl, _, _⟩ := ho4.fl.shape
                go_wp2_with (first | (at_builtin; refine wl_append rfl _ _ _ _ rfl _ _ rfl rfl ?_) | (at_make; refine wl_make rfl _ _ _ rfl _ _ rfl rfl ?_) | (at_mapUpdate; refine wl_mapUpdate rfl _ _ _ _ rfl _ _ _ rfl rfl rfl ?_) | (at_lookup; refine wl_lookup rfl _ _ _ _ rfl _ _ rfl rfl ?_) | (at_delete; refine wl_delete rfl _ _ _ _ rfl _ _ rfl rfl ?_) | (with_reducible refine wl_len rfl _ _ rfl _ rfl ?_) | (with_reducible refine wl_range rfl _ _ rfl _ rfl ?_) | (with_reducible refine wl_next rfl _ rfl _ rfl ?_) | (with_reducible refine wl_copy rfl _ _ _ _ rfl _ _ rfl rfl ?_) | (with_reducible refine wl_max rfl _ _ _ _ rfl _ _ rfl rfl ?_) | (with_reducible refine wl_min rfl _ _ _ _ rfl _ _ rfl rfl ?_))
                refine ⟨fun h => by simp at h, ?_⟩
                refine sig_eff (o := ⟨none, _, _, _, _, _⟩) rfl rfl (fun K hKe => ?_)
                refine wo_stAgg (.tmp 6) (.tmp 84) 34 rfl _ _ rfl rfl ?_
                refine rg_stAgg (hb6a.keep hk4 fun h => h) (by kernel_rfl) (by rfl) (by simp [Value.oneCell']) ?_
                intro w5 hb6b hk5 hs5
                refine hKe _ _ ⟨fun h => by simp at h, sig_nil ?_⟩
                go_wp2_with (first | (at_builtin; refine wl_append rfl _ _ _ _ rfl _ _ rfl rfl ?_) | (at_make; refine wl_make rfl _ _ _ rfl _ _ rfl rfl ?_) | (at_mapUpdate; refine wl_mapUpdate rfl _ _ _ _ rfl _ _ _ rfl rfl rfl ?_) | (at_lookup; refine wl_lookup rfl _ _ _ _ rfl _ _ rfl rfl ?_) | (at_delete; refine wl_delete rfl _ _ _ _ rfl _ _ rfl rfl ?_) | (with_reducible refine wl_len rfl _ _ rfl _ rfl ?_) | (with_reducible refine wl_range rfl _ _ rfl _ rfl ?_) | (with_reducible refine wl_next rfl _ rfl _ rfl ?_) | (with_reducible refine wl_copy rfl _ _ _ _ rfl _ _ rfl rfl ?_) | (with_reducible refine wl_max rfl _ _ _ _ rfl _ _ rfl rfl ?_) | (with_reducible refine wl_min rfl _ _ _ _ rfl _ _ rfl rfl ?_))
                go_roundw
                case rel =>
                  have hs34 := hk3.size
                  have hs45 := hk4.size
                  have hb12c := (hb12a.keep hk4 fun h => h).keep hk5 (by omega)
                  have hk5' : Keep No w w5 := (hkka.trans' hk4).trans hk5 fun j hj e => absurd hj (by have e2 : j = w.heap.size := e; omega)
                  have hf5 : Fl (fun j => A j ∨ (w.heap.size + 2 ≤ j ∧ j < w5.heap.size)) w5 6 encS (.slice a4 mk2.length c4) mk2 := by
                    refine (ho4.fl.keep hk5 fun j _ ha e => ?_).mono fun j hj ha => .inr ?_
                    · have e2 : j = w.heap.size := e
                      have := ha.1
                      omega
                    · have := ha.1
                      exact ⟨by omega, hj⟩
                  exact ⟨k + 1, _, by rw [← H1.out]; go_num, hkl, hb6b, hb12c, HMK.out ▸ hf5, hk5'⟩
                case measure => have := H1.out; have := H2.out; simp [intOf]; omega
            · obtain rfl : k = n := Nat.le_antisymm hk hkl
              have hltz : ¬ ((addr + 256 * k : Nat) : Int) < (addr : Int) + (sz : Int) := by omega
              clear hsn hm5 hok
              generalize addr + 256 * k = at_ at *
              go_wp2_with (first | (at_builtin; refine wl_append rfl _ _ _ _ rfl _ _ rfl rfl ?_) | (at_make; refine wl_make rfl _ _ _ rfl _ _ rfl rfl ?_) | (at_mapUpdate; refine wl_mapUpdate rfl _ _ _ _ rfl _ _ _ rfl rfl rfl ?_) | (at_lookup; refine wl_lookup rfl _ _ _ _ rfl _ _ rfl rfl ?_) | (at_delete; refine wl_delete rfl _ _ _ _ rfl _ _ rfl rfl ?_) | (with_reducible refine wl_len rfl _ _ rfl _ rfl ?_) | (with_reducible refine wl_range rfl _ _ rfl _ rfl ?_) | (with_reducible refine wl_next rfl _ rfl _ rfl ?_) | (with_reducible refine wl_copy rfl _ _ _ _ rfl _ _ rfl rfl ?_) | (with_reducible refine wl_max rfl _ _ _ _ rfl _ _ rfl rfl ?_) | (with_reducible refine wl_min rfl _ _ _ _ rfl _ _ rfl rfl ?_) | (with_reducible refine wl_stAgg rfl _ _ _ rfl _ _ rfl rfl ?_))
              refine rg_stAgg hb12 (by kernel_rfl) (by rfl) (by first | (simp [Value.oneCell']; done) | simpa using hone) ?_
              intro wz hBz hkz hsz
              go_wp2_with (first | (at_builtin; refine wl_append rfl _ _ _ _ rfl _ _ rfl rfl ?_) | (at_make; refine wl_make rfl _ _ _ rfl _ _ rfl rfl ?_) | (at_mapUpdate; refine wl_mapUpdate rfl _ _ _ _ rfl _ _ _ rfl rfl rfl ?_) | (at_lookup; refine wl_lookup rfl _ _ _ _ rfl _ _ rfl rfl ?_) | (at_delete; refine wl_delete rfl _ _ _ _ rfl _ _ rfl rfl ?_) | (with_reducible refine wl_len rfl _ _ rfl _ rfl ?_) | (with_reducible refine wl_range rfl _ _ rfl _ rfl ?_) | (with_reducible refine wl_next rfl _ rfl _ rfl ?_) | (with_reducible refine wl_copy rfl _ _ _ _ rfl _ _ rfl rfl ?_) | (with_reducible refine wl_max rfl _ _ _ _ rfl _ _ rfl rfl ?_) | (with_reducible refine wl_min rfl _ _ _ _ rfl _ _ rfl rfl ?_))
              refine ret_blk_tmp rfl rfl hBz Try.underlying34 rfl (by kernel_rfl) rfl ?_
              rw [HX.out, if_pos True.intro]
              exact ⟨_, rfl, ((hfk.keep hkz fun j _ ha e => (hAk j ha).2.1 e).mono fun j hj ha => ha.elim .inl fun h => .inr ⟨by omega, hj⟩), hkk.trans hkz fun j hj e => absurd hj (by rw [e]; omega)⟩
end
end Go.Proofs.Ytaoillfofiehpaa
namespace Go.Dm.Vm
open Go Go.Proofs.Ytaoillfofiehpaa Go.Dm.Oc

def putD (d : Bool) (m : V) (a : Nat) (c : UInt8) : V := upd m (pageOf a) (fun p => { p with b := p.b.set (a % 256) c, dirty := p.dirty || d })
def writeD (d : Bool) : V → Nat → List UInt8 → V
  | m, _, [] => m
  | m, a, c :: r => writeD d (putD d m a c) (a + 1) r
theorem upd_congr {m : V} {a : Nat} {f g : Pg → Pg} (h : ∀ p ∈ m, p.addr = a → f p = g p) : upd m a f = upd m a g := by
  unfold upd
  apply List.map_congr_left
  intro p hp
  by_cases e : p.addr = a
  · rw [if_pos e, if_pos e]; exact h p hp e
  · rw [if_neg e, if_neg e]
theorem putD_false (m : V) (a : Nat) (c : UInt8) : putD false m a c = setB m a c := by
  rw [setB_upd]
  exact upd_congr fun p _ _ => by simp
theorem writeD_false (m : V) (a : Nat) (c : List UInt8) : writeD false m a c = writeB m a c := by
  induction c generalizing m a with
  | nil => rfl
  | cons x r ih =>
    show writeD false (putD false m a x) (a + 1) r = writeB (setB m a x) (a + 1) r
    rw [putD_false, ih]
theorem writeD_append (d : Bool) (m : V) (a : Nat) (b c : List UInt8) : writeD d m a (b ++ c) = writeD d (writeD d m a b) (a + b.length) c := by
  induction b generalizing m a with
  | nil => rfl
  | cons x r ih =>
    show writeD d (putD d m a x) (a + 1) (r ++ c) = writeD d (writeD d (putD d m a x) (a + 1) r) (a + (r.length + 1)) c
    rw [ih, show a + 1 + r.length = a + (r.length + 1) by omega]
theorem writeD_page (d : Bool) (m : V) (a : Nat) (c : List UInt8) (h : a % 256 + c.length ≤ 256) (hc : c ≠ []) : writeD d m a c = upd m (pageOf a) (fun p => { p with b := setR p.b (a % 256) c, dirty := p.dirty || d }) := by
  induction c generalizing m a with
  | nil => exact absurd rfl hc
  | cons x r ih =>
    rw [List.length_cons] at h
    unfold writeD
    cases r with
    | nil => rfl
    | cons y t =>
      rw [List.length_cons] at h
      have e1 : pageOf (a + 1) = pageOf a := by unfold pageOf; omega
      have e2 : (a + 1) % 256 = a % 256 + 1 := by omega
      rw [ih _ (a + 1) (by rw [e2, List.length_cons]; omega) (by simp), e1, e2]
      unfold putD
      rw [upd_upd]
      · exact upd_congr fun p _ _ => by simp [setR]
      · intro p; rfl
theorem putD_addr (d : Bool) (m : V) (a : Nat) (c : UInt8) : (putD d m a c).map (·.addr) = m.map (·.addr) := by
  unfold putD upd
  rw [List.map_map]
  apply List.map_congr_left
  intro p _
  simp only [Function.comp]
  split <;> rfl
theorem writeD_addr (d : Bool) (m : V) (a : Nat) (c : List UInt8) : (writeD d m a c).map (·.addr) = m.map (·.addr) := by
  induction c generalizing m a with
  | nil => rfl
  | cons x r ih => unfold writeD; rw [ih, putD_addr]
theorem writeD_len (d : Bool) (m : V) (a : Nat) (c : List UInt8) : (writeD d m a c).length = m.length := by
  have := congrArg List.length (writeD_addr d m a c)
  simpa using this
theorem writeD_ok (d : Bool) {m : V} (h : Ok m) (a : Nat) (c : List UInt8) : Ok (writeD d m a c) := by
  induction c generalizing m a with
  | nil => exact h
  | cons x r ih =>
    unfold writeD
    refine ih ?_ _
    unfold putD
    refine upd_ok (g := fun p => { p with b := p.b.set (a % 256) x, dirty := p.dirty || d }) h (fun _ => rfl) (fun p hp => ⟨hp.al, hp.lt, hp.pr, ?_, hp.ol, hp.fl⟩) _
    show (p.b.set _ _).length = 256
    rw [List.length_set]; exact hp.bl
theorem pageAt_addr {m k : V} (h : k.map (·.addr) = m.map (·.addr)) (a : Nat) : (pageAt k a).isSome = (pageAt m a).isSome := by
  unfold pageAt
  rw [Bool.eq_iff_iff, List.find?_isSome, List.find?_isSome]
  have : (∃ x ∈ k, (x.addr == a) = true) ↔ ∃ y ∈ k.map (·.addr), (y == a) = true := by simp
  rw [this, h]
  simp
theorem idx_unique {m : V} (hs : m.Pairwise (fun p q => p.addr < q.addr)) {i j : Nat} (hi : i < m.length) (hj : j < m.length) (h : m[i].addr = m[j].addr) : i = j := by
  rcases Nat.lt_trichotomy i j with hl | e | hl
  · have := List.pairwise_iff_getElem.1 hs i j hi hj hl; omega
  · exact e
  · have := List.pairwise_iff_getElem.1 hs j i hj hi hl; omega
/-- one page's part of the bytes from a place on, as the document's Poke puts it -/
theorem withP_chunk (d : Bool) {m k : V} (h : Ok m) (addr at_ n : Nat) (b : List UInt8) (hk : k = writeD d m addr (b.take at_)) {p : Pg} (hp : p ∈ k) (ha : p.addr = pageOf (addr + at_)) (hn : 0 < n) (hb : at_ + n ≤ b.length) (h2 : (addr + at_) % 256 + n ≤ 256) :
    withP { p with b := setR p.b ((addr + at_) % 256) ((b.drop at_).take n), dirty := p.dirty || d } k false = writeD d m addr (b.take (at_ + n)) := by
  have hok : Ok k := by rw [hk]; exact writeD_ok d h addr (b.take at_)
  have e1 : b.take (at_ + n) = b.take at_ ++ (b.drop at_).take n := by rw [List.take_add]
  have e2 : ((b.drop at_).take n).length = n := by rw [List.length_take, List.length_drop]; omega
  have e3 : (b.take at_).length = at_ := by rw [List.length_take]; omega
  rw [e1, writeD_append, e3, writeD_page d _ _ _ (by rw [e2]; exact h2) (fun e => by rw [e] at e2; simp at e2; omega), ← hk, withP_upd (p := { p with b := setR p.b ((addr + at_) % 256) ((b.drop at_).take n), dirty := p.dirty || d }) hok.srt ⟨p, hp, rfl⟩]
  show upd k p.addr _ = _
  rw [ha]
  refine upd_congr fun q hq e => ?_
  have h1 := get_of_mem hok.srt hp
  have h2 := get_of_mem hok.srt hq
  rw [ha] at h1
  rw [e, h1] at h2
  cases h2
  rw [e]
end Go.Dm.Vm
