/- The document's names: Check, At. The document's head: Get. No condition. -/
import Derived.Test.YtbnahidopemkiaaGreatDz5
import Derived.Test.YtbnahidopemkiaaGreatBu4
import Derived.Test.YtbnahidopemkiaaGreatSy2
import Derived.Test.YtbnahidopemkiaaGreatLdS
set_option linter.unusedVariables false
set_option linter.unusedSimpArgs false
namespace Go.Proofs.YtbnahidopemkiaaGreat
open Go.RowKit Go.Dm Go.Dm.Oc Go.Dm.Ld
section
variable {A : Nat → Prop} {w : World}
set_option maxRecDepth 100000 in
theorem r02chk_any {v : Value} (b : List UInt8) (hb : Bts A w v b) (hl : b.length ≤ 1099511627776) :
    Calls Tryz.prog 102 #[v] w fun e w' => e = .returned (.int .i64 (chkN b : Nat)) ∧ w = w' := by
  rcases Nat.eq_zero_or_pos b.length with h0 | hpos
  · obtain ⟨a, c, rfl, hc, hc2⟩ := hb.shape
    obtain rfl := List.eq_nil_of_length_eq_zero h0
    go_enter Tryz.func102, Tryz.ntmps102
    go_wp2_with fail
    go_ret
    exact ⟨rfl, rfl⟩
  · obtain ⟨g, off, cap, rfl, _, hg, hc, hc2, hr⟩ := Sl.at hb hpos
    have q0 : w.cell? ⟨g, off, none⟩ = some (.int .u8 ((b[0]'hpos).toNat : Int)) := hr 0 _ (by rw [List.getElem?_map, List.getElem?_eq_getElem hpos]; rfl)
    have q1 : w.cell? ⟨g, off + (b.length - 1), none⟩ = some (.int .u8 ((b[b.length - 1]'(by omega)).toNat : Int)) := hr (b.length - 1) _ (by rw [List.getElem?_map, List.getElem?_eq_getElem (by omega)]; rfl)
    have hres : chkN b = if (b[0]'hpos).toNat = 0 ∧ (b[b.length - 1]'(by omega)).toNat = 0 then 0 else 11 := by
      unfold chkN
      have e1 : b.head? = some (b[0]'hpos) := by rw [List.head?_eq_getElem?, List.getElem?_eq_getElem hpos]
      have e2 : b.getLast? = some (b[b.length - 1]'(by omega)) := by rw [List.getLast?_eq_getElem?, List.getElem?_eq_getElem (by omega)]
      rw [e1, e2]
      simp only [Option.some.injEq, ← UInt8.toNat_inj, UInt8.toNat_zero]
    have hx := (b[0]'hpos).toNat_lt
    have hy := (b[b.length - 1]'(by omega)).toNat_lt
    rw [hres]
    generalize (b[0]'hpos).toNat = x at *
    generalize (b[b.length - 1]'(by omega)).toNat = y at *
    clear hres hr hb
    generalize b.length = n at *
    have hn : ((n : Int) == 0) = false := by rw [beq_eq_false_iff_ne]; omega
    have hsub : (n : Int) - 1 = ((n - 1 : Nat) : Int) := by omega
    go_enter Tryz.func102, Tryz.ntmps102
    go_wp2_with fail
    all_goals
      go_ret
      refine ⟨?_, rfl⟩
      first
        | rfl
        | (exfalso
           simp_all
           done)
        | (exfalso
           simp only [bne_iff_ne, bne_eq_false_iff_eq, ne_eq] at *
           omega)
set_option maxRecDepth 100000 in
set_option maxHeartbeats 1000000 in
theorem r02at_any {v : Value} (b : List UInt8) (at_ : Nat) (hb : Bts A w v b) (hl : b.length ≤ 1099511627776) (ha : at_ < 18446744073709551616) :
    Calls Tryz.prog 103 #[v, .int .u64 (at_ : Int)] w fun e w' => e = .returned (.tuple #[.string ⟨(atM b at_).2.toArray⟩, .int .i64 ((atM b at_).1 : Int)]) ∧ w = w' := by
  obtain ⟨r, hr⟩ : ∃ r, r = atM b at_ := ⟨_, rfl⟩
  rw [← hr]
  unfold atM at hr
  have hlb : (b.length : Int) ≤ 1099511627776 := by omega
  have hwl : IntKind.u64.wrap (b.length : Int) = (b.length : Int) := by rw [IntKind.wrap_u64]; omega
  rcases Nat.lt_or_ge at_ b.length with hlt | hge
  · rw [if_neg (by omega)] at hr
    have HR := Lib.hid hr
    have HB := Lib.hid hb
    obtain ⟨a, c, rfl, hc, hc2⟩ := hb.shape

    have hat2 : (at_ : Int) < (b.length : Int) := by omega
    have hatz : IntKind.i64.wrap (at_ : Int) = (at_ : Int) := by rw [IntKind.wrap_i64]; omega
    have hge0 : decide ((b.length : Int) ≤ (at_ : Int)) = false := decide_eq_false (by omega)
    have H0 : Hid (∀ j, at_ ≤ j → j < at_ → ∀ (h : j < b.length), b[j] ≠ 0) := Lib.hid fun j h1 h2 => by omega
    clear hr hb
    obtain ⟨n, hn⟩ : ∃ n, n = b.length := ⟨_, rfl⟩
    rw [← hn] at hlb hwl hat2 hc hlt hge0 ⊢
    clear hl ha hc2
    have HN := Lib.hid hn
    clear hn
    go_enter Tryz.func103, Tryz.ntmps103
    go_wp2_with fail
    go_loopw [6] (fun iv wr => ∃ i : Nat, iv = .int .i64 (i : Int) ∧ at_ ≤ i ∧ i ≤ n ∧ Hid (∀ j, at_ ≤ j → j < i → ∀ (h : j < b.length), b[j] ≠ 0) ∧ w = wr) (fun iv _ => n - (intOf iv).toNat)
    case atStart => exact ⟨at_, rfl, Nat.le_refl _, Nat.le_of_lt hlt, H0, rfl⟩
    case round =>
      obtain ⟨i, rfl, hai, hi, HM, rfl⟩ := hrel
      clear H0
      rcases Nat.lt_or_ge i n with hin | hge
      · have hib : i < b.length := by rw [← HN.out]; exact hin
        obtain ⟨g, off, cap, e, hg0, hgl, _, _, hcell⟩ := HB.out.at (by omega : 0 < b.length)
        injection e with e1 e2 e3
        subst e1 e3
        have qb : w.cell? ⟨g, off + i, none⟩ = some (.int .u8 (b[i].toNat : Int)) := hcell i _ (by rw [List.getElem?_map, List.getElem?_eq_getElem hib]; rfl)
        have hiz : (i : Int) < (n : Int) := by omega
        by_cases h0 : b[i] = 0
        · have hy : b[i].toNat = 0 := by rw [h0]; rfl
          rw [hy] at qb
          have hd : i - at_ < (b.drop at_).length := by rw [List.length_drop]; omega
          obtain ⟨t1, t2⟩ := takeWhile_at (b := b.drop at_) (i := i - at_) hd (by rw [List.getElem_drop]; simpa [show at_ + (i - at_) = i from by omega] using h0) (fun j hj => by
            rw [List.getElem_drop]
            exact HM.out (at_ + j) (by omega) (by omega) (by omega))
          have hr := HR.out
          rw [t1, if_pos rfl, t2] at hr
          have hp := bts_part HB.out (lo := at_) (n := i - at_) (by omega)
          have hcs := conv_str hp
          have hs1 : (i : Int) - (at_ : Int) = ((i - at_ : Nat) : Int) := by omega
          have hs2 : (c : Int) - (at_ : Int) = ((c - at_ : Nat) : Int) := by omega
          have hneq : ¬ c = at_ := by omega
          have hat4 : (at_ : Int) ≤ (i : Int) := by omega
          have hic : (i : Int) ≤ (c : Int) := by omega
          generalize (b.drop at_).take (i - at_) = s at *
          subst hr
          clear hp t1 t2 hd hcell HM HR HB HN e2
          simp only [Option.map_some, Addr.add_lit] at hcs
          go_wp2_with fail

          go_ret2
          exact ⟨rfl, rfl⟩
        · have hy : b[i].toNat ≠ 0 := fun h => h0 (UInt8.toNat_inj.1 h)
          have hyz : ((b[i].toNat : Int) == 0) = false := by rw [beq_eq_false_iff_ne]; omega
          have HM2 : Hid (∀ j, at_ ≤ j → j < i + 1 → ∀ (h : j < b.length), b[j] ≠ 0) := Lib.hid fun j h1 h2 h3 => by
            rcases Nat.lt_or_ge j i with hj | hj
            · exact HM.out j h1 hj h3
            · obtain rfl : j = i := by omega
              exact h0
          generalize b[i].toNat = y at *
          clear hcell e2 h0 hy
          go_wp2_with fail
          go_roundw
          case rel => exact ⟨i + 1, by go_num, by omega, hin, HM2, trivial⟩
          case measure => simp [intOf]; omega
      · obtain rfl : i = n := Nat.le_antisymm hi hge
        have hc0 : (b.drop at_).contains 0 = false := by
          rw [Bool.eq_false_iff]
          intro h
          have h := List.contains_iff_mem.1 h
          obtain ⟨j, hj, he⟩ := List.getElem_of_mem h
          rw [List.length_drop] at hj
          rw [List.getElem_drop] at he
          exact HM.out (at_ + j) (by omega) (by rw [HN.out]; omega) (by omega) he
        have hr := HR.out
        rw [hc0, if_neg (by decide)] at hr
        subst hr
        go_wp2_with fail
        go_ret2
        exact ⟨rfl, rfl⟩
  · rw [if_pos hge] at hr
    subst hr
    obtain ⟨a, c, rfl, hc, hc2⟩ := hb.shape
    have hz : (b.length : Int) ≤ (at_ : Int) := by omega
    clear hb
    generalize b.length = n at *
    go_enter Tryz.func103, Tryz.ntmps103
    go_wp2_with fail
    go_ret2
    exact ⟨rfl, rfl⟩
end
end Go.Proofs.YtbnahidopemkiaaGreat
namespace Go.Proofs.YtbnahidopemkiaaGreat
open Go.RowKit Go.Dm Go.Dm.Oc Go.Dm.Ld
section
variable {A : Nat → Prop} {w : World} {v : Value}
theorem FlO.bts' {base : Nat} {l : List UInt8} (h : FlO w base 5 1 e8 v l) : Bts (fun _ => True) w v l := by
  have h2 : Fl (fun _ => True) w 1 e8 v l := h.fl.mono fun _ _ _ => trivial
  unfold Fl at h2
  rw [e8_map] at h2
  exact h2
theorem r03put_bad (h : Hd) (hok : headOk h = false) (hk : h.kind < 65536) (hc : h.count < 65536) :
    Calls Tryz.prog 38 #[.agg #[.int .i64 (h.kind : Int), .int .u64 (h.entry : Int), .int .u64 (h.segs : Int), .int .i64 (h.count : Int)]] w fun e w' => e = .returned (.tuple #[.slice none 0 0, .int .i64 1]) ∧ Keep No w w' := by
  unfold headOk at hok
  generalize h.kind = kd at *
  generalize h.entry = en at *
  generalize h.segs = sg at *
  generalize h.count = ct at *
  rcases Nat.lt_or_ge kd 2 with h1 | h1
  · have g1 : (kd : Int) < 2 := by omega
    go_enter Tryz.func38, Tryz.ntmps38
    go_wp2_with fail
    go_ret2
    exact ⟨rfl, (Keep.refl _ _).alloc _⟩
  · have g1 : (2 : Int) ≤ (kd : Int) := by omega
    rcases Nat.lt_or_ge 4 kd with h2 | h2
    · have g2 : (4 : Int) < (kd : Int) := by omega
      go_enter Tryz.func38, Tryz.ntmps38
      go_wp2_with fail
      go_ret2
      exact ⟨rfl, (Keep.refl _ _).alloc _⟩
    · have g2 : (kd : Int) ≤ 4 := by omega
      have h3 : 64 < ct := by
        rw [decide_eq_true h1, decide_eq_true h2, Bool.true_and, Bool.true_and, decide_eq_false_iff_not] at hok
        omega
      have g3 : (64 : Int) < (ct : Int) := by omega
      have g4 : (0 : Int) ≤ (ct : Int) := by omega
      go_enter Tryz.func38, Tryz.ntmps38
      go_wp2_with fail
      go_ret2
      exact ⟨rfl, (Keep.refl _ _).alloc _⟩
set_option maxRecDepth 100000 in
set_option maxHeartbeats 2000000 in
theorem r03get_any (b : BS) (hb : Bts A w v b) (hl : b.length ≤ 1099511627776) :
    Calls Tryz.prog 61 #[v] w fun e w' => e = .returned (.tuple #[.agg (encHd (headM b).2).toArray, .int .i64 ((headM b).1 : Nat)]) ∧ Keep No w w' := by
  have hH : headM b = if b.length < 64 then (10, hd0) else if headOk (headIn b) && decide (headB (headIn b) = b.take 64) then (0, headIn b) else (11, hd0) := rfl
  obtain ⟨r, hr⟩ : ∃ r, r = headM b := ⟨_, rfl⟩
  rw [← hr] at hH ⊢
  clear hr
  obtain ⟨ao, co, rfl, hc1, hc2⟩ := hb.shape
  by_cases hlt : b.length < 64
  · rw [if_pos hlt] at hH
    subst hH
    clear hb
    generalize b.length = n at *
    have hz : (n : Int) < 64 := by omega
    go_enter Tryz.func61, Tryz.ntmps61
    go_wp2_with (with_reducible refine wl_stAgg rfl _ _ _ rfl _ _ rfl rfl ?_)
    have hkV : Keep No w (w.alloc (.cells #[.int .i64 0, .int .u64 0, .int .u64 0, .int .i64 0] 68)) := (Keep.refl _ _).alloc _
    have hBV : Blk (w.alloc (.cells #[.int .i64 0, .int .u64 0, .int .u64 0, .int .i64 0] 68)) w.heap.size #[.int .i64 0, .int .u64 0, .int .u64 0, .int .i64 0] 68 := Blk.new _ _ _
    have hzV : (w.alloc (.cells #[.int .i64 0, .int .u64 0, .int .u64 0, .int .i64 0] 68)).heap.size = w.heap.size + 1 := World.size_alloc _ _
    generalize w.alloc (.cells #[.int .i64 0, .int .u64 0, .int .u64 0, .int .i64 0] 68) = V at *
    refine rg_stAgg hBV (by kernel_rfl) (by rfl) (by simp [Value.oneCell']) ?_
    intro w3 hB3 hk3 _
    go_wp2_with fail
    refine ret_blk_tmp rfl rfl hB3 Tryz.underlying68 rfl (by kernel_rfl) rfl ?_
    exact ⟨rfl, hkV.trans hk3 fun j hj e => by have e2 : j = w.heap.size := e; omega⟩
  · rw [if_neg hlt] at hH
    have HR := Lib.hid hH
    clear hH
    have hz : (64 : Int) ≤ (b.length : Int) := by omega
    have HB := Lib.hid hb
    have hx0 : getX b 16 2 < 65536 := getX_lt b 16 2
    have hx1 : getX b 24 8 < 18446744073709551616 := getX_lt b 24 8
    have hx2 : getX b 32 8 < 18446744073709551616 := getX_lt b 32 8
    have hx3 : getX b 56 2 < 65536 := getX_lt b 56 2
    have hg16 : ∀ W, Keep No w W → _ := fun W k => r01get_any (w := W) b 16 2 (Sl.keep hb k fun _ _ _ h => h) hl (by decide) (by decide) (by decide)
    have hg24 : ∀ W, Keep No w W → _ := fun W k => r01get_any (w := W) b 24 8 (Sl.keep hb k fun _ _ _ h => h) hl (by decide) (by decide) (by decide)
    have hg32 : ∀ W, Keep No w W → _ := fun W k => r01get_any (w := W) b 32 8 (Sl.keep hb k fun _ _ _ h => h) hl (by decide) (by decide) (by decide)
    have hg56 : ∀ W, Keep No w W → _ := fun W k => r01get_any (w := W) b 56 2 (Sl.keep hb k fun _ _ _ h => h) hl (by decide) (by decide) (by decide)
    have hout := fun W => r03put_any (w := W) (headIn b)
    have hbad := fun W => r03put_bad (w := W) (headIn b)
    have hpart := fun W (k : Keep No w W) => bts_upto (Sl.keep hb k fun _ _ _ h => h) (i := 64) (by omega)
    have hco : (64 : Int) ≤ (co : Int) := by omega
    unfold headIn at hout hbad
    dsimp only at hout hbad
    have HI : Hid (headIn b = ⟨getX b 16 2, getX b 24 8, getX b 32 8, getX b 56 2⟩) := Lib.hid rfl
    have HO := Lib.hid hout
    have HBAD := Lib.hid hbad
    have HP := Lib.hid hpart
    have HG := Lib.hid (And.intro hg16 (And.intro hg24 (And.intro hg32 hg56)))
    clear hout hbad hpart hg16 hg24 hg32 hg56 hb
    generalize getX b 16 2 = x0 at *
    generalize getX b 24 8 = x1 at *
    generalize getX b 32 8 = x2 at *
    generalize getX b 56 2 = x3 at *
    have w0 : IntKind.i64.wrap (x0 : Int) = (x0 : Int) := by rw [IntKind.wrap_i64]; omega
    have w3 : IntKind.i64.wrap (x3 : Int) = (x3 : Int) := by rw [IntKind.wrap_i64]; omega
    obtain ⟨n, hn⟩ : ∃ n, n = b.length := ⟨_, rfl⟩
    have HN := Lib.hid hn
    rw [← hn] at hz hc1 HG ⊢
    clear hn hl hlt HB hc2
    go_enter Tryz.func61, Tryz.ntmps61
    go_wp2_with (with_reducible refine wl_st rfl _ _ _ rfl _ _ _ rfl rfl ?_)
    have hkW : Keep No w (w.alloc (.cells #[.int .i64 0, .int .u64 0, .int .u64 0, .int .i64 0] 68)) := (Keep.refl _ _).alloc _
    have hBW : Blk (w.alloc (.cells #[.int .i64 0, .int .u64 0, .int .u64 0, .int .i64 0] 68)) w.heap.size #[.int .i64 0, .int .u64 0, .int .u64 0, .int .i64 0] 68 := Blk.new _ _ _
    have hzW : (w.alloc (.cells #[.int .i64 0, .int .u64 0, .int .u64 0, .int .i64 0] 68)).heap.size = w.heap.size + 1 := World.size_alloc _ _
    generalize w.alloc (.cells #[.int .i64 0, .int .u64 0, .int .u64 0, .int .i64 0] 68) = W at *
    have hkV : Keep No W (W.alloc (.cells #[.int .i64 0, .int .u64 0, .int .u64 0, .int .i64 0] 68)) := (Keep.refl _ _).alloc _
    have hBV : Blk (W.alloc (.cells #[.int .i64 0, .int .u64 0, .int .u64 0, .int .i64 0] 68)) W.heap.size #[.int .i64 0, .int .u64 0, .int .u64 0, .int .i64 0] 68 := Blk.new _ _ _
    have hzV : (W.alloc (.cells #[.int .i64 0, .int .u64 0, .int .u64 0, .int .i64 0] 68)).heap.size = W.heap.size + 1 := World.size_alloc _ _
    generalize W.alloc (.cells #[.int .i64 0, .int .u64 0, .int .u64 0, .int .i64 0] 68) = V at *
    have hkwV := hkW.trans' hkV
    have hRV := hBW.keep hkV fun h => h
    rw [hzW] at hBV
    clear hBW hkW hkV
    refine (HG.out.1 V hkwV).mono ?_
    rintro e _ ⟨rfl, rfl⟩
    go_wp2_with (with_reducible refine wl_st rfl _ _ _ rfl _ _ _ rfl rfl ?_)
    refine rg_st1 hBV (by kernel_rfl) (by show 0 < 4; decide) rfl rfl ?_
    intro V1 hBV1 hkV1 hzV1
    replace hBV1 : Blk V1 (w.heap.size + 1) #[.int .i64 (x0 : Int), .int .u64 0, .int .u64 0, .int .i64 0] 68 := hBV1
    have hCV1 : Keep No w V1 := (hkwV).trans hkV1 fun j hj e => by have e2 : j = w.heap.size + 1 := e; omega
    have hRV1 := (hRV).keep hkV1 fun e => by have e2 : w.heap.size = w.heap.size + 1 := e; omega
    clear hkV1 hzV1
    go_wp2_with (first | (with_reducible refine wl_ld rfl _ 68 rfl _ rfl ?_) | (with_reducible refine wl_st rfl _ _ _ rfl _ _ _ rfl rfl ?_))
    refine (HG.out.2.1 V1 hCV1).mono ?_
    rintro e _ ⟨rfl, rfl⟩
    go_wp2_with (with_reducible refine wl_st rfl _ _ _ rfl _ _ _ rfl rfl ?_)
    refine rg_st1 hBV1 (by kernel_rfl) (by show 1 < 4; decide) rfl rfl ?_
    intro V2 hBV2 hkV2 hzV2
    replace hBV2 : Blk V2 (w.heap.size + 1) #[.int .i64 (x0 : Int), .int .u64 (x1 : Int), .int .u64 0, .int .i64 0] 68 := hBV2
    have hCV2 : Keep No w V2 := (hCV1).trans hkV2 fun j hj e => by have e2 : j = w.heap.size + 1 := e; omega
    have hRV2 := (hRV1).keep hkV2 fun e => by have e2 : w.heap.size = w.heap.size + 1 := e; omega
    clear hkV2 hzV2
    go_wp2_with (first | (with_reducible refine wl_ld rfl _ 68 rfl _ rfl ?_) | (with_reducible refine wl_st rfl _ _ _ rfl _ _ _ rfl rfl ?_))
    refine (HG.out.2.2.1 V2 hCV2).mono ?_
    rintro e _ ⟨rfl, rfl⟩
    go_wp2_with (with_reducible refine wl_st rfl _ _ _ rfl _ _ _ rfl rfl ?_)
    refine rg_st1 hBV2 (by kernel_rfl) (by show 2 < 4; decide) rfl rfl ?_
    intro V3 hBV3 hkV3 hzV3
    replace hBV3 : Blk V3 (w.heap.size + 1) #[.int .i64 (x0 : Int), .int .u64 (x1 : Int), .int .u64 (x2 : Int), .int .i64 0] 68 := hBV3
    have hCV3 : Keep No w V3 := (hCV2).trans hkV3 fun j hj e => by have e2 : j = w.heap.size + 1 := e; omega
    have hRV3 := (hRV2).keep hkV3 fun e => by have e2 : w.heap.size = w.heap.size + 1 := e; omega
    clear hkV3 hzV3
    go_wp2_with (first | (with_reducible refine wl_ld rfl _ 68 rfl _ rfl ?_) | (with_reducible refine wl_st rfl _ _ _ rfl _ _ _ rfl rfl ?_))
    refine (HG.out.2.2.2 V3 hCV3).mono ?_
    rintro e _ ⟨rfl, rfl⟩
    go_wp2_with (with_reducible refine wl_st rfl _ _ _ rfl _ _ _ rfl rfl ?_)
    refine rg_st1 hBV3 (by kernel_rfl) (by show 3 < 4; decide) rfl rfl ?_
    intro V4 hBV4 hkV4 hzV4
    replace hBV4 : Blk V4 (w.heap.size + 1) #[.int .i64 (x0 : Int), .int .u64 (x1 : Int), .int .u64 (x2 : Int), .int .i64 (x3 : Int)] 68 := hBV4
    have hCV4 : Keep No w V4 := (hCV3).trans hkV4 fun j hj e => by have e2 : j = w.heap.size + 1 := e; omega
    have hRV4 := (hRV3).keep hkV4 fun e => by have e2 : w.heap.size = w.heap.size + 1 := e; omega
    clear hkV4 hzV4
    go_wp2_with (first | (with_reducible refine wl_ld rfl _ 68 rfl _ rfl ?_) | (with_reducible refine wl_st rfl _ _ _ rfl _ _ _ rfl rfl ?_))
    clear hBV hBV1 hBV2 hBV3 hRV hRV1 hRV2 hRV3 hkwV hCV1 hCV2 hCV3 hzV
    refine rg_ld hBV4 Tryz.underlying68 rfl (by kernel_rfl) ?_
    go_wp2_with (with_reducible refine wl_ld rfl _ 68 rfl _ rfl ?_)
    have hV4 := hBV4.lt
    have hhd : headIn b = ⟨x0, x1, x2, x3⟩ := HI.out
    have hr := HR.out
    rw [hhd] at hr
    cases hok : headOk ⟨x0, x1, x2, x3⟩ with
    | false =>
      rw [hok, Bool.false_and, if_neg (by decide)] at hr
      subst hr
      refine (HBAD.out V4 hok hx0 hx3).mono ?_
      rintro e V5 ⟨rfl, k5⟩
      have hR5 := hRV4.keep k5 fun h => h
      have hkF := hCV4.trans' k5
      clear HBAD HO HP HG
      go_wp2_with fail
      go_quiet (fail)
      go_wp2_with (with_reducible refine wl_stAgg rfl _ _ _ rfl _ _ rfl rfl ?_)
      have hR6 := hR5.keep ((Keep.refl No V5).drewN nq) fun h => h
      refine rg_stAgg hR6 (by kernel_rfl) (by rfl) (by simp [Value.oneCell']) ?_
      intro w3 hB3 hk3 _
      go_wp2_with fail
      refine ret_blk_tmp rfl rfl hB3 Tryz.underlying68 rfl (by kernel_rfl) rfl ?_
      exact ⟨rfl, (hkF.trans' ((Keep.refl No V5).drewN nq)).trans hk3 fun j hj e => by have e2 : j = w.heap.size := e; omega⟩
    | true =>
      rw [hok, Bool.true_and] at hr
      refine (HO.out V4 hok hx1 hx2).mono ?_
      rintro e V5 ⟨v5, rfl, h5, k5⟩
      have hR5 := hRV4.keep k5 fun h => h
      have hB5 := hBV4.keep k5 fun h => h
      have hkF := hCV4.trans' k5
      have hc1' := fun m => conv_str (w := V5.drewN m) (Sl.keep (FlO.bts' h5) ((Keep.refl No V5).drewN m) fun _ _ _ h => h)
      have hc2' := fun m => conv_str (w := V5.drewN m) (HP.out _ (hkF.trans' ((Keep.refl No V5).drewN m)))
      obtain ⟨a5, n5, c5, rfl⟩ : ∃ a n c, v5 = .slice a n c := by
        obtain ⟨a, c, e, _⟩ := h5.fl.shape
        exact ⟨_, _, _, e⟩
      have hn64 : (64 : Int) ≤ (n : Int) := hz
      clear HBAD HO HP HG h5
      by_cases heq : headB ⟨x0, x1, x2, x3⟩ = b.take 64
      · rw [decide_eq_true heq, if_pos rfl] at hr
        subst hr
        rw [← heq] at hc2'
        generalize (⟨(headB ⟨x0, x1, x2, x3⟩).toArray⟩ : ByteArray) = s1 at *
        clear heq
        go_wp2_with fail
        go_quiet (fail)
        go_wp2_with (first | (with_reducible refine wl_ld rfl _ 68 rfl _ rfl ?_) | (with_reducible refine wl_stAgg rfl _ _ _ rfl _ _ rfl rfl ?_))
        have hB6 := hB5.keep ((Keep.refl No V5).drewN nq) fun h => h
        have hR6 := hR5.keep ((Keep.refl No V5).drewN nq) fun h => h
        refine rg_ld hB6 Tryz.underlying68 rfl (by kernel_rfl) ?_
        go_wp2_with (with_reducible refine wl_stAgg rfl _ _ _ rfl _ _ rfl rfl ?_)
        refine rg_stAgg hR6 (by kernel_rfl) (by rfl) (by simp [Value.oneCell']) ?_
        intro w3 hB3 hk3 _
        go_wp2_with fail
        refine ret_blk_tmp rfl rfl hB3 Tryz.underlying68 rfl (by kernel_rfl) rfl ?_
        exact ⟨rfl, (hkF.trans' ((Keep.refl No V5).drewN nq)).trans hk3 fun j hj e => by have e2 : j = w.heap.size := e; omega⟩
      · rw [decide_eq_false heq, if_neg (by decide)] at hr
        subst hr
        generalize headB ⟨x0, x1, x2, x3⟩ = l1 at *
        generalize b.take 64 = l2 at *
        have hne : (l1 != l2) = true := by rw [bne_iff_ne]; exact heq
        have hne2 : (l1 == l2) = false := by rw [beq_eq_false_iff_ne]; exact heq
        go_wp2_with fail
        go_quiet (fail)
        go_wp2_with (with_reducible refine wl_stAgg rfl _ _ _ rfl _ _ rfl rfl ?_)
        have hR6 := hR5.keep ((Keep.refl No V5).drewN nq) fun h => h
        refine rg_stAgg hR6 (by kernel_rfl) (by rfl) (by simp [Value.oneCell']) ?_
        intro w3 hB3 hk3 _
        go_wp2_with fail
        refine ret_blk_tmp rfl rfl hB3 Tryz.underlying68 rfl (by kernel_rfl) rfl ?_
        exact ⟨rfl, (hkF.trans' ((Keep.refl No V5).drewN nq)).trans hk3 fun j hj e => by have e2 : j = w.heap.size := e; omega⟩
end
end Go.Proofs.YtbnahidopemkiaaGreat
