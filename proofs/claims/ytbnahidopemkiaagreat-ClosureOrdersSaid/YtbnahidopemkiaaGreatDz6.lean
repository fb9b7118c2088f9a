/- The document's segments: Table. No condition. -/
import Derived.Test.YtbnahidopemkiaaGreatDz5
import Derived.Test.YtbnahidopemkiaaGreatSy2
set_option linter.unusedVariables false
set_option linter.unusedSimpArgs false
namespace Go.Dm.Oc
open Go
theorem getX_take {b : List UInt8} {at_ k n : Nat} (hk : k = 1 ∨ k = 2 ∨ k = 4 ∨ k = 8) (h : at_ + k ≤ n) (hn : n ≤ b.length) : getX (b.take n) at_ (k : Int) = getX b at_ (k : Int) := by
  rw [getX_in hk (by rw [List.length_take]; omega), getX_in hk (by omega), List.drop_take, List.take_take, Nat.min_eq_left (by omega)]
end Go.Dm.Oc
namespace Go.Dm.Ld
open Go Go.Dm.Oc
theorem sgGet_take {b : BS} (h : 56 ≤ b.length) : sgGet (b.take 56) = sgGet b := by
  have e (a : Nat) (ha : a + 8 ≤ 56) : getX (b.take 56) a 8 = getX b a 8 := getX_take (k := 8) (by omega) ha h
  have hl1 : (b.take 56).length = 56 := by rw [List.length_take]; omega
  unfold sgGet sgIn
  rw [e 0 (by decide), e 8 (by decide), e 16 (by decide), e 24 (by decide), e 32 (by decide), e 40 (by decide), e 48 (by decide), hl1, if_neg (show ¬ (56 : Nat) < 56 by decide), if_neg (show ¬ b.length < 56 by omega)]
end Go.Dm.Ld
namespace Go.Proofs.YtbnahidopemkiaaGreat
open Go.RowKit Go.Dm Go.Dm.Oc Go.Dm.Ld
section
variable {A : Nat → Prop} {w : World} {v : Value}
set_option maxRecDepth 100000 in
set_option maxHeartbeats 2000000 in
theorem r04tab_any (b : BS) (at_ n : Nat) (hb : Bts A w v b) (hl : b.length ≤ 1000000000) (ha : at_ < 18446744073709551616) (hn : n < 65536) :
    Calls Tryz.prog 62 #[v, .int .u64 (at_ : Int), .int .i64 (n : Int)] w fun e w' => ∃ v', e = .returned (.tuple #[v', .int .i64 ((sgTab b at_ n).1 : Nat)]) ∧ FlO w' w.heap.size 113 7 encSg v' (sgTab b at_ n).2 ∧ Keep No w w' := by
  have hcut := r01cut_any (w := w) b at_ (n * 56) hb hl ha (by omega)
  obtain ⟨ao, co, rfl, hc1, hc2⟩ := hb.shape
  obtain ⟨r, hr⟩ : ∃ r, r = sgTab b at_ n := ⟨_, rfl⟩
  rw [← hr]
  unfold sgTab at hr
  rcases Nat.lt_or_ge 64 n with h64 | h64
  · rw [if_pos h64] at hr
    subst hr
    have g1 : (64 : Int) < (n : Int) := by omega
    have g2 : (0 : Int) ≤ (n : Int) := by omega
    clear hcut hb
    go_enter Tryz.func62, Tryz.ntmps62
    go_wp2_with fail
    go_ret2
    exact ⟨_, rfl, FlO.nil, Keep.refl _ _⟩
  · rw [if_neg (by omega)] at hr
    have g1 : (n : Int) ≤ 64 := by omega
    have g2 : (0 : Int) ≤ (n : Int) := by omega
    have hm : 56 * (n : Int) = ((n * 56 : Nat) : Int) := by omega
    obtain ⟨nn, hnn⟩ : ∃ q, q = n * 56 := ⟨_, rfl⟩
    rw [← hnn] at hm hcut hr
    have hlen : (cutM b at_ nn).1 = 0 → (cutM b at_ nn).2.length = nn := fun h => by
      unfold cutM at h ⊢
      split at h
      · rename_i h1
        rw [if_pos h1, List.length_take, List.length_drop]
        unfold hasB at h1
        simp only [Bool.and_eq_true, decide_eq_true_eq] at h1
        omega
      · cases h
    have HR := Lib.hid hr
    have HNN := Lib.hid hnn
    clear hr hb hnn
    have hw : IntKind.u64.wrap (nn : Int) = (nn : Int) := by rw [IntKind.wrap_u64]; have := HNN.out; omega
    generalize b.length = bl at *
    generalize cutM b at_ nn = c at *
    obtain ⟨ce, cb⟩ := c
    dsimp only at hcut hlen HR
    go_enter Tryz.func62, Tryz.ntmps62
    go_wp2_with fail
    refine hcut.mono ?_
    clear hcut
    rintro e w1 ⟨v1, rfl, h1, k1⟩
    obtain ⟨a1, c1, e1, hcc1, hcc2⟩ := h1.fl.shape
    subst e1
    by_cases hce : ce = 0
    · subst hce
      rw [if_pos rfl] at HR
      have hcl := hlen rfl
      have hB1 : Bts (fun _ => True) w1 (.slice a1 cb.length c1) cb := by
        have h2 : Fl (fun _ => True) w1 1 e8 (.slice a1 cb.length c1) cb := h1.fl.mono fun _ _ _ => trivial
        unfold Fl at h2
        rw [e8_map] at h2
        exact h2
      have HB1 := Lib.hid hB1
      have HCL := Lib.hid hcl
      have hO0 : Out w1 w1 113 7 encSg (.slice none 0 0) [] := ⟨FlO.nil, Keep.refl _ _⟩
      have hcc1z : (cb.length : Int) ≤ (c1 : Int) := by omega
      rw [hcl] at hcc1z ⊢
      clear hlen h1 hB1 hcl hcc1
      go_wp2_with fail
      go_loopw [10, 11, 12, 13] (fun ov iv _ _ wr => ∃ (i : Nat) (acc : List Sg), iv = .int .i64 (i : Int) ∧ i ≤ n ∧ acc.length = i ∧ Hid (r = sgGo cb (n - i) i acc) ∧ Out w1 wr 113 7 encSg ov acc) (fun _ iv _ _ _ => n - (intOf iv).toNat)
      case atStart => exact ⟨0, [], rfl, Nat.zero_le _, rfl, HR, hO0⟩
      case round =>
        obtain ⟨i, acc, rfl, hi, hal, HG, hO⟩ := hrel
        clear HR hO0
        generalize wr = wz at *
        have hkz := hO.old (Keep.refl _ _)
        obtain ⟨ax, nx, cx, rfl⟩ := hO.sh
        rcases Nat.lt_or_ge i n with hlt | hge
        · have hiz : (i : Int) < (n : Int) := by omega
          have hbnd : i * 56 + 56 ≤ cb.length := by rw [HCL.out, HNN.out]; omega
          have hp := bts_part (Sl.keep HB1.out hkz fun _ _ _ h => h) (lo := i * 56) (n := 56) hbnd
          have hgd : 56 ≤ (cb.drop (i * 56)).length := by rw [List.length_drop]; omega
          have hget := r04get_any _ hp (by rw [List.length_take]; omega)
          rw [sgGet_take hgd] at hget
          have hg := HG.out
          rw [show n - i = (n - (i + 1)) + 1 from by omega] at hg
          unfold sgGo at hg
          have HG2 := Lib.hid hg
          clear hg HG hp hgd
          generalize sgGet (cb.drop (i * 56)) = q at *
          obtain ⟨qe, qs⟩ := q
          dsimp only at hget HG2
          have m1 : 56 * (i : Int) = ((i * 56 : Nat) : Int) := by omega
          obtain ⟨lo, hlo⟩ : ∃ q, q = i * 56 := ⟨_, rfl⟩
          rw [← hlo] at m1 hget
          have m2 : (lo : Int) + 56 = ((lo + 56 : Nat) : Int) := by omega
          obtain ⟨hi2, hhi⟩ : ∃ q, q = lo + 56 := ⟨_, rfl⟩
          rw [← hhi] at m2
          have s1 : (hi2 : Int) - (lo : Int) = 56 := by omega
          have s2 : (c1 : Int) - (lo : Int) = ((c1 - lo : Nat) : Int) := by omega
          have l1 : (lo : Int) ≤ (hi2 : Int) := by omega
          have l2 : (hi2 : Int) ≤ (c1 : Int) := by have := HNN.out; omega
          have hneq : ¬ c1 = lo := by omega
          have hs1n : hi2 - lo = 56 := by omega
          clear hbnd hlo hhi
          go_wp2_with fail

          refine hget.mono ?_
          clear hget s1 s2 l1 l2 hneq hs1n m1 m2
          rintro e w3 ⟨rfl, k3⟩
          have hO3 := hO.call k3
          have hone : (encSg qs).toArray.all (·.oneCell') = true := by simp [encSg, Value.oneCell']
          go_wp2_with (with_reducible refine wl_stAgg rfl _ _ _ rfl _ _ rfl rfl ?_)
          have hkW4 : Keep No w3 (w3.alloc (.cells #[.int .u32 0, .int .u32 0, .int .u64 0, .int .u64 0, .int .u64 0, .int .u64 0, .int .u64 0] 113)) := (Keep.refl _ _).alloc _
          have hBW4 : Blk (w3.alloc (.cells #[.int .u32 0, .int .u32 0, .int .u64 0, .int .u64 0, .int .u64 0, .int .u64 0, .int .u64 0] 113)) w3.heap.size #[.int .u32 0, .int .u32 0, .int .u64 0, .int .u64 0, .int .u64 0, .int .u64 0, .int .u64 0] 113 := Blk.new _ _ _
          have hzW4 : (w3.alloc (.cells #[.int .u32 0, .int .u32 0, .int .u64 0, .int .u64 0, .int .u64 0, .int .u64 0, .int .u64 0] 113)).heap.size = w3.heap.size + 1 := World.size_alloc _ _
          generalize w3.alloc (.cells #[.int .u32 0, .int .u32 0, .int .u64 0, .int .u64 0, .int .u64 0, .int .u64 0, .int .u64 0] 113) = W4 at *
          refine rg_stAgg hBW4 (by kernel_rfl) (by rfl) hone ?_
          intro w5 hI5 hk5 hz5
          have hk35 : Keep No w3 w5 := hkW4.trans hk5 fun j hj e => by have e2 : j = w3.heap.size := e; omega
          have hO5 := hO3.call hk35
          have hk15 := hkz.trans' (k3.trans' hk35)
          clear hBW4 hkW4 hzW4 hk5 hz5 hO hO3 hone k3 hk35 hkz
          by_cases hqe : qe = 0
          · subst hqe
            have hg := HG2.out
            rw [if_pos rfl] at hg
            have HG3 := Lib.hid hg
            obtain ⟨x0, x1, x2, x3, x4, x5, x6⟩ := qs
            have m0 : w5.cell? ⟨w3.heap.size, 0, none⟩ = some (.int .u32 (x0 : Int)) := hI5.cell 0
            have m1 : w5.cell? ⟨w3.heap.size, 1, none⟩ = some (.int .u32 (x1 : Int)) := hI5.cell 1
            have m2 : w5.cell? ⟨w3.heap.size, 2, none⟩ = some (.int .u64 (x2 : Int)) := hI5.cell 2
            have m3 : w5.cell? ⟨w3.heap.size, 3, none⟩ = some (.int .u64 (x3 : Int)) := hI5.cell 3
            have m4 : w5.cell? ⟨w3.heap.size, 4, none⟩ = some (.int .u64 (x4 : Int)) := hI5.cell 4
            have m5 : w5.cell? ⟨w3.heap.size, 5, none⟩ = some (.int .u64 (x5 : Int)) := hI5.cell 5
            have m6 : w5.cell? ⟨w3.heap.size, 6, none⟩ = some (.int .u64 (x6 : Int)) := hI5.cell 6
            have hll : acc.length ≤ 64 := by omega
            have hal2 : (acc ++ [(⟨x0, x1, x2, x3, x4, x5, x6⟩ : Sg)]).length = i + 1 := by rw [List.length_append, hal]; rfl
            have hsz := hO5.base
            clear hg HG2 hI5 hk15
            go_wp2_with (at_builtin; refine wl_append rfl _ _ _ _ rfl _ _ rfl rfl ?_)
            refine rg_push (P := Tryz.prog) (x := (⟨x0, x1, x2, x3, x4, x5, x6⟩ : Sg)) (cs := #[.int .u32 (x0 : Int), .int .u32 (x1 : Int), .int .u64 (x2 : Int), .int .u64 (x3 : Int), .int .u64 (x4 : Int), .int .u64 (x5 : Int), .int .u64 (x6 : Int)]) _ _ Tryz.underlying56 segT_info (by rfl) (by decide) (by rfl) (by rfl) (encSg_one _) hO5.row (by omega) (by decide) hsz ?_
            intro v13 w13 ho13 hk13 hn13
            have hO13 := hO5.push ho13 hk13
            obtain ⟨a13, n13, c13, rfl⟩ := hO13.sh
            clear m0 m1 m2 m3 m4 m5 m6 ho13 hk13 hn13 hO5 hll hsz
            go_wp2_with fail
            go_roundw
            case rel => exact ⟨i + 1, _, by go_num, hlt, hal2, HG3, hO13⟩
            case measure => simp [intOf]; omega
          · have hr := HG2.out
            rw [if_neg hqe] at hr
            subst hr
            have hq : ((qe : Int) != 0) = true := by rw [bne_iff_ne]; omega
            go_wp2_with fail
            go_ret2
            exact ⟨_, rfl, FlO.nil, k1.trans' hk15⟩
        · obtain rfl : i = n := Nat.le_antisymm hi hge
          have hr := HG.out
          rw [Nat.sub_self] at hr
          unfold sgGo at hr
          subst hr
          go_wp2_with fail
          go_ret2
          exact ⟨_, rfl, own_base hO.row k1.size, k1.trans' hkz⟩
    · rw [if_neg hce] at HR
      have hr := HR.out
      subst hr
      have hq : ((ce : Int) != 0) = true := by rw [bne_iff_ne]; omega
      go_wp2_with fail
      go_ret2
      exact ⟨_, rfl, FlO.nil, k1⟩
end
end Go.Proofs.YtbnahidopemkiaaGreat
