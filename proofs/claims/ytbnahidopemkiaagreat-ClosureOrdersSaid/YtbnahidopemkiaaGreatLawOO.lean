/- Chapter 15: the units of any program are the document's. No condition. -/
import Derived.Test.YtbnahidopemkiaaGreatOgC
import Derived.Test.YtbnahidopemkiaaGreatLawK2
set_option linter.unusedVariables false
set_option linter.unusedSimpArgs false
namespace Go.Proofs.YtbnahidopemkiaaGreat
open Go.RowKit Go.Dm Go.Dm.Oc Go.Dm.Ld
section
variable {A B : Nat → Prop} {w : World} {v : Value} {fs : Fs}
/-- a file of a row, cell by cell -/
theorem fir_at (h : FiR A w v fs) {i : Nat} (hi : i < fs.length) : ∃ g off c, v = .slice (some ⟨g, off, none⟩) fs.length c ∧ fs.length ≤ c ∧ c ≤ maxLen ∧ ∃ a cp, w.cell? ⟨g, off + i * 2 + 1, none⟩ = some (.slice a (fs[i]).2.length cp) := by
  obtain ⟨ps, h1, h2, h3⟩ := h
  obtain ⟨g, off, cap, ev, _, _, q1, q2, hc⟩ := h2.at encP_len (by rw [h1]; exact hi : i < ps.length)
  rw [h1] at ev q1
  have hb := (h3 i _ _ (List.getElem?_eq_getElem (by rw [h1]; exact hi)) (List.getElem?_eq_getElem hi)).2
  obtain ⟨a, cp, e, _, _⟩ := Sl.shape hb
  refine ⟨g, off, cap, ev, q1, q2, a, cp, ?_⟩
  rw [hc 1 _ rfl, e]
theorem fir_shape (h : FiR A w v fs) : ∃ a c, v = .slice a fs.length c ∧ fs.length ≤ c ∧ c ≤ maxLen := by
  obtain ⟨ps, h1, h2, _⟩ := h
  obtain ⟨a, c, e, q1, q2⟩ := h2.shape
  rw [h1] at e q1
  exact ⟨a, c, e, q1, q2⟩
set_option maxRecDepth 100000 in
set_option maxHeartbeats 4000000 in
theorem closureorders_any (root : BS) (hr : root.length ≤ 9223372036854775807) (hf : FiR A w v fs) :
    Calls Tryz.prog 3 #[.string ⟨root.toArray⟩, v] w fun e w' => e = .returned (.bool true) ∧ Keep No w w' := by
  have HF := Lib.hid hf
  obtain ⟨av, cv, rfl, hq1, hq2⟩ := fir_shape hf
  obtain ⟨n, hn⟩ : ∃ n, n = fs.length := ⟨_, rfl⟩
  have HN := Lib.hid hn
  have hib : (fs.length : Int) ≤ 9223372036854775807 := by unfold maxLen at hq2; omega
  rw [← hn] at HF hib ⊢
  have HRT := Lib.hid hr
  obtain ⟨bs, hbs⟩ : ∃ bs : ByteArray, bs = ⟨root.toArray⟩ := ⟨_, rfl⟩
  rw [← hbs]
  have HBS := Lib.hid hbs
  clear hf hq1 hq2 hn hr hbs
  go_enter Tryz.func3, Tryz.ntmps3
  go_wp2_with fail
  refine awake15_any.mono ?_
  rintro e w1 ⟨rfl, hk1⟩
  by_cases h20 : 20 < n
  · have g20 : (20 : Int) < (n : Int) := by omega
    go_wp2_with fail
    go_ret
    exact ⟨rfl, hk1⟩
  · have g20 : (n : Int) ≤ 20 := by omega
    have h0 : Hid (∀ j (h : j < fs.length), j < 0 → (fs[j]).2.length ≤ 3000) := Lib.hid fun j _ h => absurd h (Nat.not_lt_zero _)
    go_wp2_with fail
    go_loopw [6] (fun iv wr => ∃ i : Nat, iv = .int .i64 (i : Int) ∧ i ≤ n ∧ Hid (∀ j (h : j < fs.length), j < i → (fs[j]).2.length ≤ 3000) ∧ w1 = wr) (fun iv _ => n - (intOf iv).toNat)
    case atStart => exact ⟨0, rfl, Nat.zero_le _, h0, rfl⟩
    case round =>
      clear h0
      obtain ⟨i, rfl, hi, HA, rfl⟩ := hrel
      rcases Nat.lt_or_ge i n with hlt | hge
      · have hil : i < fs.length := by rw [← HN.out]; exact hlt
        have hiz : (i : Int) < (n : Int) := by omega
        obtain ⟨g, off, c, ev, _, _, a, cp, hc⟩ := fir_at (HF.out.no hk1) hil
        rw [← HN.out] at ev
        injection ev with e1 e2 e3
        subst e1 e3
        have hst : (fs[i]).2.length ≤ 3000 → ∀ j (h : j < fs.length), j < i + 1 → (fs[j]).2.length ≤ 3000 := fun h j hj hj2 => by
          rcases Nat.lt_or_ge j i with h3 | h3
          · exact HA.out j hj h3
          · obtain rfl : j = i := by omega
            exact h
        generalize (fs[i]).2.length = m at *
        have HST := Lib.hid hst
        clear hst e2 HA
        by_cases hm : 3000 < m
        · have gm : (3000 : Int) < (m : Int) := by omega
          go_wp2_with fail
          go_ret
          exact ⟨rfl, hk1⟩
        · have gm : (m : Int) ≤ 3000 := by omega
          have HA2 := Lib.hid (HST.out (by omega))
          go_wp2_with fail
          go_roundw
          case rel => exact ⟨i + 1, by go_num, hlt, HA2, trivial⟩
          case measure => (simp [intOf]; try omega)
      · obtain rfl : i = n := Nat.le_antisymm hi hge
        have hfl : ∀ f ∈ fs, f.2.length ≤ 3000 := fun f hf => by
          obtain ⟨j, hj, rfl⟩ := List.mem_iff_getElem.1 hf
          exact HA.out j hj (by rw [HN.out]; exact hj)
        have hc1 := clorder_any (w := w1) root HRT.out (HF.out.no hk1) fun f hf => Nat.le_trans (hfl f hf) (by decide)
        have hc2 := fun W (k : Keep No w W) => r15order_any (w := W) root (HF.out.no k) fun f hf => Nat.le_trans (hfl f hf) (by decide)
        rw [← HBS.out] at hc1 hc2
        generalize orderM root fs = om at *
        obtain ⟨oe, us⟩ := om
        dsimp only at hc1 hc2
        have HC2 := Lib.hid hc2
        clear hfl HA hc2
        go_wp2_with fail
        refine hc1.mono ?_
        clear hc1
        rintro e w2 ⟨vo, ps, rfl, h1, hu1, hk2⟩
        obtain ⟨a2, n2, c2, rfl⟩ : ∃ a n c, vo = .slice a n c := by
          obtain ⟨a, c, e, _⟩ := h1.shape
          exact ⟨_, _, _, e⟩
        have hk12 := hk1.trans' hk2
        go_wp2_with fail
        refine (HC2.out w2 hk12).mono ?_
        rintro e w3 ⟨vw, qs, rfl, h2, hu2, hk3⟩
        obtain ⟨a3, n3, c3, rfl⟩ : ∃ a n c, vw = .slice a n c := by
          obtain ⟨a, c, e, _⟩ := h2.shape
          exact ⟨_, _, _, e⟩
        have h2' := h2.mono (B := fun k => w2.heap.size ≤ k ∨ A k) fun _ _ h => .inl h
        have hsm := same15_any us (h1.no hk3) (hu1.keep hk3 fun _ _ _ h => h) h2' hu2
        have hk13 := hk12.trans' hk3
        dsimp only
        clear h1 hu1 h2 hu2 hk2 hk12 hk3 HC2 h2'
        go_wp2_with fail
        refine hsm.mono ?_
        clear hsm
        rintro e w4 ⟨rfl, hk4⟩
        go_wp2_with fail
        go_ret
        exact ⟨rfl, hk13.trans' hk4⟩
end
end Go.Proofs.YtbnahidopemkiaaGreat
