/- Chapter 15: the statements' examples. Chapter 15: the units of any program are the document's. Files among the arguments. No condition. -/
import Derived.Test.YtbnahidopemkiaaGreatLawK1
import Derived.Test.YtbnahidopemkiaaGreatBu9d
import Derived.Test.YtbnahidopemkiaaGreatRd
import Derived.Test.YtbnahidopemkiaaGreatCl2
set_option linter.unusedVariables false
set_option linter.unusedSimpArgs false
namespace Go.Proofs.YtbnahidopemkiaaGreat
open Go.RowKit Go.Dm Go.Dm.Oc Go.Dm.Ld
section
variable {A B : Nat → Prop} {w : World} {v : Value}
/-- a row of names -/
theorem strs_blk {g n : Nat} {cs : Array Value} {l : List BS} (h : Blk w g cs 9) (hc : cs.toList = l.flatMap encS) (hn : cs.size = n) (hm : n ≤ 1000) : Fl (fun _ => True) w 1 encS (.slice (some ⟨g, 0, none⟩) n n) l := by
  have hl : l.length = n := by
    have := congrArg List.length hc
    rw [Array.length_toList, hn] at this
    rw [this]
    clear this hc
    induction l with
    | nil => rfl
    | cons a r ih => rw [List.flatMap_cons, List.length_append, ← ih]; exact Nat.add_comm _ _
  have h2 : FlO w g 9 1 encS (.slice (some ⟨g, 0, none⟩) n n) l := by
    unfold FlO
    rw [hl, ← hc]
    exact own_blk h (Nat.le_refl g) (n := n) (size := 1) (by omega) (by unfold maxLen; omega)
  exact h2.fl.mono fun _ _ _ => trivial
/-- the names that units have, cell by cell -/
theorem us_at {ps : List UC} {us : List (BS × Im)} (hv : Fl A w 12 encU v ps) (hu : UsOk B w ps us) {i : Nat} {n : BS} (hi : (us.map (·.1))[i]? = some n) :
    ∃ g off c, v = .slice (some ⟨g, off, none⟩) us.length c ∧ w.cell? ⟨g, off + i * 12, none⟩ = some (.string ⟨n.toArray⟩) ∧ us.length ≤ c ∧ c ≤ maxLen ∧ g < w.heap.size := by
  have hnm := hu.names
  have hlen := hu.1
  rw [← hnm, List.getElem?_map] at hi
  cases hp : ps[i]? with
  | none => rw [hp] at hi; cases hi
  | some p =>
    rw [hp] at hi
    injection hi with hi
    have hi : p.nm = n := hi
    obtain ⟨hlt, hpe⟩ := List.getElem?_eq_some_iff.1 hp
    obtain ⟨g, off, c, ev, _, hgl, _, _, hc⟩ := hv.at encU_len hlt
    obtain ⟨a2, c2, e2, h2, h3⟩ := hv.shape
    rw [e2] at ev
    injection ev with q1 q2 q3
    subst q1 q3
    refine ⟨g, off, c2, by rw [e2, hlen], ?_, by rw [← hlen]; exact h2, h3, hgl⟩
    have h0 := hc 0 (.string ⟨p.nm.toArray⟩) (by rw [hpe]; rfl)
    rw [Nat.add_zero] at h0
    rw [h0, hi]
theorem fok {n b : BS} {x : Value} (h : Bts A w x b) : FileOk (fun _ => True) w (.string ⟨n.toArray⟩, x) (n, b) := ⟨rfl, Sl.mono h fun _ _ _ => trivial⟩
set_option maxRecDepth 100000 in
set_option maxHeartbeats 4000000 in
theorem awake15_any : Calls Tryz.prog 6 #[] w fun e w' => e = .returned (.bool true) ∧ Keep No w w' := by
  go_enter Tryz.func6, Tryz.ntmps6
  go_wp2_with fail
  have hkW1 : Keep No w (w.alloc (.cells #[.string ⟨#[98]⟩, .string ⟨#[99]⟩] 9)) := (Keep.refl _ _).alloc _
  have hBW1 : Blk (w.alloc (.cells #[.string ⟨#[98]⟩, .string ⟨#[99]⟩] 9)) w.heap.size #[.string ⟨#[98]⟩, .string ⟨#[99]⟩] 9 := Blk.new _ _ _
  have hzW1 : (w.alloc (.cells #[.string ⟨#[98]⟩, .string ⟨#[99]⟩] 9)).heap.size = w.heap.size + 1 := World.size_alloc _ _
  generalize w.alloc (.cells #[.string ⟨#[98]⟩, .string ⟨#[99]⟩] 9) = W1 at *
  have hl1 := lib15_any (w := W1) 2 [[98], [99]] (strs_blk hBW1 rfl rfl (by decide)) (by decide) (by decide)
  refine hl1.mono ?_
  clear hl1
  rintro e w2 ⟨v2, rfl, h2, k2⟩
  have hB2 := FlO.bts h2
  have hkA := hkW1.trans' k2
  obtain ⟨b2, hb2⟩ : ∃ b, b = (buildM (libSp 2 [[98], [99]] [1])).2 := ⟨_, rfl⟩
  rw [← hb2] at hB2
  have HB2 := Lib.hid hb2
  obtain ⟨a2, n2, c2, rfl⟩ := FlO.sh h2
  clear h2 k2 hkW1 hBW1 hzW1 hb2
  go_wp2_with fail
  have hkW3 : Keep No w2 (w2.alloc (.cells #[.string ⟨#[99]⟩] 9)) := (Keep.refl _ _).alloc _
  have hBW3 : Blk (w2.alloc (.cells #[.string ⟨#[99]⟩] 9)) w2.heap.size #[.string ⟨#[99]⟩] 9 := Blk.new _ _ _
  have hzW3 : (w2.alloc (.cells #[.string ⟨#[99]⟩] 9)).heap.size = w2.heap.size + 1 := World.size_alloc _ _
  generalize w2.alloc (.cells #[.string ⟨#[99]⟩] 9) = W3 at *
  have hl1 := lib15_any (w := W3) 3 [[99]] (strs_blk hBW3 rfl rfl (by decide)) (by decide) (by decide)
  refine hl1.mono ?_
  clear hl1
  rintro e w4 ⟨v4, rfl, h4, k4⟩
  have hB4 := FlO.bts h4
  have hk24 := hkW3.trans' k4
  replace hB2 := Sl.keep hB2 hk24 fun _ _ _ h => h
  replace hkA := hkA.trans' hk24
  obtain ⟨b4, hb4⟩ : ∃ b, b = (buildM (libSp 3 [[99]] [1])).2 := ⟨_, rfl⟩
  rw [← hb4] at hB4
  have HB4 := Lib.hid hb4
  obtain ⟨a4, n4, c4, rfl⟩ := FlO.sh h4
  clear h4 k4 hkW3 hBW3 hzW3 hk24 hb4
  go_wp2_with fail
  have hl1 := lib15_any (w := w4) (v := .slice none 0 0) (A := fun _ => True) 3 [] Fl.nil (by decide) (by decide)
  refine hl1.mono ?_
  clear hl1
  rintro e w5 ⟨v5, rfl, h5, k5⟩
  have hB5 := FlO.bts h5
  replace hB2 := Sl.keep hB2 k5 fun _ _ _ h => h
  replace hB4 := Sl.keep hB4 k5 fun _ _ _ h => h
  replace hkA := hkA.trans' k5
  obtain ⟨b5, hb5⟩ : ∃ b, b = (buildM (libSp 3 [] [1])).2 := ⟨_, rfl⟩
  rw [← hb5] at hB5
  have HB5 := Lib.hid hb5
  obtain ⟨a5, n5, c5, rfl⟩ := FlO.sh h5
  clear h5 k5 hb5
  go_wp2_with fail
  have hkW6 : Keep No w5 (w5.alloc (.cells #[.string ⟨#[97]⟩, .slice a2 n2 c2, .string ⟨#[98]⟩, .slice a4 n4 c4, .string ⟨#[99]⟩, .slice a5 n5 c5] 26)) := (Keep.refl _ _).alloc _
  have hBW6 : Blk (w5.alloc (.cells #[.string ⟨#[97]⟩, .slice a2 n2 c2, .string ⟨#[98]⟩, .slice a4 n4 c4, .string ⟨#[99]⟩, .slice a5 n5 c5] 26)) w5.heap.size #[.string ⟨#[97]⟩, .slice a2 n2 c2, .string ⟨#[98]⟩, .slice a4 n4 c4, .string ⟨#[99]⟩, .slice a5 n5 c5] 26 := Blk.new _ _ _
  have hzW6 : (w5.alloc (.cells #[.string ⟨#[97]⟩, .slice a2 n2 c2, .string ⟨#[98]⟩, .slice a4 n4 c4, .string ⟨#[99]⟩, .slice a5 n5 c5] 26)).heap.size = w5.heap.size + 1 := World.size_alloc _ _
  generalize w5.alloc (.cells #[.string ⟨#[97]⟩, .slice a2 n2 c2, .string ⟨#[98]⟩, .slice a4 n4 c4, .string ⟨#[99]⟩, .slice a5 n5 c5] 26) = W6 at *
  have hf : FlO W6 w5.heap.size 26 2 encP (.slice (some ⟨w5.heap.size, 0, none⟩) 3 3) [(.string ⟨#[97]⟩, .slice a2 n2 c2), (.string ⟨#[98]⟩, .slice a4 n4 c4), (.string ⟨#[99]⟩, .slice a5 n5 c5)] :=
    own_blk hBW6 (Nat.le_refl _) (n := 3) (size := 2) rfl (by unfold maxLen; omega)
  have hor := clorder_any (w := W6) [97] (by decide) (fir_own (fs := [([97], b2), ([98], b4), ([99], b5)]) hf rfl
      (fir_one (fok (n := [97]) (Sl.keep hB2 hkW6 fun _ _ _ h => h)) (fir_one (fok (n := [98]) (Sl.keep hB4 hkW6 fun _ _ _ h => h)) (fir_one (fok (n := [99]) (Sl.keep hB5 hkW6 fun _ _ _ h => h)) fir_no))))
    (fun f hf => by
      simp only [List.mem_cons, List.not_mem_nil, or_false] at hf
      rcases hf with rfl | rfl | rfl
      · show b2.length ≤ _; rw [HB2.out]; exact Nat.le_trans (buildM_le _) (by decide)
      · show b4.length ≤ _; rw [HB4.out]; exact Nat.le_trans (buildM_le _) (by decide)
      · show b5.length ≤ _; rw [HB5.out]; exact Nat.le_trans (buildM_le _) (by decide))
  have ho := aw_order
  unfold fA fB fC at ho
  rw [← HB2.out, ← HB4.out, ← HB5.out] at ho
  generalize orderM [97] [([97], b2), ([98], b4), ([99], b5)] = o at *
  obtain ⟨oe, ol⟩ := o
  obtain ⟨ho1, ho2⟩ := ho
  dsimp only at ho1 ho2
  subst ho1
  replace hkA := hkA.trans' hkW6
  clear hf hB2 hB4 hB5 hkW6 hBW6 hzW6 HB2 HB4 HB5
  refine hor.mono ?_
  clear hor
  rintro e w7 ⟨vo, ps, rfl, hvo, hus, k7⟩
  replace hkA := hkA.trans' k7
  clear k7
  have hl3 : ol.length = 3 := by rw [← List.length_map (f := (·.1)), ho2]; rfl
  obtain ⟨g, off, c, rfl, q1, _, _, hg⟩ := us_at hvo hus (i := 1) (n := [98]) (by rw [ho2]; rfl)
  obtain ⟨g', off', c', ev, q2, _, _, _⟩ := us_at hvo hus (i := 2) (n := [99]) (by rw [ho2]; rfl)
  injection ev with e1 e2 e3
  injection e1 with e1
  injection e1 with e4 e5
  subst e4 e5
  rw [hl3]
  clear hvo hus ho2 hl3 e2 e3
  rw [Nat.one_mul] at q1
  rw [show 2 * 12 = 24 from rfl] at q2
  go_wp2_with fail
  have hkW8 : Keep No w7 (w7.alloc (.cells #[.string ⟨#[98]⟩] 9)) := (Keep.refl _ _).alloc _
  have hBW8 : Blk (w7.alloc (.cells #[.string ⟨#[98]⟩] 9)) w7.heap.size #[.string ⟨#[98]⟩] 9 := Blk.new _ _ _
  have hzW8 : (w7.alloc (.cells #[.string ⟨#[98]⟩] 9)).heap.size = w7.heap.size + 1 := World.size_alloc _ _
  generalize w7.alloc (.cells #[.string ⟨#[98]⟩] 9) = W8 at *
  have hl1 := lib15_any (w := W8) 2 [[98]] (strs_blk hBW8 rfl rfl (by decide)) (by decide) (by decide)
  refine hl1.mono ?_
  clear hl1
  rintro e w9 ⟨v9, rfl, h9, k9⟩
  have hB9 := FlO.bts h9
  have hk79 := hkW8.trans' k9
  obtain ⟨b9, hb9⟩ : ∃ b, b = (buildM (libSp 2 [[98]] [1])).2 := ⟨_, rfl⟩
  rw [← hb9] at hB9
  have HB9 := Lib.hid hb9
  obtain ⟨a9, n9, c9, rfl⟩ := FlO.sh h9
  clear h9 k9 hkW8 hBW8 hzW8 hb9
  go_wp2_with fail
  have hkW10 : Keep No w9 (w9.alloc (.cells #[.string ⟨#[98]⟩] 9)) := (Keep.refl _ _).alloc _
  have hBW10 : Blk (w9.alloc (.cells #[.string ⟨#[98]⟩] 9)) w9.heap.size #[.string ⟨#[98]⟩] 9 := Blk.new _ _ _
  have hzW10 : (w9.alloc (.cells #[.string ⟨#[98]⟩] 9)).heap.size = w9.heap.size + 1 := World.size_alloc _ _
  generalize w9.alloc (.cells #[.string ⟨#[98]⟩] 9) = W10 at *
  have hl1 := lib15_any (w := W10) 3 [[98]] (strs_blk hBW10 rfl rfl (by decide)) (by decide) (by decide)
  refine hl1.mono ?_
  clear hl1
  rintro e w11 ⟨v11, rfl, h11, k11⟩
  have hB11 := FlO.bts h11
  have hk911 := hkW10.trans' k11
  replace hB9 := Sl.keep hB9 hk911 fun _ _ _ h => h
  replace hk79 := hk79.trans' hk911
  obtain ⟨b11, hb11⟩ : ∃ b, b = (buildM (libSp 3 [[98]] [1])).2 := ⟨_, rfl⟩
  rw [← hb11] at hB11
  have HB11 := Lib.hid hb11
  obtain ⟨a11, n11, c11, rfl⟩ := FlO.sh h11
  clear h11 k11 hkW10 hBW10 hzW10 hk911 hb11
  go_wp2_with fail
  have hkW12 : Keep No w11 (w11.alloc (.cells #[.string ⟨#[97]⟩, .slice a9 n9 c9, .string ⟨#[98]⟩, .slice a11 n11 c11] 26)) := (Keep.refl _ _).alloc _
  have hBW12 : Blk (w11.alloc (.cells #[.string ⟨#[97]⟩, .slice a9 n9 c9, .string ⟨#[98]⟩, .slice a11 n11 c11] 26)) w11.heap.size #[.string ⟨#[97]⟩, .slice a9 n9 c9, .string ⟨#[98]⟩, .slice a11 n11 c11] 26 := Blk.new _ _ _
  have hzW12 : (w11.alloc (.cells #[.string ⟨#[97]⟩, .slice a9 n9 c9, .string ⟨#[98]⟩, .slice a11 n11 c11] 26)).heap.size = w11.heap.size + 1 := World.size_alloc _ _
  generalize w11.alloc (.cells #[.string ⟨#[97]⟩, .slice a9 n9 c9, .string ⟨#[98]⟩, .slice a11 n11 c11] 26) = W12 at *
  have hf : FlO W12 w11.heap.size 26 2 encP (.slice (some ⟨w11.heap.size, 0, none⟩) 2 2) [(.string ⟨#[97]⟩, .slice a9 n9 c9), (.string ⟨#[98]⟩, .slice a11 n11 c11)] :=
    own_blk hBW12 (Nat.le_refl _) (n := 2) (size := 2) rfl (by unfold maxLen; omega)
  have hor := clorder_any (w := W12) [97] (by decide) (fir_own (fs := [([97], b9), ([98], b11)]) hf rfl
      (fir_one (fok (n := [97]) (Sl.keep hB9 hkW12 fun _ _ _ h => h)) (fir_one (fok (n := [98]) (Sl.keep hB11 hkW12 fun _ _ _ h => h)) fir_no)))
    (fun f hf => by
      simp only [List.mem_cons, List.not_mem_nil, or_false] at hf
      rcases hf with rfl | rfl
      · show b9.length ≤ _; rw [HB9.out]; exact Nat.le_trans (buildM_le _) (by decide)
      · show b11.length ≤ _; rw [HB11.out]; exact Nat.le_trans (buildM_le _) (by decide))
  have ho := aw_cycle
  unfold fA2 fB2 at ho
  rw [← HB9.out, ← HB11.out] at ho
  generalize orderM [97] [([97], b9), ([98], b11)] = o at *
  obtain ⟨oe, ol⟩ := o
  dsimp only at ho
  subst ho
  replace hk79 := hk79.trans' hkW12
  clear hf hB9 hB11 hkW12 hBW12 hzW12 HB9 HB11
  refine hor.mono ?_
  clear hor
  rintro e w13 ⟨vo2, ps2, rfl, hvo2, hus2, k13⟩
  replace hk79 := hk79.trans' k13
  obtain ⟨ao2, no2, co2, rfl⟩ : ∃ a n c, vo2 = .slice a n c := by
    obtain ⟨a, c, e, _⟩ := hvo2.shape
    exact ⟨_, _, _, e⟩
  clear k13 hvo2 hus2
  go_wp2_with fail
  have hor := clorder_any (w := w13) [120] (by decide) (fs := []) (FiR.nil (A := fun _ => True)) (fun f hf => by cases hf)
  have ho := aw_missing
  generalize orderM [120] [] = o at *
  obtain ⟨oe, ol⟩ := o
  dsimp only at ho
  subst ho
  refine hor.mono ?_
  clear hor
  rintro e w14 ⟨vo3, ps3, rfl, hvo3, hus3, k14⟩
  obtain ⟨ao3, no3, co3, rfl⟩ : ∃ a n c, vo3 = .slice a n c := by
    obtain ⟨a, c, e, _⟩ := hvo3.shape
    exact ⟨_, _, _, e⟩
  replace hk79 := hk79.trans' k14
  replace q1 := (hk79.cell (p := ⟨g, off + 12, none⟩) hg fun h => h).trans q1
  replace q2 := (hk79.cell (p := ⟨g, off + 24, none⟩) hg fun h => h).trans q2
  replace hkA := hkA.trans' hk79
  clear hvo3 hus3 k14 hk79 hg
  go_wp2_with fail
  go_ret
  exact ⟨rfl, hkA⟩
end
end Go.Proofs.YtbnahidopemkiaaGreat
namespace Go.Proofs.YtbnahidopemkiaaGreat
open Go.RowKit Go.Dm Go.Dm.Oc Go.Dm.Ld
section
variable {A B : Nat → Prop} {w : World} {v : Value} {fs : Fs}
/-- a file of a row, cell by cell -/
theorem fir_at (h : FiR A w v fs) {i : Nat} (hi : i < fs.length) : ∃ g off c, v = .slice (some ⟨g, off, none⟩) fs.length c ∧ fs.length ≤ c ∧ c ≤ maxLen ∧ ∃ a cp, w.cell? ⟨g, off + i * 2 + 1, none⟩ = some (.slice a (fs[i]).2.length cp) := by
  obtain ⟨ps, h1, h2, h3⟩ := h
  obtain ⟨g, off, cap, ev, _, _, q1, q2, hc⟩ := h2.at encP_len (by rw [h1]; exact hi : i < ps.length)
  rw [h1] at ev q1
  have hb := (h3 i _ _ (List.getElem?_eq_getElem (by rw [h1]; exact hi)) (List.getElem?_eq_getElem hi)).2
  obtain ⟨a, cp, e, _, _⟩ := Sl.shape hb
  refine ⟨g, off, cap, ev, q1, q2, a, cp, ?_⟩
  rw [hc 1 _ rfl, e]
theorem fir_shape (h : FiR A w v fs) : ∃ a c, v = .slice a fs.length c ∧ fs.length ≤ c ∧ c ≤ maxLen := by
  obtain ⟨ps, h1, h2, _⟩ := h
  obtain ⟨a, c, e, q1, q2⟩ := h2.shape
  rw [h1] at e q1
  exact ⟨a, c, e, q1, q2⟩
set_option maxRecDepth 100000 in
set_option maxHeartbeats 4000000 in
theorem closureorders_any (root : BS) (hr : root.length ≤ 9223372036854775807) (hf : FiR A w v fs) :
    Calls Tryz.prog 3 #[.string ⟨root.toArray⟩, v] w fun e w' => e = .returned (.bool true) ∧ Keep No w w' := by
  have HF := Lib.hid hf
  obtain ⟨av, cv, rfl, hq1, hq2⟩ := fir_shape hf
  obtain ⟨n, hn⟩ : ∃ n, n = fs.length := ⟨_, rfl⟩
  have HN := Lib.hid hn
  have hib : (fs.length : Int) ≤ 9223372036854775807 := by unfold maxLen at hq2; omega
  rw [← hn] at HF hib ⊢
  have HRT := Lib.hid hr
  obtain ⟨bs, hbs⟩ : ∃ bs : ByteArray, bs = ⟨root.toArray⟩ := ⟨_, rfl⟩
  rw [← hbs]
  have HBS := Lib.hid hbs
  clear hf hq1 hq2 hn hr hbs
  go_enter Tryz.func3, Tryz.ntmps3
  go_wp2_with fail
  refine awake15_any.mono ?_
  rintro e w1 ⟨rfl, hk1⟩
  by_cases h20 : 20 < n
  · have g20 : (20 : Int) < (n : Int) := by omega
    go_wp2_with fail
    go_ret
    exact ⟨rfl, hk1⟩
  · have g20 : (n : Int) ≤ 20 := by omega
    have h0 : Hid (∀ j (h : j < fs.length), j < 0 → (fs[j]).2.length ≤ 3000) := Lib.hid fun j _ h => absurd h (Nat.not_lt_zero _)
    go_wp2_with fail
    go_loopw [6] (fun iv wr => ∃ i : Nat, iv = .int .i64 (i : Int) ∧ i ≤ n ∧ Hid (∀ j (h : j < fs.length), j < i → (fs[j]).2.length ≤ 3000) ∧ w1 = wr) (fun iv _ => n - (intOf iv).toNat)
    case atStart => exact ⟨0, rfl, Nat.zero_le _, h0, rfl⟩
    case round =>
      clear h0
      obtain ⟨i, rfl, hi, HA, rfl⟩ := hrel
      rcases Nat.lt_or_ge i n with hlt | hge
      · have hil : i < fs.length := by rw [← HN.out]; exact hlt
        have hiz : (i : Int) < (n : Int) := by omega
        obtain ⟨g, off, c, ev, _, _, a, cp, hc⟩ := fir_at (HF.out.no hk1) hil
        rw [← HN.out] at ev
        injection ev with e1 e2 e3
        subst e1 e3
        have hst : (fs[i]).2.length ≤ 3000 → ∀ j (h : j < fs.length), j < i + 1 → (fs[j]).2.length ≤ 3000 := fun h j hj hj2 => by
          rcases Nat.lt_or_ge j i with h3 | h3
          · exact HA.out j hj h3
          · obtain rfl : j = i := by omega
            exact h
        generalize (fs[i]).2.length = m at *
        have HST := Lib.hid hst
        clear hst e2 HA
        by_cases hm : 3000 < m
        · have gm : (3000 : Int) < (m : Int) := by omega
          go_wp2_with fail
          go_ret
          exact ⟨rfl, hk1⟩
        · have gm : (m : Int) ≤ 3000 := by omega
          have HA2 := Lib.hid (HST.out (by omega))
          go_wp2_with fail
          go_roundw
          case rel => exact ⟨i + 1, by go_num, hlt, HA2, trivial⟩
          case measure => (simp [intOf]; try omega)
      · obtain rfl : i = n := Nat.le_antisymm hi hge
        have hfl : ∀ f ∈ fs, f.2.length ≤ 3000 := fun f hf => by
          obtain ⟨j, hj, rfl⟩ := List.mem_iff_getElem.1 hf
          exact HA.out j hj (by rw [HN.out]; exact hj)
        have hc1 := clorder_any (w := w1) root HRT.out (HF.out.no hk1) fun f hf => Nat.le_trans (hfl f hf) (by decide)
        have hc2 := fun W (k : Keep No w W) => r15order_any (w := W) root (HF.out.no k) fun f hf => Nat.le_trans (hfl f hf) (by decide)
        rw [← HBS.out] at hc1 hc2
        generalize orderM root fs = om at *
        obtain ⟨oe, us⟩ := om
        dsimp only at hc1 hc2
        have HC2 := Lib.hid hc2
        clear hfl HA hc2
        go_wp2_with fail
        refine hc1.mono ?_
        clear hc1
        rintro e w2 ⟨vo, ps, rfl, h1, hu1, hk2⟩
        obtain ⟨a2, n2, c2, rfl⟩ : ∃ a n c, vo = .slice a n c := by
          obtain ⟨a, c, e, _⟩ := h1.shape
          exact ⟨_, _, _, e⟩
        have hk12 := hk1.trans' hk2
        go_wp2_with fail
        refine (HC2.out w2 hk12).mono ?_
        rintro e w3 ⟨vw, qs, rfl, h2, hu2, hk3⟩
        obtain ⟨a3, n3, c3, rfl⟩ : ∃ a n c, vw = .slice a n c := by
          obtain ⟨a, c, e, _⟩ := h2.shape
          exact ⟨_, _, _, e⟩
        have h2' := h2.mono (B := fun k => w2.heap.size ≤ k ∨ A k) fun _ _ h => .inl h
        have hsm := same15_any us (h1.no hk3) (hu1.keep hk3 fun _ _ _ h => h) h2' hu2
        have hk13 := hk12.trans' hk3
        dsimp only
        clear h1 hu1 h2 hu2 hk2 hk12 hk3 HC2 h2'
        go_wp2_with fail
        refine hsm.mono ?_
        clear hsm
        rintro e w4 ⟨rfl, hk4⟩
        go_wp2_with fail
        go_ret
        exact ⟨rfl, hk13.trans' hk4⟩
end
end Go.Proofs.YtbnahidopemkiaaGreat
namespace Go.Proofs.YtbnahidopemkiaaGreat
open Go.RowKit Go.Dm Go.Dm.Oc Go.Dm.Ld
@[reducible] def FileS : Sh := .pair .str (.pair (.slice .u8) .unit)
section
variable {A B : Nat → Prop} {w : World} {v : Value}
theorem rd_bytes {x : Value} {b : List UInt8} (h : Rd A w (.slice .u8) [x] b) : Bts A w x b := by
  obtain ⟨v2, css, e, h1, h2, h3⟩ := h
  injection e with e
  subst e
  have hf : css.flatten = b.map bv := by
    clear h1
    induction css generalizing b with
    | nil => rw [List.length_nil] at h2; rw [List.length_eq_zero_iff.1 h2.symm]; rfl
    | cons c r ih =>
      cases b with
      | nil => rw [List.length_cons, List.length_nil] at h2; omega
      | cons y q =>
        have h0 : c = [bv y] := h3 0 c y rfl rfl
        rw [List.flatten_cons, h0, ih (by simpa using h2) fun i c y hc hy => h3 (i + 1) c y hc hy]
        rfl
  rw [hf] at h1
  exact h1
theorem rd_file {c : List Value} {y : FileS.Ty} (h : Rd A w FileS c y) : ∃ p : Value × Value, c = encP p ∧ FileOk A w p (y.1, y.2.1) := by
  obtain ⟨y1, y2, y3⟩ := y
  obtain ⟨c1, c2, rfl, ⟨rfl, _⟩, c3, c4, rfl, h2, rfl⟩ := h
  obtain ⟨x, css, rfl, h3⟩ := h2
  exact ⟨(_, x), rfl, rfl, rd_bytes ⟨x, css, rfl, h3⟩⟩
theorem rd_files {xs : List FileS.Ty} (h : Rd A w (.slice FileS) [v] xs) : FiR A w v (xs.map fun y => (y.1, y.2.1)) := by
  obtain ⟨v2, css, e, h1, h2, h3⟩ := h
  injection e with e
  subst e
  have hc : ∀ (i : Nat) (hi : i < css.length) (hx : i < xs.length), ∃ p : Value × Value, css[i] = encP p ∧ FileOk A w p (xs[i].1, xs[i].2.1) := fun i hi hx => rd_file (h3 i _ _ (List.getElem?_eq_getElem hi) (List.getElem?_eq_getElem hx))
  have hps : ∀ (i : Nat) (hi : i < css.length) (hx : i < xs.length), css[i] = encP (css[i].getD 0 undef, css[i].getD 1 undef) ∧ FileOk A w (css[i].getD 0 undef, css[i].getD 1 undef) (xs[i].1, xs[i].2.1) := fun i hi hx => by
    obtain ⟨p, e1, e2⟩ := hc i hi hx
    rw [e1]
    exact ⟨rfl, e2⟩
  have hm : css = (css.map fun c => (c.getD 0 undef, c.getD 1 undef)).map encP := by
    refine List.ext_getElem (by simp) fun i i1 i2 => ?_
    rw [List.getElem_map, List.getElem_map]
    exact (hps i i1 (by omega)).1
  refine ⟨css.map fun c => (c.getD 0 undef, c.getD 1 undef), by rw [List.length_map, List.length_map, h2], ?_, fun i p f hp hf => ?_⟩
  · unfold Fl
    rw [List.length_map, h2, List.flatMap_def, ← hm]
    exact h1
  · obtain ⟨i1, e1⟩ := List.getElem?_eq_some_iff.1 hp
    obtain ⟨i2, e2⟩ := List.getElem?_eq_some_iff.1 hf
    rw [List.length_map] at i1 i2
    rw [List.getElem_map] at e1 e2
    subst e1 e2
    exact (hps i i1 i2).2
end
end Go.Proofs.YtbnahidopemkiaaGreat
