/- Chapter 15: the statements' examples. Symbols and relocations of a built file, read back. What the file of a Spec says: parseM of buildM. Chapter 16: the statements' files; what an order's images are. No condition. -/
import Derived.Test.YtbnahidopemkiaaLawK1
import Derived.Test.YtbnahidopemkiaaBpD
import Derived.Test.YtbnahidopemkiaaLy4
set_option linter.unusedVariables false
set_option linter.unusedSimpArgs false
namespace Go.Proofs.Ytbnahidopemkiaa
open Go.RowKit Go.Dm Go.Dm.Oc Go.Dm.Ld
section
variable {A B : Nat → Prop} {w : World} {v : Value}
/-- a row of names -/
theorem strs_blk {g n : Nat} {cs : Array Value} {l : List BS} (h : Blk w g cs 9) (hc : cs.toList = l.flatMap encS) (hn : cs.size = n) (hm : n ≤ 1000) : Fl (fun _ => True) w 1 encS (.slice (some ⟨g, 0, none⟩) n n) l := by
  have hl : l.length = n := by
    have := congrArg List.length hc
    rw [Array.length_toList, hn] at this
    rw [this]
    clear this hc
    induction l with
    | nil => rfl
    | cons a r ih => rw [List.flatMap_cons, List.length_append, ← ih]; exact Nat.add_comm _ _
  have h2 : FlO w g 9 1 encS (.slice (some ⟨g, 0, none⟩) n n) l := by
    unfold FlO
    rw [hl, ← hc]
    exact own_blk h (Nat.le_refl g) (n := n) (size := 1) (by omega) (by unfold maxLen; omega)
  exact h2.fl.mono fun _ _ _ => trivial
/-- the names that units have, cell by cell -/
theorem us_at {ps : List UC} {us : List (BS × Im)} (hv : Fl A w 12 encU v ps) (hu : UsOk B w ps us) {i : Nat} {n : BS} (hi : (us.map (·.1))[i]? = some n) :
    ∃ g off c, v = .slice (some ⟨g, off, none⟩) us.length c ∧ w.cell? ⟨g, off + i * 12, none⟩ = some (.string ⟨n.toArray⟩) ∧ us.length ≤ c ∧ c ≤ maxLen ∧ g < w.heap.size := by
  have hnm := hu.names
  have hlen := hu.1
  rw [← hnm, List.getElem?_map] at hi
  cases hp : ps[i]? with
  | none => rw [hp] at hi; cases hi
  | some p =>
    rw [hp] at hi
    injection hi with hi
    have hi : p.nm = n := hi
    obtain ⟨hlt, hpe⟩ := List.getElem?_eq_some_iff.1 hp
    obtain ⟨g, off, c, ev, _, hgl, _, _, hc⟩ := hv.at encU_len hlt
    obtain ⟨a2, c2, e2, h2, h3⟩ := hv.shape
    rw [e2] at ev
    injection ev with q1 q2 q3
    subst q1 q3
    refine ⟨g, off, c2, by rw [e2, hlen], ?_, by rw [← hlen]; exact h2, h3, hgl⟩
    have h0 := hc 0 (.string ⟨p.nm.toArray⟩) (by rw [hpe]; rfl)
    rw [Nat.add_zero] at h0
    rw [h0, hi]
theorem fok {n b : BS} {x : Value} (h : Bts A w x b) : FileOk (fun _ => True) w (.string ⟨n.toArray⟩, x) (n, b) := ⟨rfl, Sl.mono h fun _ _ _ => trivial⟩
set_option maxRecDepth 100000 in
set_option maxHeartbeats 4000000 in
theorem awake15_any : Calls Try.prog 10 #[] w fun e w' => e = .returned (.bool true) ∧ Keep No w w' := by
  go_enter Try.func10, Try.ntmps10
  go_wp2_with fail
  have hkW1 : Keep No w (w.alloc (.cells #[.string ⟨#[98]⟩, .string ⟨#[99]⟩] 9)) := (Keep.refl _ _).alloc _
  have hBW1 : Blk (w.alloc (.cells #[.string ⟨#[98]⟩, .string ⟨#[99]⟩] 9)) w.heap.size #[.string ⟨#[98]⟩, .string ⟨#[99]⟩] 9 := Blk.new _ _ _
  have hzW1 : (w.alloc (.cells #[.string ⟨#[98]⟩, .string ⟨#[99]⟩] 9)).heap.size = w.heap.size + 1 := World.size_alloc _ _
  generalize w.alloc (.cells #[.string ⟨#[98]⟩, .string ⟨#[99]⟩] 9) = W1 at *
  have hl1 := lib15_any (w := W1) 2 [[98], [99]] (strs_blk hBW1 rfl rfl (by decide)) (by decide) (by decide)
  refine hl1.mono ?_
  clear hl1
  rintro e w2 ⟨v2, rfl, h2, k2⟩
  have hB2 := FlO.bts h2
  have hkA := hkW1.trans' k2
  obtain ⟨b2, hb2⟩ : ∃ b, b = (buildM (libSp 2 [[98], [99]] [1])).2 := ⟨_, rfl⟩
  rw [← hb2] at hB2
  have HB2 := Lib.hid hb2
  obtain ⟨a2, n2, c2, rfl⟩ := FlO.sh h2
  clear h2 k2 hkW1 hBW1 hzW1 hb2
  go_wp2_with fail
  have hkW3 : Keep No w2 (w2.alloc (.cells #[.string ⟨#[99]⟩] 9)) := (Keep.refl _ _).alloc _
  have hBW3 : Blk (w2.alloc (.cells #[.string ⟨#[99]⟩] 9)) w2.heap.size #[.string ⟨#[99]⟩] 9 := Blk.new _ _ _
  have hzW3 : (w2.alloc (.cells #[.string ⟨#[99]⟩] 9)).heap.size = w2.heap.size + 1 := World.size_alloc _ _
  generalize w2.alloc (.cells #[.string ⟨#[99]⟩] 9) = W3 at *
  have hl1 := lib15_any (w := W3) 3 [[99]] (strs_blk hBW3 rfl rfl (by decide)) (by decide) (by decide)
  refine hl1.mono ?_
  clear hl1
  rintro e w4 ⟨v4, rfl, h4, k4⟩
  have hB4 := FlO.bts h4
  have hk24 := hkW3.trans' k4
  replace hB2 := Sl.keep hB2 hk24 fun _ _ _ h => h
  replace hkA := hkA.trans' hk24
  obtain ⟨b4, hb4⟩ : ∃ b, b = (buildM (libSp 3 [[99]] [1])).2 := ⟨_, rfl⟩
  rw [← hb4] at hB4
  have HB4 := Lib.hid hb4
  obtain ⟨a4, n4, c4, rfl⟩ := FlO.sh h4
  clear h4 k4 hkW3 hBW3 hzW3 hk24 hb4
  go_wp2_with fail
  have hl1 := lib15_any (w := w4) (v := .slice none 0 0) (A := fun _ => True) 3 [] Fl.nil (by decide) (by decide)
  refine hl1.mono ?_
  clear hl1
  rintro e w5 ⟨v5, rfl, h5, k5⟩
  have hB5 := FlO.bts h5
  replace hB2 := Sl.keep hB2 k5 fun _ _ _ h => h
  replace hB4 := Sl.keep hB4 k5 fun _ _ _ h => h
  replace hkA := hkA.trans' k5
  obtain ⟨b5, hb5⟩ : ∃ b, b = (buildM (libSp 3 [] [1])).2 := ⟨_, rfl⟩
  rw [← hb5] at hB5
  have HB5 := Lib.hid hb5
  obtain ⟨a5, n5, c5, rfl⟩ := FlO.sh h5
  clear h5 k5 hb5
  go_wp2_with fail
  have hkW6 : Keep No w5 (w5.alloc (.cells #[.string ⟨#[97]⟩, .slice a2 n2 c2, .string ⟨#[98]⟩, .slice a4 n4 c4, .string ⟨#[99]⟩, .slice a5 n5 c5] 29)) := (Keep.refl _ _).alloc _
  have hBW6 : Blk (w5.alloc (.cells #[.string ⟨#[97]⟩, .slice a2 n2 c2, .string ⟨#[98]⟩, .slice a4 n4 c4, .string ⟨#[99]⟩, .slice a5 n5 c5] 29)) w5.heap.size #[.string ⟨#[97]⟩, .slice a2 n2 c2, .string ⟨#[98]⟩, .slice a4 n4 c4, .string ⟨#[99]⟩, .slice a5 n5 c5] 29 := Blk.new _ _ _
  have hzW6 : (w5.alloc (.cells #[.string ⟨#[97]⟩, .slice a2 n2 c2, .string ⟨#[98]⟩, .slice a4 n4 c4, .string ⟨#[99]⟩, .slice a5 n5 c5] 29)).heap.size = w5.heap.size + 1 := World.size_alloc _ _
  generalize w5.alloc (.cells #[.string ⟨#[97]⟩, .slice a2 n2 c2, .string ⟨#[98]⟩, .slice a4 n4 c4, .string ⟨#[99]⟩, .slice a5 n5 c5] 29) = W6 at *
  have hf : FlO W6 w5.heap.size 29 2 encP (.slice (some ⟨w5.heap.size, 0, none⟩) 3 3) [(.string ⟨#[97]⟩, .slice a2 n2 c2), (.string ⟨#[98]⟩, .slice a4 n4 c4), (.string ⟨#[99]⟩, .slice a5 n5 c5)] :=
    own_blk hBW6 (Nat.le_refl _) (n := 3) (size := 2) rfl (by unfold maxLen; omega)
  have hor := clorder_any (w := W6) [97] (by decide) (fir_own (fs := [([97], b2), ([98], b4), ([99], b5)]) hf rfl
      (fir_one (fok (n := [97]) (Sl.keep hB2 hkW6 fun _ _ _ h => h)) (fir_one (fok (n := [98]) (Sl.keep hB4 hkW6 fun _ _ _ h => h)) (fir_one (fok (n := [99]) (Sl.keep hB5 hkW6 fun _ _ _ h => h)) fir_no))))
    (fun f hf => by
      simp only [List.mem_cons, List.not_mem_nil, or_false] at hf
      rcases hf with rfl | rfl | rfl
      · show b2.length ≤ _; rw [HB2.out]; exact Nat.le_trans (buildM_le _) (by decide)
      · show b4.length ≤ _; rw [HB4.out]; exact Nat.le_trans (buildM_le _) (by decide)
      · show b5.length ≤ _; rw [HB5.out]; exact Nat.le_trans (buildM_le _) (by decide))
  have ho := aw_order
  unfold fA fB fC at ho
  rw [← HB2.out, ← HB4.out, ← HB5.out] at ho
  generalize orderM [97] [([97], b2), ([98], b4), ([99], b5)] = o at *
  obtain ⟨oe, ol⟩ := o
  obtain ⟨ho1, ho2⟩ := ho
  dsimp only at ho1 ho2
  subst ho1
  replace hkA := hkA.trans' hkW6
  clear hf hB2 hB4 hB5 hkW6 hBW6 hzW6 HB2 HB4 HB5
  refine hor.mono ?_
  clear hor
  rintro e w7 ⟨vo, ps, rfl, hvo, hus, k7⟩
  replace hkA := hkA.trans' k7
  clear k7
  have hl3 : ol.length = 3 := by rw [← List.length_map (f := (·.1)), ho2]; rfl
  obtain ⟨g, off, c, rfl, q1, _, _, hg⟩ := us_at hvo hus (i := 1) (n := [98]) (by rw [ho2]; rfl)
  obtain ⟨g', off', c', ev, q2, _, _, _⟩ := us_at hvo hus (i := 2) (n := [99]) (by rw [ho2]; rfl)
  injection ev with e1 e2 e3
  injection e1 with e1
  injection e1 with e4 e5
  subst e4 e5
  rw [hl3]
  clear hvo hus ho2 hl3 e2 e3
  rw [Nat.one_mul] at q1
  rw [show 2 * 12 = 24 from rfl] at q2
  go_wp2_with fail
  have hkW8 : Keep No w7 (w7.alloc (.cells #[.string ⟨#[98]⟩] 9)) := (Keep.refl _ _).alloc _
  have hBW8 : Blk (w7.alloc (.cells #[.string ⟨#[98]⟩] 9)) w7.heap.size #[.string ⟨#[98]⟩] 9 := Blk.new _ _ _
  have hzW8 : (w7.alloc (.cells #[.string ⟨#[98]⟩] 9)).heap.size = w7.heap.size + 1 := World.size_alloc _ _
  generalize w7.alloc (.cells #[.string ⟨#[98]⟩] 9) = W8 at *
  have hl1 := lib15_any (w := W8) 2 [[98]] (strs_blk hBW8 rfl rfl (by decide)) (by decide) (by decide)
  refine hl1.mono ?_
  clear hl1
  rintro e w9 ⟨v9, rfl, h9, k9⟩
  have hB9 := FlO.bts h9
  have hk79 := hkW8.trans' k9
  obtain ⟨b9, hb9⟩ : ∃ b, b = (buildM (libSp 2 [[98]] [1])).2 := ⟨_, rfl⟩
  rw [← hb9] at hB9
  have HB9 := Lib.hid hb9
  obtain ⟨a9, n9, c9, rfl⟩ := FlO.sh h9
  clear h9 k9 hkW8 hBW8 hzW8 hb9
  go_wp2_with fail
  have hkW10 : Keep No w9 (w9.alloc (.cells #[.string ⟨#[98]⟩] 9)) := (Keep.refl _ _).alloc _
  have hBW10 : Blk (w9.alloc (.cells #[.string ⟨#[98]⟩] 9)) w9.heap.size #[.string ⟨#[98]⟩] 9 := Blk.new _ _ _
  have hzW10 : (w9.alloc (.cells #[.string ⟨#[98]⟩] 9)).heap.size = w9.heap.size + 1 := World.size_alloc _ _
  generalize w9.alloc (.cells #[.string ⟨#[98]⟩] 9) = W10 at *
  have hl1 := lib15_any (w := W10) 3 [[98]] (strs_blk hBW10 rfl rfl (by decide)) (by decide) (by decide)
  refine hl1.mono ?_
  clear hl1
  rintro e w11 ⟨v11, rfl, h11, k11⟩
  have hB11 := FlO.bts h11
  have hk911 := hkW10.trans' k11
  replace hB9 := Sl.keep hB9 hk911 fun _ _ _ h => h
  replace hk79 := hk79.trans' hk911
  obtain ⟨b11, hb11⟩ : ∃ b, b = (buildM (libSp 3 [[98]] [1])).2 := ⟨_, rfl⟩
  rw [← hb11] at hB11
  have HB11 := Lib.hid hb11
  obtain ⟨a11, n11, c11, rfl⟩ := FlO.sh h11
  clear h11 k11 hkW10 hBW10 hzW10 hk911 hb11
  go_wp2_with fail
  have hkW12 : Keep No w11 (w11.alloc (.cells #[.string ⟨#[97]⟩, .slice a9 n9 c9, .string ⟨#[98]⟩, .slice a11 n11 c11] 29)) := (Keep.refl _ _).alloc _
  have hBW12 : Blk (w11.alloc (.cells #[.string ⟨#[97]⟩, .slice a9 n9 c9, .string ⟨#[98]⟩, .slice a11 n11 c11] 29)) w11.heap.size #[.string ⟨#[97]⟩, .slice a9 n9 c9, .string ⟨#[98]⟩, .slice a11 n11 c11] 29 := Blk.new _ _ _
  have hzW12 : (w11.alloc (.cells #[.string ⟨#[97]⟩, .slice a9 n9 c9, .string ⟨#[98]⟩, .slice a11 n11 c11] 29)).heap.size = w11.heap.size + 1 := World.size_alloc _ _
  generalize w11.alloc (.cells #[.string ⟨#[97]⟩, .slice a9 n9 c9, .string ⟨#[98]⟩, .slice a11 n11 c11] 29) = W12 at *
  have hf : FlO W12 w11.heap.size 29 2 encP (.slice (some ⟨w11.heap.size, 0, none⟩) 2 2) [(.string ⟨#[97]⟩, .slice a9 n9 c9), (.string ⟨#[98]⟩, .slice a11 n11 c11)] :=
    own_blk hBW12 (Nat.le_refl _) (n := 2) (size := 2) rfl (by unfold maxLen; omega)
  have hor := clorder_any (w := W12) [97] (by decide) (fir_own (fs := [([97], b9), ([98], b11)]) hf rfl
      (fir_one (fok (n := [97]) (Sl.keep hB9 hkW12 fun _ _ _ h => h)) (fir_one (fok (n := [98]) (Sl.keep hB11 hkW12 fun _ _ _ h => h)) fir_no)))
    (fun f hf => by
      simp only [List.mem_cons, List.not_mem_nil, or_false] at hf
      rcases hf with rfl | rfl
      · show b9.length ≤ _; rw [HB9.out]; exact Nat.le_trans (buildM_le _) (by decide)
      · show b11.length ≤ _; rw [HB11.out]; exact Nat.le_trans (buildM_le _) (by decide))
  have ho := aw_cycle
  unfold fA2 fB2 at ho
  rw [← HB9.out, ← HB11.out] at ho
  generalize orderM [97] [([97], b9), ([98], b11)] = o at *
  obtain ⟨oe, ol⟩ := o
  dsimp only at ho
  subst ho
  replace hk79 := hk79.trans' hkW12
  clear hf hB9 hB11 hkW12 hBW12 hzW12 HB9 HB11
  refine hor.mono ?_
  clear hor
  rintro e w13 ⟨vo2, ps2, rfl, hvo2, hus2, k13⟩
  replace hk79 := hk79.trans' k13
  obtain ⟨ao2, no2, co2, rfl⟩ : ∃ a n c, vo2 = .slice a n c := by
    obtain ⟨a, c, e, _⟩ := hvo2.shape
    exact ⟨_, _, _, e⟩
  clear k13 hvo2 hus2
  go_wp2_with fail
  have hor := clorder_any (w := w13) [120] (by decide) (fs := []) (FiR.nil (A := fun _ => True)) (fun f hf => by cases hf)
  have ho := aw_missing
  generalize orderM [120] [] = o at *
  obtain ⟨oe, ol⟩ := o
  dsimp only at ho
  subst ho
  refine hor.mono ?_
  clear hor
  rintro e w14 ⟨vo3, ps3, rfl, hvo3, hus3, k14⟩
  obtain ⟨ao3, no3, co3, rfl⟩ : ∃ a n c, vo3 = .slice a n c := by
    obtain ⟨a, c, e, _⟩ := hvo3.shape
    exact ⟨_, _, _, e⟩
  replace hk79 := hk79.trans' k14
  replace q1 := (hk79.cell (p := ⟨g, off + 12, none⟩) hg fun h => h).trans q1
  replace q2 := (hk79.cell (p := ⟨g, off + 24, none⟩) hg fun h => h).trans q2
  replace hkA := hkA.trans' hk79
  clear hvo3 hus3 k14 hk79 hg
  go_wp2_with fail
  go_ret
  exact ⟨rfl, hkA⟩
end
end Go.Proofs.Ytbnahidopemkiaa
namespace Go.Dm.Ld
open Go Go.Dm.Oc Go.Proofs.Ytbnahidopemkiaa
theorem flat_at {α : Type} (f : α → BS) (hf : ∀ x, (f x).length = 24) : ∀ (L : List α) (i : Nat) (h : i < L.length), At (L.flatMap f) (24 * i) (f L[i])
  | a :: r, 0, h => by
    rw [List.flatMap_cons]
    exact At.self.left
  | a :: r, i + 1, h => by
    rw [List.flatMap_cons]
    have h2 := flat_at f hf r i (Nat.lt_of_succ_lt_succ h)
    have h3 := (At.end_ (b := f a) (Q := r.flatMap f)).sub h2
    rw [hf] at h3
    rw [show 24 * (i + 1) = 24 + 24 * i from by omega]
    exact h3
theorem syIn_at {c : BS} {o : Nat} {x : Sy} (h : At c o (symR x)) (hx : SyOk x) : syIn c o = x := by
  obtain ⟨h1, h2, h3, h4, h5, h6⟩ := hx
  have e0 : getX c o (4 : Int) = x.nm := h.left.left.left.left.num (n := 4) (by omega) h1
  have q1 : At c (o + 4) ([UInt8.ofNat x.inf] ++ [UInt8.ofNat x.oth]) := h.left.left.left.of_eq rfl (by rw [le_len])
  have e1 : getX c (o + 4) (1 : Int) = x.inf := by
    have := q1.left.raw (n := 1) rfl (by omega)
    rw [show ((1 : Int)) = ((1 : Nat) : Int) from rfl, this]
    simp only [leN, UInt8.toNat_ofNat', Nat.mul_zero, Nat.add_zero]
    exact Nat.mod_eq_of_lt h2
  have e2 : getX c (o + 5) (1 : Int) = x.oth := by
    have := (q1.of_eq (k := o + 5) rfl rfl).raw (n := 1) rfl (by omega)
    rw [show ((1 : Int)) = ((1 : Nat) : Int) from rfl, this]
    simp only [leN, UInt8.toNat_ofNat', Nat.mul_zero, Nat.add_zero]
    exact Nat.mod_eq_of_lt h3
  have e3 : getX c (o + 6) (2 : Int) = x.sec := (h.left.left.of_eq (k := o + 6) rfl (by simp [le_len])).num (n := 2) (by omega) h4
  have e4 : getX c (o + 8) (8 : Int) = x.val := (h.left.of_eq (k := o + 8) rfl (by simp [le_len])).num (n := 8) (by omega) h5
  have e5 : getX c (o + 16) (8 : Int) = x.sz := (h.of_eq (k := o + 16) rfl (by simp [le_len])).num (n := 8) (by omega) h6
  unfold syIn
  rw [e0, e1, e2, e3, e4, e5]
theorem le_add (m n x : Nat) : le (m + n) x = le m x ++ le n (x / 256 ^ m) := by
  induction m generalizing x with
  | zero => rw [Nat.zero_add, Nat.pow_zero, Nat.div_one]; rfl
  | succ m ih =>
    rw [show m + 1 + n = (m + n) + 1 from by omega]
    show UInt8.ofNat (x % 256) :: le (m + n) (x / 256) = UInt8.ofNat (x % 256) :: (le m (x / 256) ++ _)
    rw [ih, Nat.div_div_eq_div_mul, Nat.pow_succ, Nat.mul_comm 256]
theorem rlIn_at {c : BS} {o : Nat} {x : Rl} (h : At c o (relR x)) (hx : RlOk x) : rlIn c o = x := by
  obtain ⟨h1, h2, h3, h4⟩ := hx
  have hs : le 8 (x.ty + x.sym * 4294967296) = le 4 (x.ty + x.sym * 4294967296) ++ le 4 x.sym := by
    rw [show (8 : Nat) = 4 + 4 from rfl, le_add 4 4, show (x.ty + x.sym * 4294967296) / 256 ^ 4 = x.sym from by omega]
  have e0 : getX c o (8 : Int) = x.off := h.left.left.num (n := 8) (by omega) h1
  have q1 : At c (o + 8) (le 4 (x.ty + x.sym * 4294967296) ++ le 4 x.sym) := by
    rw [← hs]
    exact h.left.of_eq rfl (by rw [le_len])
  have e1 : getX c (o + 8) (4 : Int) = x.ty := by
    have := q1.left.raw (n := 4) (le_len _ _) (by omega)
    rw [show ((4 : Int)) = ((4 : Nat) : Int) from rfl, this, leN_le]
    omega
  have e2 : getX c (o + 12) (4 : Int) = x.sym := (q1.of_eq (k := o + 12) rfl (by rw [le_len])).num (n := 4) (by omega) h3
  have e3 : getX c (o + 16) (8 : Int) = x.add := (h.of_eq (k := o + 16) rfl (by simp [le_len])).num (n := 8) (by omega) h4
  unfold rlIn
  rw [e0, e1, e2, e3]
theorem syTab_at {L : List Sy} (h : ∀ x ∈ L, SyOk x) : syTab (L.flatMap symR) = (0, L) := by
  have hl := flat24 symR symR_len L
  unfold syTab
  rw [hl, if_pos (by omega), show 24 * L.length / 24 = L.length from by omega]
  congr 1
  refine List.ext_getElem (by rw [List.length_map, List.length_range]) fun i h1 h2 => ?_
  rw [List.getElem_map, List.getElem_range]
  exact syIn_at (flat_at symR symR_len L i h2) (h _ (List.getElem_mem h2))
theorem rlTab_at {L : List Rl} (h : ∀ x ∈ L, RlOk x) : rlTab (L.flatMap relR) = (0, L) := by
  have hl := flat24 relR relR_len L
  unfold rlTab
  rw [hl, if_pos (by omega), show 24 * L.length / 24 = L.length from by omega]
  congr 1
  refine List.ext_getElem (by rw [List.length_map, List.length_range]) fun i h1 h2 => ?_
  rw [List.getElem_map, List.getElem_range]
  exact rlIn_at (flat_at relR relR_len L i h2) (h _ (List.getElem_mem h2))
theorem symR0 : List.replicate 24 (0 : UInt8) = symR sy0 := by decide
/-- a Spec whose file can be read -/
structure GoodS (s : Sp) : Prop where
  may : mayM s = 0
  nm : ∀ n ∈ s.need, n ≠ []
  dnm : ∀ d ∈ s.defs, d.nm ≠ []
  dl : s.defs.length < 1024
  dv : ∀ d ∈ s.defs, d.off ≤ 1073741824
  dt : ∀ d ∈ s.defs, d.wh = 3 → hasTB s = true ∧ d.off ≤ s.tls.length + s.tbss
  fk : ∀ f ∈ s.fixes, knownB f.ty = true ∧ f.add < 18446744073709551616 ∧ decide (f.ty = 0 ∨ f.ty = 8) = decide (f.df < 0)
  fl : ∀ f ∈ s.fixes, f.off + 8 ≤ (if f.wh = 2 then s.data.length else s.code.length)
def symsL (s : Sp) (y : Lay) (ats : List Nat) : List Sy := if s.defs.isEmpty then [] else sy0 :: ((ats.drop (1 + s.need.length)).zip s.defs).map fun p => symOf y p.1 p.2
def relsL (s : Sp) (y : Lay) : List Rl := s.fixes.map (relOf y)
def namesL (s : Sp) : List BS := if s.defs.isEmpty then [] else [] :: s.defs.map (·.nm)
theorem knownB_lt {t : Nat} (h : knownB t = true) : t < 4294967296 := by
  unfold knownB at h
  rw [decide_eq_true_eq] at h
  omega
section
variable {s : Sp} {y : Lay} {n : Nat}
theorem relOf_ok (hg : GoodS s) (h : Sane s y n) {f : Fx} (hf : f ∈ s.fixes) :
    RlOk (relOf y f) ∧ (relOf y f).off = f.off + (if f.wh = 2 then y.data else y.code) ∧ rlE (if s.defs.isEmpty then 0 else s.defs.length + 1) (relOf y f) = 0 := by
  obtain ⟨h1, h2, h3⟩ := hg.fk f hf
  have h4 := hg.fl f hf
  have h5 := (mayM_ok hg.may).2.2.1 f hf
  have h6 := h.cl
  have h7 := h.dtl
  have h8 := h.n16
  have h9 := h.ln
  have h10 := h.code
  have h11 := h.data
  have h12 := hg.dl
  have hdl : s.defs.isEmpty = decide (s.defs.length = 0) := by cases s.defs <;> rfl
  have hoff : (f.off + (if f.wh = 2 then y.data else y.code)) % 18446744073709551616 = f.off + (if f.wh = 2 then y.data else y.code) := by
    split <;> split at h4 <;> first | omega | (rw [Nat.mod_eq_of_lt]; omega)
  have hk := knownB_lt h1
  have hsy : (if 0 ≤ f.df then (f.df.toNat + 1) % 4294967296 else 0) = if 0 ≤ f.df then f.df.toNat + 1 else 0 := by
    split
    · rw [Nat.mod_eq_of_lt]; omega
    · rfl
  unfold relOf
  rw [hoff, hsy]
  refine ⟨⟨?_, hk, ?_, h2⟩, rfl, ?_⟩
  · show f.off + _ < _
    rw [← hoff]
    exact Nat.mod_lt _ (by decide)
  · show (if 0 ≤ f.df then f.df.toNat + 1 else 0) < _
    split <;> omega
  · unfold rlE
    dsimp only
    rw [h1, if_neg (by decide), h3, hdl]
    by_cases hd : 0 ≤ f.df
    · have e1 : decide (f.df < 0) = false := decide_eq_false (by omega)
      have e2 : decide (s.defs.length = 0) = false := decide_eq_false (by omega)
      rw [if_pos hd, e1, e2]
      simp only [reduceCtorEq, if_false]
      rw [if_neg (by omega)]
      refine if_pos (Eq.symm ?_)
      simp
    · have e1 : decide (f.df < 0) = true := decide_eq_true (by omega)
      rw [if_neg hd, e1, if_neg (by omega)]
      rfl
theorem chkR_ok {n : Nat} : ∀ (L : List Rl), (∀ x ∈ L, rlE n x = 0) → chkR n L = 0
  | [], _ => rfl
  | x :: r, h => by
    unfold chkR
    rw [if_pos (h x (List.mem_cons_self ..))]
    exact chkR_ok r fun x hx => h x (List.mem_cons_of_mem _ hx)
theorem symOf_ok (hg : GoodS s) (h : Sane s y n) {d : Df} (hd : d ∈ s.defs) {p : Nat} (hp : p < 65536) (hp0 : p ≠ 0) :
    SyOk (symOf y p d) ∧ mayS (symOf y p d) = true ∧ (symOf y p d).nm = p ∧ ∀ r, sySound (segsM s y) (symOf y p d :: r) = sySound (segsM s y) r := by
  have h4 := hg.dv d hd
  have h5 := (mayM_ok hg.may).2.1 d hd
  have h6 := h.cl
  have h7 := h.dtl
  have h8 := h.n16
  have h9 := h.ln
  have h10 := h.code
  have h11 := h.data
  have hm : p % 4294967296 = p := Nat.mod_eq_of_lt (by omega)
  have ht := hg.dt d hd
  have hc : (d.off + y.code) % 18446744073709551616 = d.off + y.code := Nat.mod_eq_of_lt (by omega)
  have hdd : (d.off + y.data) % 18446744073709551616 = d.off + y.data := Nat.mod_eq_of_lt (by omega)
  have hw : (if d.weak = true then 32 else 16) = 32 ∨ (if d.weak = true then 32 else 16) = 16 := by cases d.weak <;> simp
  unfold symOf
  dsimp only
  rw [hm, hc, hdd]
  generalize (if d.weak = true then 32 else 16) = inf at *
  have hcs : d.wh = 0 ∨ d.wh = 1 ∨ d.wh = 2 ∨ d.wh = 3 := by omega
  have hmay : ∀ i sec val : Nat, i / 16 ≤ 2 → (i % 16 = 0 ∨ i % 16 = 1 ∨ i % 16 = 2 ∨ i % 16 = 6) → sec ≤ 1 → (sec = 0 → val = 0 ∧ i / 16 ≠ 0) → mayS ⟨p, i, 0, sec, val, 0⟩ = true := fun i sec val g1 g2 g3 g4 => by
    unfold mayS
    dsimp only
    rw [decide_eq_true g1, decide_eq_true g2, decide_eq_true g3, decide_eq_true hp0, decide_eq_true (rfl : (0 : Nat) = 0)]
    by_cases hz : sec = 0
    · have := g4 hz
      rw [decide_eq_true (⟨this.1, rfl, this.2⟩ : val = 0 ∧ 0 = 0 ∧ i / 16 ≠ 0), Bool.or_true]
      rfl
    · rw [decide_eq_true hz]
      rfl
  rcases hcs with e | e | e | e
  · rw [if_pos e]
    refine ⟨⟨by show p < _; omega, by show inf < _; omega, Nat.zero_lt_succ _, Nat.zero_lt_succ _, Nat.zero_lt_succ _, Nat.zero_lt_succ _⟩, hmay _ _ _ (by omega) (by omega) (by omega) (by omega), rfl, fun r => ?_⟩
    conv => lhs; unfold sySound
    rw [if_pos rfl]
  · rw [if_neg (by omega), if_pos e]
    refine ⟨⟨by show p < _; omega, by show inf + 2 < _; omega, Nat.zero_lt_succ _, by show 1 < _; decide, by show d.off + y.code < _; omega, Nat.zero_lt_succ _⟩, hmay _ _ _ (by omega) (by omega) (by omega) (by omega), rfl, fun r => ?_⟩
    conv => lhs; unfold sySound
    dsimp only
    rw [if_neg (by decide), if_neg (by omega), if_neg (by omega)]
  · rw [if_neg (by omega), if_neg (by omega), if_pos e]
    refine ⟨⟨by show p < _; omega, by show inf + 1 < _; omega, Nat.zero_lt_succ _, by show 1 < _; decide, by show d.off + y.data < _; omega, Nat.zero_lt_succ _⟩, hmay _ _ _ (by omega) (by omega) (by omega) (by omega), rfl, fun r => ?_⟩
    conv => lhs; unfold sySound
    dsimp only
    rw [if_neg (by decide), if_neg (by omega), if_neg (by omega)]
  · rw [if_neg (by omega), if_neg (by omega), if_neg (by omega)]
    obtain ⟨t1, t2⟩ := ht e
    refine ⟨⟨by show p < _; omega, by show inf + 6 < _; omega, Nat.zero_lt_succ _, by show 1 < _; decide, by show d.off < _; omega, Nat.zero_lt_succ _⟩, hmay _ _ _ (by omega) (by omega) (by omega) (by omega), rfl, fun r => ?_⟩
    conv => lhs; unfold sySound
    dsimp only
    rw [if_neg (by decide), if_pos (by omega), findM_7, t1, if_pos rfl]
    dsimp only
    rw [if_neg (by show ¬ s.tls.length + s.tbss < d.off; omega)]
theorem loadedB_at (h : Sane s y n) {a : Nat} {f : Fx} (hf : f.wh = 1 ∨ f.wh = 2) (hl : f.off + 8 ≤ (if f.wh = 2 then s.data.length else s.code.length)) (ha : a = f.off + (if f.wh = 2 then y.data else y.code)) : loadedB (segsM s y) a = true := by
  unfold loadedB
  rw [List.any_eq_true]
  rcases hf with e | e
  · rw [if_neg (by omega)] at hl ha
    have hne : s.code.isEmpty = false := by
      cases hc : s.code with
      | nil => rw [hc] at hl; simp at hl
      | cons a r => rfl
    refine ⟨sgC s y, ?_, ?_⟩
    · unfold segsM
      rw [hne, if_neg (by decide)]
      exact List.mem_cons_of_mem _ (List.mem_append_left _ (List.mem_cons_self ..))
    · unfold sgC
      dsimp only
      rw [decide_eq_true_eq]
      omega
  · rw [if_pos e] at hl ha
    have hdb : hasDB s = true := hasDB_iff.2 (.inl (by omega))
    have h1 := h.tls
    have h2 : s.data.length ≤ Ld.dataN s y := by
      rw [dataN_eq]
      split
      · exact Nat.le_refl _
      · omega
    refine ⟨sgD s y, ?_, ?_⟩
    · unfold segsM
      rw [hdb, if_pos rfl]
      exact List.mem_cons_of_mem _ (List.mem_append_right _ (List.mem_append_left _ (List.mem_cons_self ..)))
    · unfold sgD
      dsimp only
      rw [decide_eq_true_eq]
      omega
end
end Go.Dm.Ld
namespace Go.Dm.Ld
open Go Go.Dm.Oc Go.Proofs.Ytbnahidopemkiaa
/-- where a Spec's parts stand -/
def tabS (s : Sp) : BS := (strM (strsOf s)).2.1
def atsS (s : Sp) : List Nat := (strM (strsOf s)).2.2
def layS (s : Sp) : Lay := layM s (tabS s).length (atsS s)
def outS (s : Sp) : BS := bodyM s (layS s) (tabS s) (atsS s)
def hdS (s : Sp) : Hd := ⟨s.kind.toNat, if s.code.isEmpty then 0 else ((layS s).code + s.entry) % 18446744073709551616, 64, (layS s).count⟩
def imS (s : Sp) : Im := ⟨hdS s, segsM s (layS s), s.so, s.need, namesL s, symsL s (layS s) (atsS s), relsL s (layS s), outS s⟩
theorem buildM_out {s : Sp} (hm : mayM s = 0) (hst : (strM (strsOf s)).1 = 0) (hl : (outS s).length ≤ 65536) : buildM s = (0, outS s) := by
  have h : buildM s = if mayM s ≠ 0 then (mayM s, []) else
      if (strM (strsOf s)).1 ≠ 0 then ((strM (strsOf s)).1, [])
      else if 65536 < (outS s).length then (13, []) else (0, outS s) := rfl
  rw [h, if_neg (fun h => h hm), if_neg (fun h => h hst), if_neg (by omega)]
theorem symsM_syms {b t : BS} {l : List Sg} {d : Dy} {c : BS} {L : List Sy} {N : List BS} (h4 : d.v.getD 4 0 ≤ 1024) (h0 : d.v.getD 4 0 ≠ 0) (hc : atI b l (d.v.getD 3 0) (24 * d.v.getD 4 0) = (0, c)) (hs : syTab c = (0, L)) (hk : chkS L = 0) (hn : nmGo t L [] = (0, N)) :
    symsM b l d t = (0, L, N) := by
  unfold symsM
  rw [if_neg (by omega), if_neg h0]
  dsimp only
  rw [hc]
  dsimp only
  rw [hs]
  dsimp only
  rw [hk, hn]
  rfl
theorem relsM_rels {b : BS} {l : List Sg} {d : Dy} {n : Nat} {c : BS} {L : List Rl} (h6 : d.v.getD 6 0 ≤ 65536) (h0 : d.v.getD 6 0 ≠ 0) (hc : atI b l (d.v.getD 5 0) (d.v.getD 6 0) = (0, c)) (hs : rlTab c = (0, L)) (hk : chkR n L = 0) : relsM b l d n = (0, L) := by
  unfold relsM
  rw [if_neg (by omega), if_neg h0]
  dsimp only
  rw [hc]
  dsimp only
  rw [hs]
  dsimp only
  rw [hk]
  rfl
theorem namedM_at {b : BS} {l : List Sg} {g : Sg} {nd V : List Nat} {t so : BS} {need : List BS} (h1 : At b g.off (infoB nd V)) (h2 : g.fi = (infoB nd V).length) (hn : ∀ v ∈ nd, v < 18446744073709551616) (hV : ∀ i, V.getD i 0 < 18446744073709551616)
    (ht : atI b l ((outV V).getD 1 0) ((outV V).getD 2 0) = (0, t)) (hc : chkN t = 0) (hso : soM t ((outV V).getD 0 0) = (0, so)) (hnd : needGo t nd [] = (0, need)) : namedM b l g = (0, ⟨⟨nd, outV V⟩, t, so, need⟩) := by
  have hd := dyM_at nd V hn hV
  unfold namedM
  rw [h1.cut h2]
  dsimp only
  rw [hd]
  dsimp only
  rw [ht]
  dsimp only
  rw [hc, hso, hnd]
  rfl
theorem parseM_at {b : BS} {h : Hd} {l : List Sg} {g : Sg} {n : Nd} {y : List Sy × List BS} {x : List Rl} (hl : b.length ≤ 65536) (hh : headM b = (0, h)) (hk : h.kind ≠ 4) (hs : sgTab b h.segs h.count = (0, l)) (he : chkE l b.length = 0) (hf : findM l 1 ≠ none) (h2 : findM l 2 = some g)
    (hn : namedM b l g = (0, n)) (hy : symsM b l n.info n.table = (0, y)) (hx : relsM b l n.info y.1.length = (0, x)) (ho : soundM l x y.1 = 0) : parseM b = (0, ⟨h, l, n.so, n.need, y.2, y.1, x, b⟩) := by
  have hsh : shapeM b = (0, h, l) := by
    unfold shapeM
    rw [hh]
    dsimp only
    rw [if_neg (fun h => h rfl), if_neg hk, hs]
    dsimp only
    rw [if_neg (fun h => h rfl), he, if_neg (fun h => h rfl), if_neg hf]
  unfold parseM
  rw [if_neg (by omega), hsh]
  dsimp only
  rw [if_neg (fun h => h rfl), h2]
  dsimp only
  rw [hn]
  dsimp only
  rw [hy]
  dsimp only
  rw [hx]
  dsimp only
  rw [ho]
  rfl
theorem sySound_ok {l : List Sg} : ∀ (L : List Sy), (∀ x ∈ L, ∀ r, sySound l (x :: r) = sySound l r) → sySound l L = 0
  | [], _ => rfl
  | x :: r, h => by
    rw [h x (List.mem_cons_self ..)]
    exact sySound_ok r fun x hx => h x (List.mem_cons_of_mem _ hx)
theorem parse_build (s : Sp) (hg : GoodS s) (hst : (strM (strsOf s)).1 = 0) (hl : (outS s).length ≤ 65536) : parseM (outS s) = (0, imS s) := by
  obtain ⟨hkd, hdf, hfx, hbss, htbss, hsum⟩ := mayM_ok hg.may
  obtain ⟨D, hD1, hD2, hT, hz, htl⟩ := strM_at hst
  obtain ⟨_, hx16, _⟩ := strM_ok hst
  have hDl : D.length = 1 + s.need.length + s.defs.length := by
    have := congrArg List.length hD1
    rw [List.length_map] at this
    rw [this]
    unfold strsOf
    simp only [List.length_cons, List.length_append, List.length_map]
    omega
  have hal : (atsS s).length = 1 + s.need.length + s.defs.length := by
    unfold atsS
    rw [hD2, List.length_map, hDl]
  have hF : LayF s (tabS s).length (atsS s) (layS s) := layM_f _ _ _
  have hB := bodyM_at hF hal
  have ho : outS s = bodyM s (layS s) (tabS s) (atsS s) := rfl
  rw [← ho] at hB
  have hx : ∀ x ∈ atsS s, x < 65536 := hx16
  have hatD : atsS s = D.map (·.2) := hD2
  have hT : TbOk (tabS s) D := hT
  have htl : (tabS s).length ≤ 65536 := htl
  have hF' := hF
  obtain ⟨y1, y2, y3, y4, y5, y6, y7, y8⟩ := hF'
  obtain ⟨b1, b2, b3, b4, b5, b6⟩ := hB
  have hcnt : (layS s).count ≤ 5 := by
    rw [y1]
    split <;> split <;> split <;> omega
  have htp : 0 < (tabS s).length := by have := hT.zero.len; simp only [List.length_cons, List.length_nil] at this; omega
  have e3 : (layS s).v.getD 3 0 = upM ((layS s).dyn + (layS s).size + (tabS s).length) 8 := by rw [y3]; rfl
  have e5 : (layS s).v.getD 5 0 = upM ((layS s).dyn + (layS s).size + (tabS s).length) 8 + 24 * (if s.defs.isEmpty then 0 else s.defs.length + 1) := by rw [y3]; rfl
  have e6 : (layS s).v.getD 6 0 = 24 * s.fixes.length := by rw [y3]; rfl
  have e4 : (layS s).v.getD 4 0 = if s.defs.isEmpty then 0 else s.defs.length + 1 := by rw [y3]; rfl
  have e1 : (layS s).v.getD 1 0 = (layS s).dyn + (layS s).size := by rw [y3]; rfl
  have e2 : (layS s).v.getD 2 0 = (tabS s).length := by rw [y3]; rfl
  have e0 : (layS s).v.getD 0 0 = (atsS s).getD 0 0 := by rw [y3]; rfl
  have hr := b3.len
  rw [flat24 _ (fun _ => relR_len _), e5] at hr
  have hlast : (layS s).last ≤ (outS s).length := by rw [y5]; exact hr
  have hszp : 0 < (layS s).size := by
    rw [y4]
    unfold infoB
    rw [List.length_append]
    have : (entB 0 0).length = 16 := by unfold entB; simp only [List.length_append, le_len]
    omega
  have hup : (layS s).dyn + (layS s).size + (tabS s).length ≤ upM ((layS s).dyn + (layS s).size + (tabS s).length) 8 := by unfold upM; omega
  have hS : Sane s (layS s) (outS s).length := by
    refine ⟨y2, by omega, hszp, hlast, hl, ?_, ?_, ?_, fun h => (b4 h).len, fun h => (b5 h).len, fun h => (b6 h).len, by omega, by omega, by omega, hbss, htbss⟩
    · rw [y6]; rfl
    · rw [y7]; rfl
    · rw [y8]; rfl
  have hseg := headsM_segs s (layS s)
  have hb0 : At (outS s) 0 (headB (hdS s) ++ (segsM s (layS s)).flatMap segR) := by
    have := b1.left.left
    rw [hseg] at this
    exact this
  have hcl : (segsM s (layS s)).length = (layS s).count := by rw [segsM_len, y1]
  have hinfo : At (outS s) (layS s).dyn (infoB (((atsS s).drop 1).take s.need.length) (layS s).v) := by
    refine b1.left.of_eq rfl ?_
    rw [headsM_len, ← y1, y2]
    omega
  have htab : At (outS s) ((layS s).dyn + (layS s).size) (tabS s) := by
    refine b1.of_eq rfl ?_
    rw [List.length_append, headsM_len, ← y1, ← y4, y2]
    omega
  have hd0 : ∃ p0 ∈ D, p0.1 = s.so ∧ (atsS s).getD 0 0 = p0.2 := by
    rw [hatD]
    cases hDD : D with
    | nil => rw [hDD] at hD1; cases hD1
    | cons p r =>
      rw [hDD] at hD1
      refine ⟨p, List.mem_cons_self .., ?_, rfl⟩
      have : p.1 :: r.map (·.1) = strsOf s := hD1
      unfold strsOf at this
      injection this
  obtain ⟨p0, hp0, hp1, hp2⟩ := hd0
  have hndD : ((atsS s).drop 1).take s.need.length = ((D.drop 1).take s.need.length).map (·.2) := by rw [hatD, List.map_take, List.map_drop]
  have hndN : ((D.drop 1).take s.need.length).map (·.1) = s.need := by
    rw [List.map_take, List.map_drop, hD1]
    unfold strsOf
    rw [List.drop_succ_cons, List.drop_zero, List.take_left]
  have hDD : (D.drop (1 + s.need.length)).map (·.1) = s.defs.map (·.nm) := by
    rw [List.map_drop, hD1]
    unfold strsOf
    rw [Nat.add_comm, List.drop_succ_cons, List.drop_left]
  have hDa : (atsS s).drop (1 + s.need.length) = (D.drop (1 + s.need.length)).map (·.2) := by rw [hatD, List.map_drop]
  have hnamed : namedM (outS s) (segsM s (layS s)) (sgN (layS s)) = (0, ⟨⟨((atsS s).drop 1).take s.need.length, outV (layS s).v⟩, tabS s, s.so, s.need⟩) := by
    refine namedM_at hinfo y4 (fun v hv => Nat.lt_trans (hx v (List.mem_of_mem_drop (List.mem_of_mem_take hv))) (by decide)) ?_ ?_ hT.chk ?_ ?_
    · intro i
      have h7 : i = 0 ∨ i = 1 ∨ i = 2 ∨ i = 3 ∨ i = 4 ∨ i = 5 ∨ i = 6 ∨ 7 ≤ i := by omega
      rcases h7 with rfl | rfl | rfl | rfl | rfl | rfl | rfl | h7
      · rw [e0, hp2]
        have : p0.2 ∈ atsS s := by rw [hatD]; exact List.mem_map.2 ⟨p0, hp0, rfl⟩
        have := hx _ this
        omega
      · omega
      · omega
      · omega
      · rw [e4]; have := hg.dl; split <;> omega
      · omega
      · omega
      · have : (layS s).v.length = 7 := by rw [y3]; rfl
        rw [List.getD_eq_getElem?_getD, List.getElem?_eq_none (by omega)]
        decide
    · show atI _ _ ((layS s).v.getD 1 0) ((layS s).v.getD 2 0) = _
      rw [e1, e2]
      exact atI_at htab rfl htp (by rw [y5]; omega)
    · show soM _ ((layS s).v.getD 0 0) = _
      rw [e0, hp2, ← hp1]
      exact soM_at hT hz hp0
    · rw [hndD]
      have := needGo_at (t := tabS s) ((D.drop 1).take s.need.length) [] fun z hzm => by
        have hzD := List.mem_of_mem_drop (List.mem_of_mem_take hzm)
        refine ⟨hT.atM hz hzD, hg.nm _ ?_⟩
        rw [← hndN]
        exact List.mem_map.2 ⟨z, hzm, rfl⟩
      rw [this, hndN, List.nil_append]
  have hzip : ∀ p ∈ (D.drop (1 + s.need.length)).zip s.defs, p.1 ∈ D ∧ p.2 ∈ s.defs ∧ p.1.1 = p.2.nm := fun p hp => by
    obtain ⟨i, hi, e⟩ := List.mem_iff_getElem.1 hp
    rw [List.getElem_zip] at e
    rw [List.length_zip] at hi
    have hi1 : i < (D.drop (1 + s.need.length)).length := by omega
    have hi2 : i < s.defs.length := by omega
    refine ⟨by rw [← e]; exact List.mem_of_mem_drop (List.getElem_mem hi1), by rw [← e]; exact List.getElem_mem hi2, ?_⟩
    rw [← e]
    have h1 : ((D.drop (1 + s.need.length)).map (·.1))[i]? = (s.defs.map (·.nm))[i]? := by rw [hDD]
    rw [List.getElem?_map, List.getElem?_map, List.getElem?_eq_getElem hi1, List.getElem?_eq_getElem hi2] at h1
    injection h1
  have hsl : symsL s (layS s) (atsS s) = if s.defs.isEmpty then [] else sy0 :: ((D.drop (1 + s.need.length)).zip s.defs).map fun p => symOf (layS s) p.1.2 p.2 := by
    unfold symsL
    rw [hDa, List.zip_map_left, List.map_map]
    rfl
  have hsok : ∀ p ∈ (D.drop (1 + s.need.length)).zip s.defs, SyOk (symOf (layS s) p.1.2 p.2) ∧ mayS (symOf (layS s) p.1.2 p.2) = true ∧ (symOf (layS s) p.1.2 p.2).nm = p.1.2 ∧ ∀ r, sySound (segsM s (layS s)) (symOf (layS s) p.1.2 p.2 :: r) = sySound (segsM s (layS s)) r := fun p hp => by
    obtain ⟨h1, h2, h3⟩ := hzip p hp
    refine symOf_ok hg hS h2 (hx _ ?_) fun h0 => ?_
    · rw [hatD]; exact List.mem_map.2 ⟨p.1, h1, rfl⟩
    · exact hg.dnm p.2 h2 (h3 ▸ hT.pos h1 (hz _ h1) h0)
  have hsyms : symsM (outS s) (segsM s (layS s)) ⟨((atsS s).drop 1).take s.need.length, outV (layS s).v⟩ (tabS s) = (0, symsL s (layS s) (atsS s), namesL s) := by
    rcases (by cases s.defs <;> simp : s.defs.isEmpty = true ∨ s.defs.isEmpty = false ∧ s.defs ≠ []) with he | ⟨he, hne⟩
    · have h40 : (outV (layS s).v).getD 4 0 = 0 := by
        show (layS s).v.getD 4 0 = 0
        rw [e4, he, if_pos rfl]
      unfold symsM
      rw [if_neg (by show ¬ 1024 < (outV (layS s).v).getD 4 0; omega), if_pos h40]
      unfold symsL namesL
      rw [he, if_pos rfl, if_pos rfl]
    · have h4n : (layS s).v.getD 4 0 = s.defs.length + 1 := by rw [e4, he, if_neg (by decide)]
      have h4v : (outV (layS s).v).getD 4 0 = s.defs.length + 1 := h4n
      have h3v : (outV (layS s).v).getD 3 0 = (layS s).v.getD 3 0 := by
        show (if (layS s).v.getD 4 0 = 0 then 0 else (layS s).v.getD 3 0) = _
        rw [if_neg (by omega)]
      have hb2 := b2 hne
      have hpart : (List.replicate 24 0 ++ (((atsS s).drop (1 + s.need.length)).zip s.defs).flatMap fun p => symR (symOf (layS s) p.1 p.2)) = (symsL s (layS s) (atsS s)).flatMap symR := by
        unfold symsL
        rw [he, if_neg (by decide), List.flatMap_cons, symR0, List.flatMap_map]
      rw [hpart] at hb2
      have hln : (symsL s (layS s) (atsS s)).length = s.defs.length + 1 := by
        unfold symsL
        rw [he, if_neg (by decide), List.length_cons, List.length_map, List.length_zip, List.length_drop, hal]
        omega
      have hokA : ∀ x ∈ symsL s (layS s) (atsS s), SyOk x := fun x hxm => by
        rw [hsl, he, if_neg (by decide)] at hxm
        rcases List.mem_cons.1 hxm with rfl | hxm
        · exact ⟨by decide, by decide, by decide, by decide, by decide, by decide⟩
        · obtain ⟨p, hp, rfl⟩ := List.mem_map.1 hxm
          exact (hsok p hp).1
      refine symsM_syms (c := (symsL s (layS s) (atsS s)).flatMap symR) ?_ ?_ ?_ (syTab_at hokA) ?_ ?_
      · show (outV (layS s).v).getD 4 0 ≤ 1024
        have := hg.dl
        omega
      · show (outV (layS s).v).getD 4 0 ≠ 0
        omega
      · show atI _ _ ((outV (layS s).v).getD 3 0) (24 * (outV (layS s).v).getD 4 0) = _
        rw [h3v, h4v]
        refine atI_at hb2 (by rw [flat24 _ symR_len, hln]) (by omega) ?_
        rw [e3, y5, he, if_neg (by decide)]
        omega
      · rw [hsl, he, if_neg (by decide)]
        refine if_pos ⟨rfl, ?_⟩
        rw [List.all_eq_true]
        intro x hxm
        obtain ⟨p, hp, rfl⟩ := List.mem_map.1 hxm
        exact (hsok p hp).2.1
      · have hZ := nmGo_at (t := tabS s) (([], sy0) :: ((D.drop (1 + s.need.length)).zip s.defs).map fun p => (p.2.nm, symOf (layS s) p.1.2 p.2)) [] fun z hzm => by
          rcases List.mem_cons.1 hzm with rfl | hzm
          · exact atM_at hT.zero (by simp)
          · obtain ⟨p, hp, rfl⟩ := List.mem_map.1 hzm
            obtain ⟨h1, h2, h3⟩ := hzip p hp
            dsimp only
            rw [(hsok p hp).2.2.1, ← h3]
            exact hT.atM hz h1
        rw [List.map_cons, List.map_cons, List.map_map, List.map_map, List.nil_append] at hZ
        rw [hsl, he, if_neg (by decide)]
        unfold namesL
        rw [he, if_neg (by decide)]
        have hn1 : ((D.drop (1 + s.need.length)).zip s.defs).map ((fun x : BS × Sy => x.1) ∘ fun p => (p.2.nm, symOf (layS s) p.1.2 p.2)) = s.defs.map (·.nm) := by
          have : ((fun x : BS × Sy => x.1) ∘ fun p : (BS × Nat) × Df => (p.2.nm, symOf (layS s) p.1.2 p.2)) = (fun d : Df => d.nm) ∘ fun p : (BS × Nat) × Df => p.2 := rfl
          rw [this, ← List.map_map]
          congr 1
          show ((D.drop (1 + s.need.length)).zip s.defs).map Prod.snd = s.defs
          rw [List.map_snd_zip]
          rw [List.length_drop, hDl]
          omega
        rw [hn1] at hZ
        exact hZ
  have hrln : (symsL s (layS s) (atsS s)).length = if s.defs.isEmpty then 0 else s.defs.length + 1 := by
    unfold symsL
    split
    · rfl
    · rw [List.length_cons, List.length_map, List.length_zip, List.length_drop, hal]
      omega
  have hrok : ∀ x ∈ relsL s (layS s), RlOk x ∧ rlE (if s.defs.isEmpty then 0 else s.defs.length + 1) x = 0 ∧ (x.ty ≠ 0 → loadedB (segsM s (layS s)) x.off = true) := fun x hxm => by
    obtain ⟨f, hf, rfl⟩ := List.mem_map.1 hxm
    obtain ⟨h1, h2, h3⟩ := relOf_ok hg hS hf
    exact ⟨h1, h3, fun _ => loadedB_at hS (hfx f hf).1 (hg.fl f hf) h2⟩
  have hrels : relsM (outS s) (segsM s (layS s)) ⟨((atsS s).drop 1).take s.need.length, outV (layS s).v⟩ (symsL s (layS s) (atsS s)).length = (0, relsL s (layS s)) := by
    rw [hrln]
    have h6v : (outV (layS s).v).getD 6 0 = 24 * s.fixes.length := e6
    rcases Nat.eq_zero_or_pos s.fixes.length with h0 | h0
    · unfold relsM
      rw [if_neg (by show ¬ 65536 < (outV (layS s).v).getD 6 0; omega), if_pos (by show (outV (layS s).v).getD 6 0 = 0; omega)]
      unfold relsL
      rw [len0.1 h0]
      rfl
    · have h5v : (outV (layS s).v).getD 5 0 = (layS s).v.getD 5 0 := by
        show (if (layS s).v.getD 6 0 = 0 then 0 else (layS s).v.getD 5 0) = _
        rw [if_neg (by omega)]
      have hpart : (s.fixes.flatMap fun f => relR (relOf (layS s) f)) = (relsL s (layS s)).flatMap relR := by
        unfold relsL
        rw [List.flatMap_map]
      rw [hpart] at b3
      refine relsM_rels (c := (relsL s (layS s)).flatMap relR) ?_ ?_ ?_ (rlTab_at fun x hxm => (hrok x hxm).1) (chkR_ok _ fun x hxm => (hrok x hxm).2.1)
      · show (outV (layS s).v).getD 6 0 ≤ 65536
        omega
      · show (outV (layS s).v).getD 6 0 ≠ 0
        omega
      · show atI _ _ ((outV (layS s).v).getD 5 0) ((outV (layS s).v).getD 6 0) = _
        rw [h5v, h6v]
        refine atI_at b3 (by rw [flat24 _ relR_len]; unfold relsL; rw [List.length_map]) (by omega) ?_
        rw [e5, y5]
        omega
  have hsound : soundM (segsM s (layS s)) (relsL s (layS s)) (symsL s (layS s) (atsS s)) = 0 := by
    unfold soundM
    rw [if_neg]
    · refine sySound_ok _ fun x hxm => ?_
      rw [hsl] at hxm
      split at hxm
      · cases hxm
      · rcases List.mem_cons.1 hxm with rfl | hxm
        · exact fun r => rfl
        · obtain ⟨p, hp, rfl⟩ := List.mem_map.1 hxm
          exact (hsok p hp).2.2.2
    · rw [Bool.not_eq_true, List.any_eq_false]
      intro x hxm h
      rw [Bool.and_eq_true, decide_eq_true_eq, Bool.not_eq_true'] at h
      rw [(hrok x hxm).2.2 h.1] at h
      cases h.2
  have hkn : (hdS s).kind ≠ 4 := by
    show s.kind.toNat ≠ 4
    omega
  have hhead : headM (outS s) = (0, hdS s) := by
    refine headM_at hb0.left ?_ ?_ (by show 64 < _; decide)
    · unfold headOk hdS
      dsimp only
      rw [Bool.and_eq_true, Bool.and_eq_true, decide_eq_true_eq, decide_eq_true_eq, decide_eq_true_eq]
      omega
    · unfold hdS
      dsimp only
      split
      · decide
      · exact Nat.mod_lt _ (by decide)
  have hsg : sgTab (outS s) (hdS s).segs (hdS s).count = (0, segsM s (layS s)) := by
    have := sgTab_at (hb0.of_eq (k := 64) rfl (by rw [headB_len])) (fun x hxm => (hS.ok hcnt x hxm).1) (by omega)
    rw [hcl] at this
    exact this
  exact parseM_at hl hhead hkn hsg (hS.chkE hcnt) findM_1 findM_2 hnamed hsyms hrels hsound
end Go.Dm.Ld
namespace Go.Dm.Ld
open Go Go.Dm.Oc Go.Proofs.Ytbnahidopemkiaa
def sp16 (kind : Int) (need : List BS) (n t : Nat) : Sp := ⟨kind, [], need, 0, List.replicate (1 + 4 * n) 0, [], 0, List.replicate (t % 16) 0, t / 64, [], []⟩
def fs16 (a0 a1 a2 t0 t1 t2 : Nat) : Fs := [([109], (buildM (sp16 2 [[120], [121]] a0 t0)).2), ([120], (buildM (sp16 3 [] a1 t1)).2), ([121], (buildM (sp16 3 [] a2 t2)).2)]
theorem parseM_segs {b : BS} (h : (parseM b).1 = 0) : SgsOk (parseM b).2.segs := by
  have h0 : (parseM b).2.segs = (shapeM b).2.2 ∧ (shapeM b).1 = 0 := by
    unfold parseM at h ⊢
    dsimp only at h ⊢
    split at h
    · cases h
    · rename_i h1
      rw [if_neg h1]
      split at h
      · rename_i h2
        exact absurd h h2
      · rename_i h2
        rw [if_neg h2]
        have h2' : (shapeM b).1 = 0 := Decidable.of_not_not h2
        refine ⟨?_, h2'⟩
        split at h
        · split at h
          · rename_i h3 h4
            exact absurd h h4
          · rename_i h3 h4
            rw [if_neg h4]
        · rename_i s h3
          split at h
          · rename_i h4; exact absurd h h4
          · rename_i h4
            rw [if_neg h4]
            split at h
            · rename_i h5; exact absurd h h5
            · rename_i h5
              rw [if_neg h5]
              split at h
              · rename_i h6; exact absurd h h6
              · rename_i h6
                rw [if_neg h6]
                split at h
                · rename_i h7; exact absurd h h7
                · rename_i h7
                  rw [if_neg h7]
  obtain ⟨h1, h2⟩ := shapeM_ok h0.2
  rw [h0.1]
  intro s hs
  refine ⟨h1 s hs, fun ht => ?_⟩
  have := one_ok (h2 s hs ht) ht
  omega
theorem unitM_im {n : BS} {fs : Fs} {fb : Bool} (h : (unitM n fs fb).1 = 0) : ∃ b, findF fs n = some b ∧ (parseM b).1 = 0 ∧ (unitM n fs fb).2 = (parseM b).2 := by
  unfold unitM at h ⊢
  split at h
  · cases h
  · rename_i b hb
    split at h
    · rename_i h2; exact absurd h h2
    · rename_i h2
      split at h
      · rename_i h3
        refine ⟨b, hb, Decidable.of_not_not h2, ?_⟩
        rw [if_neg h2, if_pos h3]
      · cases h
theorem orderGo_im (fs : Fs) : ∀ (f : Nat) (names : List BS) (out : List (BS × Im)), (∀ u ∈ out, ∃ b, findF fs u.1 = some b ∧ (parseM b).1 = 0 ∧ u.2 = (parseM b).2) → ∀ u ∈ (orderGo fs f names out).2, ∃ b, findF fs u.1 = some b ∧ (parseM b).1 = 0 ∧ u.2 = (parseM b).2
  | 0, names, out, h => by
    unfold orderGo
    split
    · intro u hu; cases hu
    · exact h
  | f + 1, names, out, h => by
    unfold orderGo
    split
    · split
      · intro u hu; cases hu
      · exact h
    · rename_i n hn
      split
      · intro u hu; cases hu
      · rename_i h1
        split
        · intro u hu; cases hu
        · refine orderGo_im fs f _ _ fun u hu => ?_
          rcases List.mem_append.1 hu with hu | hu
          · exact h u hu
          · rw [List.mem_singleton.1 hu]
            exact unitM_im (Decidable.of_not_not h1)
theorem orderM_im (root : BS) (fs : Fs) : ∀ u ∈ (orderM root fs).2, ∃ b, findF fs u.1 = some b ∧ (parseM b).1 = 0 ∧ u.2 = (parseM b).2 :=
  orderGo_im fs 8 [root] [] fun u hu => by cases hu
theorem orderM_segs (root : BS) (fs : Fs) : ∀ u ∈ (orderM root fs).2, SgsOk u.2.segs := fun u hu => by
  obtain ⟨b, _, h, e⟩ := orderM_im root fs u hu
  rw [e]
  exact parseM_segs h
end Go.Dm.Ld
namespace Go.Proofs.Ytbnahidopemkiaa
open Go.RowKit Go.Dm Go.Dm.Oc Go.Dm.Ld
section
variable {A B : Nat → Prop} {w : World} {v : Value}
set_option maxRecDepth 100000 in
set_option maxHeartbeats 4000000 in
theorem lib16_any (kind : Int) (need : List BS) (n t : Nat) (hnb : n < 256) (htb : t < 256) (hv : Fl A w 1 encS v need) (hn : ∀ n ∈ need, n.length ≤ 100000) (hl : need.length ≤ 2000) :
    Calls Try.prog 37 #[.int .i64 kind, v, .int .u8 (n : Int), .int .u8 (t : Int)] w fun e w' => ∃ v', e = .returned v' ∧ FlO w' w.heap.size 5 1 e8 v' (buildM (sp16 kind need n t)).2 ∧ Keep No w w' := by
  have HV := Lib.hid hv
  have HNL := Lib.hid hn
  have HL := Lib.hid hl
  obtain ⟨a, m, c, rfl⟩ : ∃ a n c, v = .slice a n c := by
    obtain ⟨a, c, e, _⟩ := hv.shape
    exact ⟨_, _, _, e⟩
  clear hv hn hl
  have e1 : IntKind.i64.wrap (4 * (n : Int)) = 4 * (n : Int) := by simp [IntKind.wrap, IntKind.bits, IntKind.signed]; omega
  have e2 : IntKind.i64.wrap (1 + 4 * (n : Int)) = ((1 + 4 * n : Nat) : Int) := by simp [IntKind.wrap, IntKind.bits, IntKind.signed]; omega
  have e3 : bits .and .u8 (t : Int) 15 = ((t % 16 : Nat) : Int) := by
    have h := u8_and_nat t 15 htb (by decide)
    rw [show ((15 : Nat) : Int) = 15 from rfl] at h
    rw [h]
    congr 1
    exact Nat.and_two_pow_sub_one_eq_mod t 4
  have e4 : ((t : Int) / 64) = ((t / 64 : Nat) : Int) := by omega
  obtain ⟨cn, hcn⟩ : ∃ c, c = 1 + 4 * n := ⟨_, rfl⟩
  obtain ⟨tn, htn⟩ : ∃ c, c = t % 16 := ⟨_, rfl⟩
  obtain ⟨bn, hbn⟩ : ∃ c, c = t / 64 := ⟨_, rfl⟩
  rw [← hcn] at e2
  rw [← htn] at e3
  rw [← hbn] at e4
  have hcb : cn ≤ 2000 := by omega
  have htb2 : tn ≤ 15 := by omega
  have hbb : bn ≤ 3 := by omega
  have e0 : IntKind.i64.wrap (n : Int) = (n : Int) := by simp [IntKind.wrap, IntKind.bits, IntKind.signed]; omega
  have e5 : IntKind.i64.wrap (tn : Int) = (tn : Int) := by simp [IntKind.wrap, IntKind.bits, IntKind.signed]; omega
  have e6 : IntKind.u64.wrap (bn : Int) = (bn : Int) := by rw [IntKind.wrap_u64]; omega
  have HEQ : Hid (sp16 kind need n t = ⟨kind, [], need, 0, List.replicate cn 0, [], 0, List.replicate tn 0, bn, [], []⟩) := Lib.hid (by rw [hcn, htn, hbn]; rfl)
  clear hcn htn hbn
  go_enter Try.func37, Try.ntmps37
  go_upto_region 1 with fail
  refine wp_region_tree (fun _ => True) (fun j => decide (j ≤ 20)) (.st 0 (.st 1 (.st 2 (.st 3 (.st 4 (.st 5 (.st 7 (.st 8 (.st 9 (.st 11 (.st 12 (.st 13 (.br 6 10 (.ef 10 (.st 14 (.ef 15 (.st 16 (.st 17 (.st 18 (.st 19 (.st 20 .nil)))))))) (.ef 6 (.st 14 (.ef 15 (.st 16 (.st 17 (.st 18 (.st 19 (.st 20 .nil))))))))))))))))))))) (by kernel_rfl) (by kernel_rfl) (by intro c a d v w h; cases d <;> exact h) trivial ?_
  apply tr_still (o := ⟨some 12, _, _, _, _, _⟩) rfl rfl
  · intro w' hS
    first | (go_simp; done) | (go_simp; rfl) | rfl
  go_frame
  apply tr_still (o := ⟨some 13, _, _, _, _, _⟩) rfl rfl
  · intro w' hS
    first | (go_simp; done) | (go_simp; rfl) | rfl
  go_frame
  apply tr_still (o := ⟨some 14, _, _, _, _, _⟩) rfl rfl
  · intro w' hS
    first | (go_simp; done) | (go_simp; rfl) | rfl
  go_frame
  apply tr_still (o := ⟨some 15, _, _, _, _, _⟩) rfl rfl
  · intro w' hS
    first | (go_simp; done) | (go_simp; rfl) | rfl
  go_frame
  apply tr_still (o := ⟨some 16, _, _, _, _, _⟩) rfl rfl
  · intro w' hS
    first | (go_simp; done) | (go_simp; rfl) | rfl
  go_frame
  apply tr_still (o := ⟨some 17, _, _, _, _, _⟩) rfl rfl
  · intro w' hS
    first | (go_simp; done) | (go_simp; rfl) | rfl
  go_frame
  apply tr_still (o := ⟨some 19, _, _, _, _, _⟩) rfl rfl
  · intro w' hS
    first | (go_simp; done) | (go_simp; rfl) | rfl
  go_frame
  apply tr_still (o := ⟨some 20, _, _, _, _, _⟩) rfl rfl
  · intro w' hS
    first | (go_simp; done) | (go_simp; rfl) | rfl
  go_frame
  apply tr_still (o := ⟨some 21, _, _, _, _, _⟩) rfl rfl
  · intro w' hS
    first | (go_simp; done) | (go_simp; rfl) | rfl
  go_frame
  apply tr_still (o := ⟨some 23, _, _, _, _, _⟩) rfl rfl
  · intro w' hS
    first | (go_simp; done) | (go_simp; rfl) | rfl
  go_frame
  apply tr_still (o := ⟨some 24, _, _, _, _, _⟩) rfl rfl
  · intro w' hS
    first | (go_simp; done) | (go_simp; rfl) | rfl
  go_frame
  apply tr_still (o := ⟨some 25, _, _, _, _, _⟩) rfl rfl
  · intro w' hS
    first | (go_simp; done) | (go_simp; rfl) | rfl
  go_frame
  have o_i : (Try.prog.info? 5).map (fun i => (i.zero, i.size, i.bytes)) = some (some (.int .u8 0), 1, 1) := by kernel_rfl
  refine tr_br (o := ⟨some 18, _, _, _, _, _⟩) (o' := ⟨some 22, _, _, _, _, _⟩) rfl rfl rfl rfl (fun K hKe => ?_) (fun K hKe => ?_)
  ·
    refine wo_make (.tmp 17) (.tmp 17) 26 rfl _ _ rfl rfl ?_
    refine rg_make (w := w.drew) (n := cn) 5 (.int .u8 0) 1 1 Try.underlying26 o_i (by omega) (by unfold maxLen; omega) ?_
    intro W1 hmk k1
    have hB1 : Bts (fun _ => True) W1 (.slice (some ⟨(w.drew).heap.size, 0, none⟩) cn cn) (List.replicate cn 0) := by
      have := hmk
      rw [madeCells_u8] at this
      have hb := Bts.of_blk this (by rw [List.length_replicate]; unfold maxLen; omega)
      rw [List.length_replicate] at hb
      exact Sl.mono hb fun _ _ _ => trivial
    clear hmk
    refine hKe _ _ ⟨fun _ => trivial, ?_⟩
    refine tr_eff (o := ⟨some 22, _, _, _, _, _⟩) rfl rfl (fun K hKe => ?_)
    refine wo_make (.tmp 21) (.tmp 21) 26 rfl _ _ rfl rfl ?_
    refine rg_make (w := W1) (n := tn) 5 (.int .u8 0) 1 1 Try.underlying26 o_i (by omega) (by unfold maxLen; omega) ?_
    intro W2 hmk k2
    have hB2 : Bts (fun _ => True) W2 (.slice (some ⟨(W1).heap.size, 0, none⟩) tn tn) (List.replicate tn 0) := by
      have := hmk
      rw [madeCells_u8] at this
      have hb := Bts.of_blk this (by rw [List.length_replicate]; unfold maxLen; omega)
      rw [List.length_replicate] at hb
      exact Sl.mono hb fun _ _ _ => trivial
    clear hmk
    refine hKe _ _ ⟨fun _ => trivial, ?_⟩
    replace hB1 := Sl.keep hB1 k2 fun _ _ _ h => h
    have hk2 := ((Keep.refl No w).drew.trans' k1).trans' k2
    have hs : SpR (fun _ => True) W2 ⟨kind, [], need, 0, List.replicate cn 0, [], 0, List.replicate tn 0, bn, [], []⟩ (.slice a m c) (.slice (some ⟨w.heap.size, 0, none⟩) cn cn) (.slice none 0 0) (.slice (some ⟨W1.heap.size, 0, none⟩) tn tn) (.slice none 0 0) (.slice none 0 0) :=
      ⟨(HV.out.no hk2).mono fun _ _ _ => trivial, hB1, Sl.nil _ _ _, hB2, Fl.nil, Fl.nil⟩
    have hok : SpOk ⟨kind, [], need, 0, List.replicate cn 0, [], 0, List.replicate tn 0, bn, [], []⟩ := ⟨Nat.zero_le _, HNL.out, fun d h => (by cases h), fun d h => (by cases h), HL.out, Nat.zero_le _, Nat.zero_le _, by rw [List.length_replicate]; omega, Nat.zero_le _, by rw [List.length_replicate]; omega, by show 0 < _; decide, by show 0 < _; decide, by show bn < _; omega⟩
    have hcall := r09build_any _ hs hok
    obtain ⟨b, hb⟩ : ∃ b, b = buildM ⟨kind, [], need, 0, List.replicate cn 0, [], 0, List.replicate tn 0, bn, [], []⟩ := ⟨_, rfl⟩
    rw [← hb] at hcall
    have HB := Lib.hid hb
    clear hb hs hok
    apply tr_still (o := ⟨some 26, _, _, _, _, _⟩) rfl rfl
    · intro w' hS
      first | (go_simp; done) | (go_simp; rfl) | rfl
    go_frame
    refine tr_eff (o := ⟨some 27, _, _, _, _, _⟩) rfl rfl (fun K hKe => ?_)
    go_wp2_with fail
    refine hcall.mono ?_
    clear hcall
    rintro e w3 ⟨v3, rfl, h3, k3⟩
    have hkF := hk2.trans' k3
    have h4 := own_base h3 hk2.size
    clear h3 k3 hk2
    obtain ⟨a3, n3, c3, rfl⟩ := FlO.sh h4
    refine hKe _ _ ⟨fun _ => trivial, ?_⟩
    apply tr_still (o := ⟨some 11, _, _, _, _, _⟩) rfl rfl
    · intro w' hS
      first | (go_simp; done) | (go_simp; rfl) | rfl
    go_frame
    apply tr_still (o := ⟨some 28, _, _, _, _, _⟩) rfl rfl
    · intro w' hS
      first | (go_simp; done) | (go_simp; rfl) | rfl
    go_frame
    apply tr_still (o := ⟨some 29, _, _, _, _, _⟩) rfl rfl
    · intro w' hS
      first | (go_simp; done) | (go_simp; rfl) | rfl
    go_frame
    apply tr_still (o := ⟨some 9, _, _, _, _, _⟩) rfl rfl
    · intro w' hS
      first | (go_simp; done) | (go_simp; rfl) | rfl
    go_frame
    apply tr_still (o := ⟨some 10, _, _, _, _, _⟩) rfl rfl
    · intro w' hS
      first | (go_simp; done) | (go_simp; rfl) | rfl
    go_frame
    refine tr_nil ?_
    go_wp2_with fail
    go_ret
    rw [HB.out, ← HEQ.out] at h4
    exact ⟨_, rfl, h4, hkF⟩
  ·
    refine wo_make (.tmp 21) (.tmp 21) 26 rfl _ _ rfl rfl ?_
    refine rg_make (w := w.drew) (n := tn) 5 (.int .u8 0) 1 1 Try.underlying26 o_i (by omega) (by unfold maxLen; omega) ?_
    intro W1 hmk k1
    have hB1 : Bts (fun _ => True) W1 (.slice (some ⟨(w.drew).heap.size, 0, none⟩) tn tn) (List.replicate tn 0) := by
      have := hmk
      rw [madeCells_u8] at this
      have hb := Bts.of_blk this (by rw [List.length_replicate]; unfold maxLen; omega)
      rw [List.length_replicate] at hb
      exact Sl.mono hb fun _ _ _ => trivial
    clear hmk
    refine hKe _ _ ⟨fun _ => trivial, ?_⟩
    refine tr_eff (o := ⟨some 18, _, _, _, _, _⟩) rfl rfl (fun K hKe => ?_)
    refine wo_make (.tmp 17) (.tmp 17) 26 rfl _ _ rfl rfl ?_
    refine rg_make (w := W1) (n := cn) 5 (.int .u8 0) 1 1 Try.underlying26 o_i (by omega) (by unfold maxLen; omega) ?_
    intro W2 hmk k2
    have hB2 : Bts (fun _ => True) W2 (.slice (some ⟨(W1).heap.size, 0, none⟩) cn cn) (List.replicate cn 0) := by
      have := hmk
      rw [madeCells_u8] at this
      have hb := Bts.of_blk this (by rw [List.length_replicate]; unfold maxLen; omega)
      rw [List.length_replicate] at hb
      exact Sl.mono hb fun _ _ _ => trivial
    clear hmk
    refine hKe _ _ ⟨fun _ => trivial, ?_⟩
    replace hB1 := Sl.keep hB1 k2 fun _ _ _ h => h
    have hk2 := ((Keep.refl No w).drew.trans' k1).trans' k2
    have hs : SpR (fun _ => True) W2 ⟨kind, [], need, 0, List.replicate cn 0, [], 0, List.replicate tn 0, bn, [], []⟩ (.slice a m c) (.slice (some ⟨W1.heap.size, 0, none⟩) cn cn) (.slice none 0 0) (.slice (some ⟨w.heap.size, 0, none⟩) tn tn) (.slice none 0 0) (.slice none 0 0) :=
      ⟨(HV.out.no hk2).mono fun _ _ _ => trivial, hB2, Sl.nil _ _ _, hB1, Fl.nil, Fl.nil⟩
    have hok : SpOk ⟨kind, [], need, 0, List.replicate cn 0, [], 0, List.replicate tn 0, bn, [], []⟩ := ⟨Nat.zero_le _, HNL.out, fun d h => (by cases h), fun d h => (by cases h), HL.out, Nat.zero_le _, Nat.zero_le _, by rw [List.length_replicate]; omega, Nat.zero_le _, by rw [List.length_replicate]; omega, by show 0 < _; decide, by show 0 < _; decide, by show bn < _; omega⟩
    have hcall := r09build_any _ hs hok
    obtain ⟨b, hb⟩ : ∃ b, b = buildM ⟨kind, [], need, 0, List.replicate cn 0, [], 0, List.replicate tn 0, bn, [], []⟩ := ⟨_, rfl⟩
    rw [← hb] at hcall
    have HB := Lib.hid hb
    clear hb hs hok
    apply tr_still (o := ⟨some 26, _, _, _, _, _⟩) rfl rfl
    · intro w' hS
      first | (go_simp; done) | (go_simp; rfl) | rfl
    go_frame
    refine tr_eff (o := ⟨some 27, _, _, _, _, _⟩) rfl rfl (fun K hKe => ?_)
    go_wp2_with fail
    refine hcall.mono ?_
    clear hcall
    rintro e w3 ⟨v3, rfl, h3, k3⟩
    have hkF := hk2.trans' k3
    have h4 := own_base h3 hk2.size
    clear h3 k3 hk2
    obtain ⟨a3, n3, c3, rfl⟩ := FlO.sh h4
    refine hKe _ _ ⟨fun _ => trivial, ?_⟩
    apply tr_still (o := ⟨some 11, _, _, _, _, _⟩) rfl rfl
    · intro w' hS
      first | (go_simp; done) | (go_simp; rfl) | rfl
    go_frame
    apply tr_still (o := ⟨some 28, _, _, _, _, _⟩) rfl rfl
    · intro w' hS
      first | (go_simp; done) | (go_simp; rfl) | rfl
    go_frame
    apply tr_still (o := ⟨some 29, _, _, _, _, _⟩) rfl rfl
    · intro w' hS
      first | (go_simp; done) | (go_simp; rfl) | rfl
    go_frame
    apply tr_still (o := ⟨some 9, _, _, _, _, _⟩) rfl rfl
    · intro w' hS
      first | (go_simp; done) | (go_simp; rfl) | rfl
    go_frame
    apply tr_still (o := ⟨some 10, _, _, _, _, _⟩) rfl rfl
    · intro w' hS
      first | (go_simp; done) | (go_simp; rfl) | rfl
    go_frame
    refine tr_nil ?_
    go_wp2_with fail
    go_ret
    rw [HB.out, ← HEQ.out] at h4
    exact ⟨_, rfl, h4, hkF⟩
end
end Go.Proofs.Ytbnahidopemkiaa
