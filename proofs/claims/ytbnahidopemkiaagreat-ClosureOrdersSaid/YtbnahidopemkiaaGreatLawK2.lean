/- Chapter 15: the statements' lib and their examples. Chapter 15: the statements' examples. No condition. -/
import Derived.Test.YtbnahidopemkiaaGreatBu9
import Derived.Test.YtbnahidopemkiaaGreatAwM
import Derived.Test.YtbnahidopemkiaaGreatCl4
set_option linter.unusedVariables false
set_option linter.unusedSimpArgs false
namespace Go.Dm.Ld
open Go Go.Dm.Oc
theorem buildM_le (s : Sp) : (buildM s).2.length ≤ 65536 := by
  unfold buildM
  dsimp only
  repeat' split
  all_goals first
    | exact Nat.zero_le _
    | (rename_i h; exact Nat.le_of_not_lt h)
end Go.Dm.Ld
namespace Go.Proofs.YtbnahidopemkiaaGreat
open Go.RowKit Go.Dm Go.Dm.Oc Go.Dm.Ld
section
variable {A B : Nat → Prop} {w : World} {v : Value}
theorem fl_bts {l : List UInt8} (h : Fl A w 1 e8 v l) : Bts A w v l := by
  unfold Fl at h
  rw [e8_map] at h
  exact h
theorem FlO.bts {base : Nat} {l : List UInt8} (h : FlO w base 5 1 e8 v l) : Bts (fun j => base ≤ j ∧ j < w.heap.size) w v l := fl_bts h.fl
theorem FlO.sh {α : Type} {base k : Nat} {e : TypeId} {enc : α → List Value} {l : List α} (h : FlO w base e k enc v l) : ∃ a n c, v = .slice a n c := by
  obtain ⟨a, c, e, _⟩ := h.fl.shape
  exact ⟨_, _, _, e⟩
/-- files whose cells are known -/
theorem fir_own {base : Nat} {ps : List (Value × Value)} {fs : Fs} (h : FlO w base 26 2 encP v ps) (hl : ps.length = fs.length) (hok : ∀ (i : Nat) (p : Value × Value) (f : BS × BS), ps[i]? = some p → fs[i]? = some f → FileOk (fun _ => True) w p f) : FiR (fun _ => True) w v fs :=
  ⟨ps, hl, h.fl.mono fun _ _ _ => trivial, hok⟩
theorem fir_one {A : Nat → Prop} {p : Value × Value} {f : BS × BS} {ps : List (Value × Value)} {fs : Fs} (h1 : FileOk A w p f) (h2 : ∀ (i : Nat) (p : Value × Value) (f : BS × BS), ps[i]? = some p → fs[i]? = some f → FileOk A w p f) :
    ∀ (i : Nat) (q : Value × Value) (g : BS × BS), (p :: ps)[i]? = some q → (f :: fs)[i]? = some g → FileOk A w q g
  | 0, q, g, hq, hg => by
    cases hq
    cases hg
    exact h1
  | i + 1, q, g, hq, hg => h2 i q g hq hg
theorem fir_no {A : Nat → Prop} : ∀ (i : Nat) (q : Value × Value) (g : BS × BS), ([] : List (Value × Value))[i]? = some q → ([] : Fs)[i]? = some g → FileOk A w q g := fun i q g h => by simp at h
set_option maxRecDepth 100000 in
set_option maxHeartbeats 4000000 in
theorem lib15_any (kind : Int) (need : List BS) (hv : Fl A w 1 encS v need) (hn : ∀ n ∈ need, n.length ≤ 100000) (hl : need.length ≤ 2000) :
    Calls Tryz.prog 10 #[.int .i64 kind, v] w fun e w' => ∃ v', e = .returned v' ∧ FlO w' w.heap.size 5 1 e8 v' (buildM (libSp kind need [1])).2 ∧ Keep No w w' := by
  have HV := Lib.hid hv
  have HN := Lib.hid hn
  have HL := Lib.hid hl
  obtain ⟨a, n, c, rfl⟩ : ∃ a n c, v = .slice a n c := by
    obtain ⟨a, c, e, _⟩ := hv.shape
    exact ⟨_, _, _, e⟩
  clear hv hn hl
  go_enter Tryz.func10, Tryz.ntmps10
  go_wp2_with fail
  have hkW : Keep No w (w.alloc (.cells #[.int .u8 1] 5)) := (Keep.refl _ _).alloc _
  have hBW : Blk (w.alloc (.cells #[.int .u8 1] 5)) w.heap.size #[.int .u8 1] 5 := Blk.new _ _ _
  have hzW : (w.alloc (.cells #[.int .u8 1] 5)).heap.size = w.heap.size + 1 := World.size_alloc _ _
  generalize w.alloc (.cells #[.int .u8 1] 5) = W at *
  have hone : FlO W w.heap.size 5 1 e8 (.slice (some ⟨w.heap.size, 0, none⟩) 1 1) [1] := own_blk hBW (Nat.le_refl _) (n := 1) (size := 1) rfl (by unfold maxLen; omega)
  have hs : SpR (fun _ => True) W (libSp kind need [1]) (.slice a n c) (.slice (some ⟨w.heap.size, 0, none⟩) 1 1) (.slice none 0 0) (.slice none 0 0) (.slice none 0 0) (.slice none 0 0) :=
    ⟨(HV.out.no hkW).mono fun _ _ _ => trivial, Sl.mono (FlO.bts hone) fun _ _ _ => trivial, Sl.nil _ _ _, Sl.nil _ _ _, Fl.nil, Fl.nil⟩
  have hok : SpOk (libSp kind need [1]) := ⟨Nat.zero_le _, HN.out, fun d h => (by cases h), fun d h => (by cases h), HL.out, Nat.zero_le _, Nat.zero_le _, by show 1 ≤ _; decide, Nat.zero_le _, Nat.zero_le _, by show 0 < _; decide, by show 0 < _; decide, by show 0 < _; decide⟩
  have hcall := r09build_any (libSp kind need [1]) hs hok
  obtain ⟨b, hb⟩ : ∃ b, b = buildM (libSp kind need [1]) := ⟨_, rfl⟩
  rw [← hb] at hcall
  have HB := Lib.hid hb
  clear hb
  refine hcall.mono ?_
  clear hcall
  rintro e w2 ⟨v2, rfl, h2, hk2⟩
  have hkF := hkW.trans' hk2
  have h3 := own_base h2 hkW.size
  clear hs hok h2 hk2 hone
  obtain ⟨a2, n2, c2, rfl⟩ := FlO.sh h3
  go_wp2_with fail
  go_ret
  rw [HB.out] at h3
  exact ⟨_, rfl, h3, hkF⟩
end
end Go.Proofs.YtbnahidopemkiaaGreat
namespace Go.Proofs.YtbnahidopemkiaaGreat
open Go.RowKit Go.Dm Go.Dm.Oc Go.Dm.Ld
section
variable {A B : Nat → Prop} {w : World} {v : Value}
/-- a row of names -/
theorem strs_blk {g n : Nat} {cs : Array Value} {l : List BS} (h : Blk w g cs 9) (hc : cs.toList = l.flatMap encS) (hn : cs.size = n) (hm : n ≤ 1000) : Fl (fun _ => True) w 1 encS (.slice (some ⟨g, 0, none⟩) n n) l := by
  have hl : l.length = n := by
    have := congrArg List.length hc
    rw [Array.length_toList, hn] at this
    rw [this]
    clear this hc
    induction l with
    | nil => rfl
    | cons a r ih => rw [List.flatMap_cons, List.length_append, ← ih]; exact Nat.add_comm _ _
  have h2 : FlO w g 9 1 encS (.slice (some ⟨g, 0, none⟩) n n) l := by
    unfold FlO
    rw [hl, ← hc]
    exact own_blk h (Nat.le_refl g) (n := n) (size := 1) (by omega) (by unfold maxLen; omega)
  exact h2.fl.mono fun _ _ _ => trivial
/-- the names that units have, cell by cell -/
theorem us_at {ps : List UC} {us : List (BS × Im)} (hv : Fl A w 12 encU v ps) (hu : UsOk B w ps us) {i : Nat} {n : BS} (hi : (us.map (·.1))[i]? = some n) :
    ∃ g off c, v = .slice (some ⟨g, off, none⟩) us.length c ∧ w.cell? ⟨g, off + i * 12, none⟩ = some (.string ⟨n.toArray⟩) ∧ us.length ≤ c ∧ c ≤ maxLen ∧ g < w.heap.size := by
  have hnm := hu.names
  have hlen := hu.1
  rw [← hnm, List.getElem?_map] at hi
  cases hp : ps[i]? with
  | none => rw [hp] at hi; cases hi
  | some p =>
    rw [hp] at hi
    injection hi with hi
    have hi : p.nm = n := hi
    obtain ⟨hlt, hpe⟩ := List.getElem?_eq_some_iff.1 hp
    obtain ⟨g, off, c, ev, _, hgl, _, _, hc⟩ := hv.at encU_len hlt
    obtain ⟨a2, c2, e2, h2, h3⟩ := hv.shape
    rw [e2] at ev
    injection ev with q1 q2 q3
    subst q1 q3
    refine ⟨g, off, c2, by rw [e2, hlen], ?_, by rw [← hlen]; exact h2, h3, hgl⟩
    have h0 := hc 0 (.string ⟨p.nm.toArray⟩) (by rw [hpe]; rfl)
    rw [Nat.add_zero] at h0
    rw [h0, hi]
theorem fok {n b : BS} {x : Value} (h : Bts A w x b) : FileOk (fun _ => True) w (.string ⟨n.toArray⟩, x) (n, b) := ⟨rfl, Sl.mono h fun _ _ _ => trivial⟩
set_option maxRecDepth 100000 in
set_option maxHeartbeats 4000000 in
theorem awake15_any : Calls Tryz.prog 6 #[] w fun e w' => e = .returned (.bool true) ∧ Keep No w w' := by
  go_enter Tryz.func6, Tryz.ntmps6
  go_wp2_with fail
  have hkW1 : Keep No w (w.alloc (.cells #[.string ⟨#[98]⟩, .string ⟨#[99]⟩] 9)) := (Keep.refl _ _).alloc _
  have hBW1 : Blk (w.alloc (.cells #[.string ⟨#[98]⟩, .string ⟨#[99]⟩] 9)) w.heap.size #[.string ⟨#[98]⟩, .string ⟨#[99]⟩] 9 := Blk.new _ _ _
  have hzW1 : (w.alloc (.cells #[.string ⟨#[98]⟩, .string ⟨#[99]⟩] 9)).heap.size = w.heap.size + 1 := World.size_alloc _ _
  generalize w.alloc (.cells #[.string ⟨#[98]⟩, .string ⟨#[99]⟩] 9) = W1 at *
  have hl1 := lib15_any (w := W1) 2 [[98], [99]] (strs_blk hBW1 rfl rfl (by decide)) (by decide) (by decide)
  refine hl1.mono ?_
  clear hl1
  rintro e w2 ⟨v2, rfl, h2, k2⟩
  have hB2 := FlO.bts h2
  have hkA := hkW1.trans' k2
  obtain ⟨b2, hb2⟩ : ∃ b, b = (buildM (libSp 2 [[98], [99]] [1])).2 := ⟨_, rfl⟩
  rw [← hb2] at hB2
  have HB2 := Lib.hid hb2
  obtain ⟨a2, n2, c2, rfl⟩ := FlO.sh h2
  clear h2 k2 hkW1 hBW1 hzW1 hb2
  go_wp2_with fail
  have hkW3 : Keep No w2 (w2.alloc (.cells #[.string ⟨#[99]⟩] 9)) := (Keep.refl _ _).alloc _
  have hBW3 : Blk (w2.alloc (.cells #[.string ⟨#[99]⟩] 9)) w2.heap.size #[.string ⟨#[99]⟩] 9 := Blk.new _ _ _
  have hzW3 : (w2.alloc (.cells #[.string ⟨#[99]⟩] 9)).heap.size = w2.heap.size + 1 := World.size_alloc _ _
  generalize w2.alloc (.cells #[.string ⟨#[99]⟩] 9) = W3 at *
  have hl1 := lib15_any (w := W3) 3 [[99]] (strs_blk hBW3 rfl rfl (by decide)) (by decide) (by decide)
  refine hl1.mono ?_
  clear hl1
  rintro e w4 ⟨v4, rfl, h4, k4⟩
  have hB4 := FlO.bts h4
  have hk24 := hkW3.trans' k4
  replace hB2 := Sl.keep hB2 hk24 fun _ _ _ h => h
  replace hkA := hkA.trans' hk24
  obtain ⟨b4, hb4⟩ : ∃ b, b = (buildM (libSp 3 [[99]] [1])).2 := ⟨_, rfl⟩
  rw [← hb4] at hB4
  have HB4 := Lib.hid hb4
  obtain ⟨a4, n4, c4, rfl⟩ := FlO.sh h4
  clear h4 k4 hkW3 hBW3 hzW3 hk24 hb4
  go_wp2_with fail
  have hl1 := lib15_any (w := w4) (v := .slice none 0 0) (A := fun _ => True) 3 [] Fl.nil (by decide) (by decide)
  refine hl1.mono ?_
  clear hl1
  rintro e w5 ⟨v5, rfl, h5, k5⟩
  have hB5 := FlO.bts h5
  replace hB2 := Sl.keep hB2 k5 fun _ _ _ h => h
  replace hB4 := Sl.keep hB4 k5 fun _ _ _ h => h
  replace hkA := hkA.trans' k5
  obtain ⟨b5, hb5⟩ : ∃ b, b = (buildM (libSp 3 [] [1])).2 := ⟨_, rfl⟩
  rw [← hb5] at hB5
  have HB5 := Lib.hid hb5
  obtain ⟨a5, n5, c5, rfl⟩ := FlO.sh h5
  clear h5 k5 hb5
  go_wp2_with fail
  have hkW6 : Keep No w5 (w5.alloc (.cells #[.string ⟨#[97]⟩, .slice a2 n2 c2, .string ⟨#[98]⟩, .slice a4 n4 c4, .string ⟨#[99]⟩, .slice a5 n5 c5] 26)) := (Keep.refl _ _).alloc _
  have hBW6 : Blk (w5.alloc (.cells #[.string ⟨#[97]⟩, .slice a2 n2 c2, .string ⟨#[98]⟩, .slice a4 n4 c4, .string ⟨#[99]⟩, .slice a5 n5 c5] 26)) w5.heap.size #[.string ⟨#[97]⟩, .slice a2 n2 c2, .string ⟨#[98]⟩, .slice a4 n4 c4, .string ⟨#[99]⟩, .slice a5 n5 c5] 26 := Blk.new _ _ _
  have hzW6 : (w5.alloc (.cells #[.string ⟨#[97]⟩, .slice a2 n2 c2, .string ⟨#[98]⟩, .slice a4 n4 c4, .string ⟨#[99]⟩, .slice a5 n5 c5] 26)).heap.size = w5.heap.size + 1 := World.size_alloc _ _
  generalize w5.alloc (.cells #[.string ⟨#[97]⟩, .slice a2 n2 c2, .string ⟨#[98]⟩, .slice a4 n4 c4, .string ⟨#[99]⟩, .slice a5 n5 c5] 26) = W6 at *
  have hf : FlO W6 w5.heap.size 26 2 encP (.slice (some ⟨w5.heap.size, 0, none⟩) 3 3) [(.string ⟨#[97]⟩, .slice a2 n2 c2), (.string ⟨#[98]⟩, .slice a4 n4 c4), (.string ⟨#[99]⟩, .slice a5 n5 c5)] :=
    own_blk hBW6 (Nat.le_refl _) (n := 3) (size := 2) rfl (by unfold maxLen; omega)
  have hor := clorder_any (w := W6) [97] (by decide) (fir_own (fs := [([97], b2), ([98], b4), ([99], b5)]) hf rfl
      (fir_one (fok (n := [97]) (Sl.keep hB2 hkW6 fun _ _ _ h => h)) (fir_one (fok (n := [98]) (Sl.keep hB4 hkW6 fun _ _ _ h => h)) (fir_one (fok (n := [99]) (Sl.keep hB5 hkW6 fun _ _ _ h => h)) fir_no))))
    (fun f hf => by
      simp only [List.mem_cons, List.not_mem_nil, or_false] at hf
      rcases hf with rfl | rfl | rfl
      · show b2.length ≤ _; rw [HB2.out]; exact Nat.le_trans (buildM_le _) (by decide)
      · show b4.length ≤ _; rw [HB4.out]; exact Nat.le_trans (buildM_le _) (by decide)
      · show b5.length ≤ _; rw [HB5.out]; exact Nat.le_trans (buildM_le _) (by decide))
  have ho := aw_order
  unfold fA fB fC at ho
  rw [← HB2.out, ← HB4.out, ← HB5.out] at ho
  generalize orderM [97] [([97], b2), ([98], b4), ([99], b5)] = o at *
  obtain ⟨oe, ol⟩ := o
  obtain ⟨ho1, ho2⟩ := ho
  dsimp only at ho1 ho2
  subst ho1
  replace hkA := hkA.trans' hkW6
  clear hf hB2 hB4 hB5 hkW6 hBW6 hzW6 HB2 HB4 HB5
  refine hor.mono ?_
  clear hor
  rintro e w7 ⟨vo, ps, rfl, hvo, hus, k7⟩
  replace hkA := hkA.trans' k7
  clear k7
  have hl3 : ol.length = 3 := by rw [← List.length_map (f := (·.1)), ho2]; rfl
  obtain ⟨g, off, c, rfl, q1, _, _, hg⟩ := us_at hvo hus (i := 1) (n := [98]) (by rw [ho2]; rfl)
  obtain ⟨g', off', c', ev, q2, _, _, _⟩ := us_at hvo hus (i := 2) (n := [99]) (by rw [ho2]; rfl)
  injection ev with e1 e2 e3
  injection e1 with e1
  injection e1 with e4 e5
  subst e4 e5
  rw [hl3]
  clear hvo hus ho2 hl3 e2 e3
  rw [Nat.one_mul] at q1
  rw [show 2 * 12 = 24 from rfl] at q2
  go_wp2_with fail
  have hkW8 : Keep No w7 (w7.alloc (.cells #[.string ⟨#[98]⟩] 9)) := (Keep.refl _ _).alloc _
  have hBW8 : Blk (w7.alloc (.cells #[.string ⟨#[98]⟩] 9)) w7.heap.size #[.string ⟨#[98]⟩] 9 := Blk.new _ _ _
  have hzW8 : (w7.alloc (.cells #[.string ⟨#[98]⟩] 9)).heap.size = w7.heap.size + 1 := World.size_alloc _ _
  generalize w7.alloc (.cells #[.string ⟨#[98]⟩] 9) = W8 at *
  have hl1 := lib15_any (w := W8) 2 [[98]] (strs_blk hBW8 rfl rfl (by decide)) (by decide) (by decide)
  refine hl1.mono ?_
  clear hl1
  rintro e w9 ⟨v9, rfl, h9, k9⟩
  have hB9 := FlO.bts h9
  have hk79 := hkW8.trans' k9
  obtain ⟨b9, hb9⟩ : ∃ b, b = (buildM (libSp 2 [[98]] [1])).2 := ⟨_, rfl⟩
  rw [← hb9] at hB9
  have HB9 := Lib.hid hb9
  obtain ⟨a9, n9, c9, rfl⟩ := FlO.sh h9
  clear h9 k9 hkW8 hBW8 hzW8 hb9
  go_wp2_with fail
  have hkW10 : Keep No w9 (w9.alloc (.cells #[.string ⟨#[98]⟩] 9)) := (Keep.refl _ _).alloc _
  have hBW10 : Blk (w9.alloc (.cells #[.string ⟨#[98]⟩] 9)) w9.heap.size #[.string ⟨#[98]⟩] 9 := Blk.new _ _ _
  have hzW10 : (w9.alloc (.cells #[.string ⟨#[98]⟩] 9)).heap.size = w9.heap.size + 1 := World.size_alloc _ _
  generalize w9.alloc (.cells #[.string ⟨#[98]⟩] 9) = W10 at *
  have hl1 := lib15_any (w := W10) 3 [[98]] (strs_blk hBW10 rfl rfl (by decide)) (by decide) (by decide)
  refine hl1.mono ?_
  clear hl1
  rintro e w11 ⟨v11, rfl, h11, k11⟩
  have hB11 := FlO.bts h11
  have hk911 := hkW10.trans' k11
  replace hB9 := Sl.keep hB9 hk911 fun _ _ _ h => h
  replace hk79 := hk79.trans' hk911
  obtain ⟨b11, hb11⟩ : ∃ b, b = (buildM (libSp 3 [[98]] [1])).2 := ⟨_, rfl⟩
  rw [← hb11] at hB11
  have HB11 := Lib.hid hb11
  obtain ⟨a11, n11, c11, rfl⟩ := FlO.sh h11
  clear h11 k11 hkW10 hBW10 hzW10 hk911 hb11
  go_wp2_with fail
  have hkW12 : Keep No w11 (w11.alloc (.cells #[.string ⟨#[97]⟩, .slice a9 n9 c9, .string ⟨#[98]⟩, .slice a11 n11 c11] 26)) := (Keep.refl _ _).alloc _
  have hBW12 : Blk (w11.alloc (.cells #[.string ⟨#[97]⟩, .slice a9 n9 c9, .string ⟨#[98]⟩, .slice a11 n11 c11] 26)) w11.heap.size #[.string ⟨#[97]⟩, .slice a9 n9 c9, .string ⟨#[98]⟩, .slice a11 n11 c11] 26 := Blk.new _ _ _
  have hzW12 : (w11.alloc (.cells #[.string ⟨#[97]⟩, .slice a9 n9 c9, .string ⟨#[98]⟩, .slice a11 n11 c11] 26)).heap.size = w11.heap.size + 1 := World.size_alloc _ _
  generalize w11.alloc (.cells #[.string ⟨#[97]⟩, .slice a9 n9 c9, .string ⟨#[98]⟩, .slice a11 n11 c11] 26) = W12 at *
  have hf : FlO W12 w11.heap.size 26 2 encP (.slice (some ⟨w11.heap.size, 0, none⟩) 2 2) [(.string ⟨#[97]⟩, .slice a9 n9 c9), (.string ⟨#[98]⟩, .slice a11 n11 c11)] :=
    own_blk hBW12 (Nat.le_refl _) (n := 2) (size := 2) rfl (by unfold maxLen; omega)
  have hor := clorder_any (w := W12) [97] (by decide) (fir_own (fs := [([97], b9), ([98], b11)]) hf rfl
      (fir_one (fok (n := [97]) (Sl.keep hB9 hkW12 fun _ _ _ h => h)) (fir_one (fok (n := [98]) (Sl.keep hB11 hkW12 fun _ _ _ h => h)) fir_no)))
    (fun f hf => by
      simp only [List.mem_cons, List.not_mem_nil, or_false] at hf
      rcases hf with rfl | rfl
      · show b9.length ≤ _; rw [HB9.out]; exact Nat.le_trans (buildM_le _) (by decide)
      · show b11.length ≤ _; rw [HB11.out]; exact Nat.le_trans (buildM_le _) (by decide))
  have ho := aw_cycle
  unfold fA2 fB2 at ho
  rw [← HB9.out, ← HB11.out] at ho
  generalize orderM [97] [([97], b9), ([98], b11)] = o at *
  obtain ⟨oe, ol⟩ := o
  dsimp only at ho
  subst ho
  replace hk79 := hk79.trans' hkW12
  clear hf hB9 hB11 hkW12 hBW12 hzW12 HB9 HB11
  refine hor.mono ?_
  clear hor
  rintro e w13 ⟨vo2, ps2, rfl, hvo2, hus2, k13⟩
  replace hk79 := hk79.trans' k13
  obtain ⟨ao2, no2, co2, rfl⟩ : ∃ a n c, vo2 = .slice a n c := by
    obtain ⟨a, c, e, _⟩ := hvo2.shape
    exact ⟨_, _, _, e⟩
  clear k13 hvo2 hus2
  go_wp2_with fail
  have hor := clorder_any (w := w13) [120] (by decide) (fs := []) (FiR.nil (A := fun _ => True)) (fun f hf => by cases hf)
  have ho := aw_missing
  generalize orderM [120] [] = o at *
  obtain ⟨oe, ol⟩ := o
  dsimp only at ho
  subst ho
  refine hor.mono ?_
  clear hor
  rintro e w14 ⟨vo3, ps3, rfl, hvo3, hus3, k14⟩
  obtain ⟨ao3, no3, co3, rfl⟩ : ∃ a n c, vo3 = .slice a n c := by
    obtain ⟨a, c, e, _⟩ := hvo3.shape
    exact ⟨_, _, _, e⟩
  replace hk79 := hk79.trans' k14
  replace q1 := (hk79.cell (p := ⟨g, off + 12, none⟩) hg fun h => h).trans q1
  replace q2 := (hk79.cell (p := ⟨g, off + 24, none⟩) hg fun h => h).trans q2
  replace hkA := hkA.trans' hk79
  clear hvo3 hus3 k14 hk79 hg
  go_wp2_with fail
  go_ret
  exact ⟨rfl, hkA⟩
end
end Go.Proofs.YtbnahidopemkiaaGreat
