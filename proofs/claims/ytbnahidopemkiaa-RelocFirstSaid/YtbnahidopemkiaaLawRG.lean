/- Chapter 15: of several files of one name the first one counts. Chapter 17: of two libraries that define a name the one nearer to the program counts. Chapter 17: the statement's arguments. No condition. -/
import Derived.Test.YtbnahidopemkiaaLyA
import Derived.Test.YtbnahidopemkiaaAwF
import Derived.BigQuiet
import Derived.Test.YtbnahidopemkiaaOct
set_option linter.unusedVariables false
set_option linter.unusedSimpArgs false
namespace Go.Proofs.Ytbnahidopemkiaa
open Go.RowKit Go.Dm Go.Dm.Oc Go.Dm.Ld
section
variable {A B : Nat → Prop} {w : World} {v : Value}
/-- the bytes of units, cell by cell -/
theorem us_bytes {ps : List UC} {us : List (BS × Im)} (hv : Fl A w 12 encU v ps) (hu : UsOk B w ps us) {i : Nat} {b : BS} (hi : (us.map fun u => u.2.bytes)[i]? = some b) :
    ∃ g off c vb, v = .slice (some ⟨g, off, none⟩) us.length c ∧ w.cell? ⟨g, off + i * 12 + 11, none⟩ = some vb ∧ us.length ≤ c ∧ c ≤ maxLen ∧ g < w.heap.size ∧ Bts B w vb b := by
  have hlen := hu.1
  rw [List.getElem?_map] at hi
  cases hp : us[i]? with
  | none => rw [hp] at hi; cases hi
  | some u =>
    rw [hp] at hi
    injection hi with hi
    have hi : u.2.bytes = b := hi
    obtain ⟨hlt, hpe⟩ := List.getElem?_eq_some_iff.1 hp
    have hlt2 : i < ps.length := by rw [hlen]; exact hlt
    have hun := hu.2 i _ _ (List.getElem?_eq_getElem hlt2) hp
    obtain ⟨_, vs, vn, vm, vy, vr, vb, e, _, _, _, _, _, h6⟩ := hun
    have e2 := congrArg (fun l : List Value => l[10]?) e
    have e3 : some ps[i].vb = some vb := e2
    injection e3 with e3
    obtain ⟨g, off, c, ev, _, hgl, _, _, hc⟩ := hv.at encU_len hlt2
    obtain ⟨a2, c2, e2, h2, h3⟩ := hv.shape
    rw [e2] at ev
    injection ev with q1 q2 q3
    subst q1 q3
    refine ⟨g, off, c2, ps[i].vb, by rw [e2, hlen], ?_, by rw [← hlen]; exact h2, h3, hgl, ?_⟩
    · exact hc 11 _ rfl
    · rw [e3, ← hi]; exact h6
theorem sp_one {a : List UInt8} (w : World) {x : Value} (h : Bts (fun _ => True) w x a) : SpR (fun _ => True) w (fxS a) (.slice none 0 0) x (.slice none 0 0) (.slice none 0 0) (.slice none 0 0) (.slice none 0 0) :=
  ⟨Fl.nil, h, Sl.nil _ _ _, Sl.nil _ _ _, Fl.nil, Fl.nil⟩
theorem fx_ok {a : List UInt8} (h : a.length ≤ 2) : SpOk (fxS a) := ⟨Nat.zero_le _, fun d h => (by cases h), fun d h => (by cases h), fun d h => (by cases h), Nat.zero_le _, Nat.zero_le _, Nat.zero_le _, by show a.length ≤ _; omega, Nat.zero_le _, Nat.zero_le _, by show 0 < _; decide, by show 0 < _; decide, by show 0 < _; decide⟩
set_option maxRecDepth 100000 in
set_option maxHeartbeats 4000000 in
theorem closurefirst_any (a b : UInt8) : Calls Try.prog 4 #[.int .u8 (a.toNat : Int), .int .u8 (b.toNat : Int)] w fun e w' => e = .returned (.bool true) ∧ Keep No w w' := by
  go_enter Try.func4, Try.ntmps4
  go_wp2_with fail
  refine awake15_any.mono ?_
  rintro e w1 ⟨rfl, hkA⟩
  go_wp2_with fail
  have hkW2 : Keep No w1 (w1.alloc (.cells #[.int .u8 (a.toNat : Int)] 5)) := (Keep.refl _ _).alloc _
  have hBW2 : Blk (w1.alloc (.cells #[.int .u8 (a.toNat : Int)] 5)) w1.heap.size #[.int .u8 (a.toNat : Int)] 5 := Blk.new _ _ _
  have hzW2 : (w1.alloc (.cells #[.int .u8 (a.toNat : Int)] 5)).heap.size = w1.heap.size + 1 := World.size_alloc _ _
  generalize w1.alloc (.cells #[.int .u8 (a.toNat : Int)] 5) = W2 at *
  have h1 : FlO W2 w1.heap.size 5 1 e8 (.slice (some ⟨w1.heap.size, 0, none⟩) 1 1) [a] := own_blk hBW2 (Nat.le_refl _) (n := 1) (size := 1) rfl (by unfold maxLen; omega)
  have hcall := r09build_any (fxS [a]) (sp_one W2 (Sl.mono (FlO.bts h1) fun _ _ _ => trivial)) (fx_ok (Nat.le_succ 1))
  have hea : (buildM (fxS [a])).1 = 0 := fxe1 a
  obtain ⟨xa, hxa⟩ : ∃ x, x = (buildM (fxS [a])).2 := ⟨_, rfl⟩
  rw [hea, ← hxa] at hcall
  have HXA := Lib.hid hxa
  clear hxa hea
  refine hcall.mono ?_
  clear hcall h1
  rintro e w3 ⟨v3, rfl, h3, k3⟩
  have hB3 : Bts (fun _ => True) w3 v3 xa := Sl.mono (FlO.bts h3) fun _ _ _ => trivial
  obtain ⟨a3, n3, c3, rfl⟩ := FlO.sh h3
  replace hkA := hkA.trans' (hkW2.trans' k3)
  clear h3 k3 hkW2 hBW2 hzW2
  go_wp2_with fail
  have hkW4 : Keep No w3 (w3.alloc (.cells #[.int .u8 (b.toNat : Int), .int .u8 (b.toNat : Int)] 5)) := (Keep.refl _ _).alloc _
  have hBW4 : Blk (w3.alloc (.cells #[.int .u8 (b.toNat : Int), .int .u8 (b.toNat : Int)] 5)) w3.heap.size #[.int .u8 (b.toNat : Int), .int .u8 (b.toNat : Int)] 5 := Blk.new _ _ _
  have hzW4 : (w3.alloc (.cells #[.int .u8 (b.toNat : Int), .int .u8 (b.toNat : Int)] 5)).heap.size = w3.heap.size + 1 := World.size_alloc _ _
  generalize w3.alloc (.cells #[.int .u8 (b.toNat : Int), .int .u8 (b.toNat : Int)] 5) = W4 at *
  have h1 : FlO W4 w3.heap.size 5 1 e8 (.slice (some ⟨w3.heap.size, 0, none⟩) 2 2) [b, b] := own_blk hBW4 (Nat.le_refl _) (n := 2) (size := 1) rfl (by unfold maxLen; omega)
  have hcall := r09build_any (fxS [b, b]) (sp_one W4 (Sl.mono (FlO.bts h1) fun _ _ _ => trivial)) (fx_ok (Nat.le_refl 2))
  have hea : (buildM (fxS [b, b])).1 = 0 := fxe2 b
  obtain ⟨xb, hxb⟩ : ∃ x, x = (buildM (fxS [b, b])).2 := ⟨_, rfl⟩
  rw [hea, ← hxb] at hcall
  have HXB := Lib.hid hxb
  clear hxb hea
  refine hcall.mono ?_
  clear hcall h1
  rintro e w5 ⟨v5, rfl, h5, k5⟩
  have hB5 : Bts (fun _ => True) w5 v5 xb := Sl.mono (FlO.bts h5) fun _ _ _ => trivial
  obtain ⟨a5, n5, c5, rfl⟩ := FlO.sh h5
  have k35 := hkW4.trans' k5
  replace hB3 := Sl.keep hB3 k35 fun _ _ _ h => h
  replace hkA := hkA.trans' k35
  clear h5 k5 hkW4 hBW4 hzW4 k35
  go_wp2_with fail
  have hkW6 : Keep No w5 (w5.alloc (.cells #[.string ⟨#[120]⟩] 9)) := (Keep.refl _ _).alloc _
  have hBW6 : Blk (w5.alloc (.cells #[.string ⟨#[120]⟩] 9)) w5.heap.size #[.string ⟨#[120]⟩] 9 := Blk.new _ _ _
  have hzW6 : (w5.alloc (.cells #[.string ⟨#[120]⟩] 9)).heap.size = w5.heap.size + 1 := World.size_alloc _ _
  generalize w5.alloc (.cells #[.string ⟨#[120]⟩] 9) = W6 at *
  have hl1 := lib15_any (w := W6) 2 [[120]] (strs_blk hBW6 rfl rfl (by decide)) (by decide) (by decide)
  obtain ⟨xm, hxm⟩ : ∃ x, x = (buildM (libSp 2 [[120]] [1])).2 := ⟨_, rfl⟩
  rw [← hxm] at hl1
  have HXM : Hid (xm = fm) := Lib.hid hxm
  clear hxm
  refine hl1.mono ?_
  clear hl1
  rintro e w7 ⟨v7, rfl, h7, k7⟩
  have hB7 : Bts (fun _ => True) w7 v7 xm := Sl.mono (FlO.bts h7) fun _ _ _ => trivial
  obtain ⟨a7, n7, c7, rfl⟩ := FlO.sh h7
  have k57 := hkW6.trans' k7
  replace hB3 := Sl.keep hB3 k57 fun _ _ _ h => h
  replace hB5 := Sl.keep hB5 k57 fun _ _ _ h => h
  replace hkA := hkA.trans' k57
  clear h7 k7 hkW6 hBW6 hzW6 k57
  have HLA : Hid (xa.length ≤ 1099511627776) := Lib.hid (by rw [HXA.out]; exact Nat.le_trans (buildM_le _) (by decide))
  have HLB : Hid (xb.length ≤ 1099511627776) := Lib.hid (by rw [HXB.out]; exact Nat.le_trans (buildM_le _) (by decide))
  have HLM : Hid (xm.length ≤ 1099511627776) := Lib.hid (by rw [HXM.out]; exact Nat.le_trans (buildM_le _) (by decide))
  have HF1 := Lib.hid (cf1 a b)
  have HF2 := Lib.hid (cf2 a b)
  have HF3 := Lib.hid (cf3 a)
  rw [← HXA.out, ← HXB.out, ← HXM.out] at HF1
  rw [← HXA.out, ← HXB.out, ← HXM.out] at HF2
  rw [← HXA.out, ← HXM.out] at HF3
  clear HXA HXB HXM
  go_wp2_with fail
  have hkW8 : Keep No w7 (w7.alloc (.cells #[.string ⟨#[109]⟩, .slice a7 n7 c7, .string ⟨#[120]⟩, .slice a3 n3 c3, .string ⟨#[120]⟩, .slice a5 n5 c5, .string ⟨#[109]⟩, .slice none 0 0] 29)) := (Keep.refl _ _).alloc _
  have hBW8 : Blk (w7.alloc (.cells #[.string ⟨#[109]⟩, .slice a7 n7 c7, .string ⟨#[120]⟩, .slice a3 n3 c3, .string ⟨#[120]⟩, .slice a5 n5 c5, .string ⟨#[109]⟩, .slice none 0 0] 29)) w7.heap.size #[.string ⟨#[109]⟩, .slice a7 n7 c7, .string ⟨#[120]⟩, .slice a3 n3 c3, .string ⟨#[120]⟩, .slice a5 n5 c5, .string ⟨#[109]⟩, .slice none 0 0] 29 := Blk.new _ _ _
  have hzW8 : (w7.alloc (.cells #[.string ⟨#[109]⟩, .slice a7 n7 c7, .string ⟨#[120]⟩, .slice a3 n3 c3, .string ⟨#[120]⟩, .slice a5 n5 c5, .string ⟨#[109]⟩, .slice none 0 0] 29)).heap.size = w7.heap.size + 1 := World.size_alloc _ _
  generalize w7.alloc (.cells #[.string ⟨#[109]⟩, .slice a7 n7 c7, .string ⟨#[120]⟩, .slice a3 n3 c3, .string ⟨#[120]⟩, .slice a5 n5 c5, .string ⟨#[109]⟩, .slice none 0 0] 29) = W8 at *
  have hf : FlO W8 w7.heap.size 29 2 encP (.slice (some ⟨w7.heap.size, 0, none⟩) 4 4) [(.string ⟨#[109]⟩, .slice a7 n7 c7), (.string ⟨#[120]⟩, .slice a3 n3 c3), (.string ⟨#[120]⟩, .slice a5 n5 c5), (.string ⟨#[109]⟩, .slice none 0 0)] :=
    own_blk hBW8 (Nat.le_refl _) (n := 4) (size := 2) rfl (by unfold maxLen; omega)
  have hor := clorder_any (w := W8) [109] (by decide) (fir_own (fs := [([109], xm), ([120], xa), ([120], xb), ([109], [])]) hf rfl
      (fir_one (fok (n := [109]) (Sl.keep hB7 hkW8 fun _ _ _ h => h)) (fir_one (fok (n := [120]) (Sl.keep hB3 hkW8 fun _ _ _ h => h)) (fir_one (fok (n := [120]) (Sl.keep hB5 hkW8 fun _ _ _ h => h)) (fir_one (fok (A := fun _ => True) (n := [109]) (Sl.nil _ _ _)) fir_no)))))
    (fun f hf => by
      simp only [List.mem_cons, List.not_mem_nil, or_false] at hf
      rcases hf with rfl | rfl | rfl | rfl
      · exact HLM.out
      · exact HLA.out
      · exact HLB.out
      · exact Nat.zero_le _)
  generalize orderM [109] [([109], xm), ([120], xa), ([120], xb), ([109], [])] = o at *
  obtain ⟨oe, ol⟩ := o
  obtain ⟨ho1, ho2⟩ := HF1.out
  dsimp only at ho1 ho2
  subst ho1
  replace hB3 := Sl.keep hB3 hkW8 fun _ _ _ h => h
  replace hB5 := Sl.keep hB5 hkW8 fun _ _ _ h => h
  replace hB7 := Sl.keep hB7 hkW8 fun _ _ _ h => h
  replace hkA := hkA.trans' hkW8
  clear hf hkW8 hBW8 hzW8 HF1
  refine hor.mono ?_
  clear hor
  rintro e w9 ⟨vo, ps, rfl, hvo, hus, k9⟩
  replace hB3 := Sl.keep hB3 k9 fun _ _ _ h => h
  replace hB5 := Sl.keep hB5 k9 fun _ _ _ h => h
  replace hB7 := Sl.keep hB7 k9 fun _ _ _ h => h
  replace hkA := hkA.trans' k9
  have hl2 : ol.length = 2 := by rw [← List.length_map (f := fun u : BS × Im => u.2.bytes), ho2]; rfl
  obtain ⟨g, off, c, vb, rfl, q1, qc, _, hg, hb1⟩ := us_bytes hvo hus (i := 1) (b := xa) (by rw [ho2]; rfl)
  rw [hl2] at qc ⊢
  replace q1 : w9.cell? ⟨g, off + 23, none⟩ = some vb := by rw [← q1, Nat.add_assoc]
  replace hb1 : Bts (fun _ => True) w9 vb xa := Sl.mono hb1 fun _ _ _ => trivial
  clear hvo hus ho2 hl2 k9
  go_wp2_with fail
  have hkW10 : Keep No w9 (w9.alloc (.cells #[.string ⟨#[109]⟩, .slice a7 n7 c7, .string ⟨#[120]⟩, .slice a5 n5 c5, .string ⟨#[120]⟩, .slice a3 n3 c3] 29)) := (Keep.refl _ _).alloc _
  have hBW10 : Blk (w9.alloc (.cells #[.string ⟨#[109]⟩, .slice a7 n7 c7, .string ⟨#[120]⟩, .slice a5 n5 c5, .string ⟨#[120]⟩, .slice a3 n3 c3] 29)) w9.heap.size #[.string ⟨#[109]⟩, .slice a7 n7 c7, .string ⟨#[120]⟩, .slice a5 n5 c5, .string ⟨#[120]⟩, .slice a3 n3 c3] 29 := Blk.new _ _ _
  have hzW10 : (w9.alloc (.cells #[.string ⟨#[109]⟩, .slice a7 n7 c7, .string ⟨#[120]⟩, .slice a5 n5 c5, .string ⟨#[120]⟩, .slice a3 n3 c3] 29)).heap.size = w9.heap.size + 1 := World.size_alloc _ _
  generalize w9.alloc (.cells #[.string ⟨#[109]⟩, .slice a7 n7 c7, .string ⟨#[120]⟩, .slice a5 n5 c5, .string ⟨#[120]⟩, .slice a3 n3 c3] 29) = W10 at *
  have hf : FlO W10 w9.heap.size 29 2 encP (.slice (some ⟨w9.heap.size, 0, none⟩) 3 3) [(.string ⟨#[109]⟩, .slice a7 n7 c7), (.string ⟨#[120]⟩, .slice a5 n5 c5), (.string ⟨#[120]⟩, .slice a3 n3 c3)] :=
    own_blk hBW10 (Nat.le_refl _) (n := 3) (size := 2) rfl (by unfold maxLen; omega)
  have hor := clorder_any (w := W10) [109] (by decide) (fir_own (fs := [([109], xm), ([120], xb), ([120], xa)]) hf rfl
      (fir_one (fok (n := [109]) (Sl.keep hB7 hkW10 fun _ _ _ h => h)) (fir_one (fok (n := [120]) (Sl.keep hB5 hkW10 fun _ _ _ h => h)) (fir_one (fok (n := [120]) (Sl.keep hB3 hkW10 fun _ _ _ h => h)) fir_no))))
    (fun f hf => by
      simp only [List.mem_cons, List.not_mem_nil, or_false] at hf
      rcases hf with rfl | rfl | rfl
      · exact HLM.out
      · exact HLB.out
      · exact HLA.out)
  generalize orderM [109] [([109], xm), ([120], xb), ([120], xa)] = o at *
  obtain ⟨oe, ol⟩ := o
  obtain ⟨ho1, ho2⟩ := HF2.out
  dsimp only at ho1 ho2
  subst ho1
  replace hB3 := Sl.keep hB3 hkW10 fun _ _ _ h => h
  replace hB5 := Sl.keep hB5 hkW10 fun _ _ _ h => h
  replace hB7 := Sl.keep hB7 hkW10 fun _ _ _ h => h
  replace hb1 := Sl.keep hb1 hkW10 fun _ _ _ h => h
  replace q1 := (hkW10.cell (p := ⟨g, off + 23, none⟩) hg fun h => h).trans q1
  have hg10 : g < W10.heap.size := by omega
  replace hkA := hkA.trans' hkW10
  clear hf hkW10 hBW10 hzW10 HF2
  refine hor.mono ?_
  clear hor
  rintro e w11 ⟨vo, ps, rfl, hvo, hus, k11⟩
  replace hB3 := Sl.keep hB3 k11 fun _ _ _ h => h
  replace hB5 := Sl.keep hB5 k11 fun _ _ _ h => h
  replace hB7 := Sl.keep hB7 k11 fun _ _ _ h => h
  replace hb1 := Sl.keep hb1 k11 fun _ _ _ h => h
  replace q1 := (k11.cell (p := ⟨g, off + 23, none⟩) hg10 fun h => h).trans q1
  have hg11 := Nat.lt_of_lt_of_le hg10 k11.size
  replace hkA := hkA.trans' k11
  have hl2 : ol.length = 2 := by rw [← List.length_map (f := fun u : BS × Im => u.2.bytes), ho2]; rfl
  obtain ⟨g2, off2, c2, vb2, rfl, q2, qc2, _, hg2, hb2⟩ := us_bytes hvo hus (i := 1) (b := xb) (by rw [ho2]; rfl)
  rw [hl2] at qc2 ⊢
  replace q2 : w11.cell? ⟨g2, off2 + 23, none⟩ = some vb2 := by rw [← q2, Nat.add_assoc]
  replace hb2 : Bts (fun _ => True) w11 vb2 xb := Sl.mono hb2 fun _ _ _ => trivial
  clear hvo hus ho2 hl2 k11 hg hg10
  go_wp2_with fail
  have hkW12 : Keep No w11 (w11.alloc (.cells #[.string ⟨#[109]⟩, .slice none 0 0, .string ⟨#[109]⟩, .slice a7 n7 c7, .string ⟨#[120]⟩, .slice a3 n3 c3] 29)) := (Keep.refl _ _).alloc _
  have hBW12 : Blk (w11.alloc (.cells #[.string ⟨#[109]⟩, .slice none 0 0, .string ⟨#[109]⟩, .slice a7 n7 c7, .string ⟨#[120]⟩, .slice a3 n3 c3] 29)) w11.heap.size #[.string ⟨#[109]⟩, .slice none 0 0, .string ⟨#[109]⟩, .slice a7 n7 c7, .string ⟨#[120]⟩, .slice a3 n3 c3] 29 := Blk.new _ _ _
  have hzW12 : (w11.alloc (.cells #[.string ⟨#[109]⟩, .slice none 0 0, .string ⟨#[109]⟩, .slice a7 n7 c7, .string ⟨#[120]⟩, .slice a3 n3 c3] 29)).heap.size = w11.heap.size + 1 := World.size_alloc _ _
  generalize w11.alloc (.cells #[.string ⟨#[109]⟩, .slice none 0 0, .string ⟨#[109]⟩, .slice a7 n7 c7, .string ⟨#[120]⟩, .slice a3 n3 c3] 29) = W12 at *
  have hf : FlO W12 w11.heap.size 29 2 encP (.slice (some ⟨w11.heap.size, 0, none⟩) 3 3) [(.string ⟨#[109]⟩, .slice none 0 0), (.string ⟨#[109]⟩, .slice a7 n7 c7), (.string ⟨#[120]⟩, .slice a3 n3 c3)] :=
    own_blk hBW12 (Nat.le_refl _) (n := 3) (size := 2) rfl (by unfold maxLen; omega)
  have hor := clorder_any (w := W12) [109] (by decide) (fir_own (fs := [([109], []), ([109], xm), ([120], xa)]) hf rfl
      (fir_one (fok (A := fun _ => True) (n := [109]) (Sl.nil _ _ _)) (fir_one (fok (n := [109]) (Sl.keep hB7 hkW12 fun _ _ _ h => h)) (fir_one (fok (n := [120]) (Sl.keep hB3 hkW12 fun _ _ _ h => h)) fir_no))))
    (fun f hf => by
      simp only [List.mem_cons, List.not_mem_nil, or_false] at hf
      rcases hf with rfl | rfl | rfl
      · exact Nat.zero_le _
      · exact HLM.out
      · exact HLA.out)
  have ho := HF3.out
  generalize orderM [109] [([109], []), ([109], xm), ([120], xa)] = o at *
  obtain ⟨oe, ol⟩ := o
  dsimp only at ho
  subst ho
  have k1112 := hkW12
  clear hf hBW12 hzW12 HF3 hB7
  refine hor.mono ?_
  clear hor
  rintro e w13 ⟨vo3, ps3, rfl, hvo3, hus3, k13⟩
  have k := k1112.trans' k13
  replace hB3 := Sl.keep hB3 k fun _ _ _ h => h
  replace hB5 := Sl.keep hB5 k fun _ _ _ h => h
  replace hb1 := Sl.keep hb1 k fun _ _ _ h => h
  replace hb2 := Sl.keep hb2 k fun _ _ _ h => h
  replace q1 := (k.cell (p := ⟨g, off + 23, none⟩) hg11 fun h => h).trans q1
  replace q2 := (k.cell (p := ⟨g2, off2 + 23, none⟩) hg2 fun h => h).trans q2
  replace hkA := hkA.trans' k
  obtain ⟨ao3, no3, co3, rfl⟩ : ∃ a n c, vo3 = .slice a n c := by
    obtain ⟨a, c, e, _⟩ := hvo3.shape
    exact ⟨_, _, _, e⟩
  have hc1 := fun n => conv_str (w := w13.drewN n) hb1
  have hc2 := fun n => conv_str (w := w13.drewN n) hB3
  have hc3 := fun n => conv_str (w := w13.drewN n) hb2
  have hc4 := fun n => conv_str (w := w13.drewN n) hB5
  obtain ⟨ab1, nb1, cb1, rfl⟩ : ∃ a n c, vb = .slice a n c := by
    obtain ⟨a, c, e, _⟩ := Sl.shape hb1
    exact ⟨_, _, _, e⟩
  obtain ⟨ab2, nb2, cb2, rfl⟩ : ∃ a n c, vb2 = .slice a n c := by
    obtain ⟨a, c, e, _⟩ := Sl.shape hb2
    exact ⟨_, _, _, e⟩
  generalize (⟨xa.toArray⟩ : ByteArray) = ba at *
  generalize (⟨xb.toArray⟩ : ByteArray) = bb at *
  clear hvo3 hus3 k13 hg11 hg2 hB3 hB5 hb1 hb2 k k1112 hkW12
  go_upto_region 10 with fail
  go_quiet (fail)
  go_wp2_with fail
  go_ret
  exact ⟨rfl, hkA.drewN _⟩
theorem u8_of {a : Int} (h : (Lit.int .u8 a).wf = true) : ∃ x : UInt8, a = (x.toNat : Int) := by
  simp [Lit.wf, IntKind.min, IntKind.max, IntKind.signed, IntKind.bits] at h
  refine ⟨UInt8.ofNat a.toNat, ?_⟩
  rw [UInt8.toNat_ofNat', Nat.mod_eq_of_lt (by omega)]
  omega
theorem closurefirst_int {a b : Int} (ha : (Lit.int .u8 a).wf = true) (hb : (Lit.int .u8 b).wf = true) : Calls Try.prog 4 #[.int .u8 a, .int .u8 b] w fun e w' => e = .returned (.bool true) ∧ Keep No w w' := by
  obtain ⟨x, rfl⟩ := u8_of ha
  obtain ⟨y, rfl⟩ := u8_of hb
  exact closurefirst_any x y
end
end Go.Proofs.Ytbnahidopemkiaa
namespace Go.Proofs.Ytbnahidopemkiaa
open Go.RowKit Go.Dm Go.Dm.Oc Go.Dm.Ld
theorem bm_le (s : Sp) : (buildM s).2.length ≤ 1099511627776 := Nat.le_trans (buildM_le s) (by decide)
theorem addI_of {z : Int} (h1 : -9223372036854775808 ≤ z) (h2 : z < 9223372036854775808) : addI ((z % 18446744073709551616).toNat) = z := by
  unfold addI
  rw [IntKind.wrap_i64]
  omega
theorem spP_ok (wk : Bool) {N : Nat} (h : N < 18446744073709551616) : SpOk (spP wk N) := by
  refine ⟨Nat.zero_le _, fun n hn => ?_, fun d hd => ?_, fun f hf => ?_, by show 2 ≤ 2000; decide, by show 2 ≤ 2000; decide, by show 2 ≤ 100000; decide, Nat.zero_le _, by show (List.replicate 16 _).length ≤ _; rw [List.length_replicate]; decide, Nat.zero_le _, by show 0 < _; decide, by show 0 < _; decide, by show 0 < _; decide⟩
  · simp only [spP, List.mem_cons, List.not_mem_nil, or_false] at hn
    rcases hn with rfl | rfl <;> decide
  · simp only [spP, List.mem_cons, List.not_mem_nil, or_false] at hd
    rcases hd with rfl | rfl <;> (unfold DfOk; simp)
  · simp only [spP, List.mem_cons, List.not_mem_nil, or_false] at hf
    rcases hf with rfl | rfl <;> exact ⟨by simp, by simp, by simp, h⟩
theorem spL_ok (wk : Bool) {a : Nat} (h : a < 256) : SpOk (spL a wk) := by
  refine ⟨Nat.zero_le _, fun n hn => ?_, fun d hd => ?_, fun f hf => ?_, by show 0 ≤ 2000; decide, by show 1 ≤ 2000; decide, by show 0 ≤ 100000; decide, Nat.zero_le _, by show (List.replicate 256 _).length ≤ _; rw [List.length_replicate]; decide, Nat.zero_le _, by show 0 < _; decide, by show 0 < _; decide, by show 0 < _; decide⟩
  · cases hn
  · simp only [spL, List.mem_cons, List.not_mem_nil, or_false] at hd
    subst hd
    exact ⟨by simp, by show a < _; omega⟩
  · cases hf
def rfV (w2 : Bool) (N : Nat) (i : Nat) (v : Value) (W : World) : Prop :=
  match i with
  | 0 => Fl (fun _ => True) W 1 encS v [[120], [121]]
  | 1 => Bts (fun _ => True) W v (List.replicate 16 0)
  | 6 => Fl (fun _ => True) W 4 encDf v (spP w2 N).defs
  | _ => Fl (fun _ => True) W 5 encFx v (spP w2 N).fixes
def rfD (i : Nat) : Nat := match i with | 0 => 28 | 1 => 29 | 6 => 34 | _ => 41
section
variable {A B : Nat → Prop} {w : World} {v : Value}
set_option maxRecDepth 100000 in
set_option maxHeartbeats 2000000 in
theorem relocfirst_any (a b : Nat) (w0 w1 w2 : Bool) (z : Int) (ha : a < 256) (hb : b < 256) (hz1 : -2147483648 ≤ z) (hz2 : z < 2147483648) :
    Calls Try.prog 9 #[.int .u8 (a : Int), .int .u8 (b : Int), .agg #[.bool w0, .bool w1, .bool w2], .int .i32 z] w fun e w' => e = .returned (.bool true) ∧ Keep No w w' := by
  obtain ⟨N, hN⟩ : ∃ N, N = (z % 18446744073709551616).toNat := ⟨_, rfl⟩
  have hNb : N < 18446744073709551616 := by omega
  have hNz : addI N = z := by rw [hN]; exact addI_of (by omega) (by omega)
  have hw64 : IntKind.i64.wrap z = z := by rw [IntKind.wrap_i64]; omega
  have hwu : IntKind.u64.wrap z = (N : Int) := by rw [IntKind.wrap_u64]; omega
  have hwa : IntKind.u64.wrap (a : Int) = (a : Int) := by rw [IntKind.wrap_u64]; omega
  have hwb : IntKind.u64.wrap (b : Int) = (b : Int) := by rw [IntKind.wrap_u64]; omega
  have HN := Lib.hid hN
  have HNZ := Lib.hid hNz
  clear hN hNz
  go_enter Try.func9, Try.ntmps9
  go_wp2_with (at_make; refine wl_make rfl _ _ _ rfl _ _ rfl rfl ?_)
  have hkW1 : Keep No w (w.alloc (.cells #[.bool w0, .bool w1, .bool w2] 82)) := (Keep.refl _ _).alloc _
  have hBW1 : Blk (w.alloc (.cells #[.bool w0, .bool w1, .bool w2] 82)) w.heap.size #[.bool w0, .bool w1, .bool w2] 82 := Blk.new _ _ _
  have hzW1 : (w.alloc (.cells #[.bool w0, .bool w1, .bool w2] 82)).heap.size = w.heap.size + 1 := World.size_alloc _ _
  generalize w.alloc (.cells #[.bool w0, .bool w1, .bool w2] 82) = W1 at *
  refine awake17_any.mono ?_
  rintro e w2_ ⟨rfl, k2⟩
  have hkA := hkW1.trans' k2
  have BB := hBW1.keep k2 fun h => h
  clear hkW1 hBW1 k2
  go_wp2_with (at_make; refine wl_make rfl _ _ _ rfl _ _ rfl rfl ?_)
  refine rg_make (w := w2_) (n := 256) 5 (.int .u8 0) 1 1 Try.underlying26 u8_inf (by omega) (by unfold maxLen; omega) ?_
  intro w3 hmk k3
  have hX := made_bts hmk (by decide)
  replace hkA := hkA.trans' k3
  replace BB := BB.keep k3 fun h => h
  have c2 := BB.cell 2
  have hlb := BB.lt
  generalize w2_.heap.size = gx at *
  generalize w.heap.size = gb at *
  clear hmk k3
  go_upto_region 5 with fail
  refine wp_region_tp (fun w' => w'.cell? ⟨gb, 2, none⟩ = some (.bool w2)) (.st 2 (.st 3 (.st 4 (.st 5 (.st 7 (.st 8 (.st 9 (.st 10 (.st 11 (.st 12 (.pr [0, 1, 6, 13] (.st 14 (.ef 15 (.st 16 (.st 17 (.st 18 (.st 19 (.st 20 .nil)))))))))))))))))) (by kernel_rfl) (by kernel_rfl) (by intro c a d v w h; cases d <;> exact h) c2 ?_
  apply tp_still (o := ⟨some 30, _, _, _, _, _⟩) rfl rfl
  · intro w' hS
    have q1 := hS
    first | (go_simp; done) | (go_simp; rfl) | rfl
  go_frame
  apply tp_still (o := ⟨some 31, _, _, _, _, _⟩) rfl rfl
  · intro w' hS
    have q1 := hS
    first | (go_simp; done) | (go_simp; rfl) | rfl
  go_frame
  apply tp_still (o := ⟨some 32, _, _, _, _, _⟩) rfl rfl
  · intro w' hS
    have q1 := hS
    first | (go_simp; done) | (go_simp; rfl) | rfl
  go_frame
  apply tp_still (o := ⟨some 33, _, _, _, _, _⟩) rfl rfl
  · intro w' hS
    have q1 := hS
    first | (go_simp; done) | (go_simp; rfl) | rfl
  go_frame
  apply tp_still (o := ⟨some 35, _, _, _, _, _⟩) rfl rfl
  · intro w' hS
    have q1 := hS
    first | (go_simp; done) | (go_simp; rfl) | rfl
  go_frame
  apply tp_still (o := ⟨some 36, _, _, _, _, _⟩) rfl rfl
  · intro w' hS
    have q1 := hS
    first | (go_simp; done) | (go_simp; rfl) | rfl
  go_frame
  apply tp_still (o := ⟨some 37, _, _, _, _, _⟩) rfl rfl
  · intro w' hS
    have q1 := hS
    first | (go_simp; done) | (go_simp; rfl) | rfl
  go_frame
  apply tp_still (o := ⟨some 38, _, _, _, _, _⟩) rfl rfl
  · intro w' hS
    have q1 := hS
    first | (go_simp; done) | (go_simp; rfl) | rfl
  go_frame
  apply tp_still (o := ⟨some 39, _, _, _, _, _⟩) rfl rfl
  · intro w' hS
    have q1 := hS
    first | (go_simp; done) | (go_simp; rfl) | rfl
  go_frame
  apply tp_still (o := ⟨some 40, _, _, _, _, _⟩) rfl rfl
  · intro w' hS
    have q1 := hS
    first | (go_simp; done) | (go_simp; rfl) | rfl
  go_frame
  refine par_of (rfV w2 N) rfD (fun j u X Y k h => ?_) 4 [0, 1, 6, 13] _ _ rfl (by decide) (by decide) ?_ ?_
  · unfold rfV at h ⊢
    split at h
    · exact h.no k
    · exact Sl.keep h k fun _ _ _ h => h
    · exact h.no k
    · exact h.no k
  · intro i hi a' w' hs k
    have c2' := ((((Keep.refl No w3).drew).trans' k).cell (p := ⟨gb, 2, none⟩) hlb fun h => h).trans c2
    have hlb' := Nat.lt_of_lt_of_le hlb (((Keep.refl No w3).drew).trans' k).size
    simp only [List.mem_cons, List.not_mem_nil, or_false] at hi
    rcases hi with rfl | rfl | rfl | rfl
    · refine wo_eff (o := ⟨some 28, _, _, _, _, _⟩) rfl rfl (fun K hKe => ?_)
      refine wo_bs 25 2 _ rfl _ rfl (.slice (some ⟨w'.heap.size, 0, none⟩) 2 2) (w'.alloc (.cells #[.string ⟨#[120]⟩, .string ⟨#[121]⟩] 9)) (by go_simp) ?_
      have ka : Keep No w' (w'.alloc (.cells #[.string ⟨#[120]⟩, .string ⟨#[121]⟩] 9)) := (Keep.refl _ _).alloc _
      exact hKe _ _ ⟨(ka.cell (p := ⟨gb, 2, none⟩) hlb' fun h => h).trans c2', _, rfl, strs_blk (Blk.new w' _ _) rfl rfl (by decide), ka⟩
    · refine wo_eff (o := ⟨some 29, _, _, _, _, _⟩) rfl rfl (fun K hKe => ?_)
      refine wo_make _ _ 26 rfl _ _ rfl rfl ?_
      refine rg_make (w := w') (n := 16) 5 (.int .u8 0) 1 1 Try.underlying26 u8_inf (by omega) (by unfold maxLen; omega) ?_
      intro w'' hmk k'
      exact hKe _ _ ⟨(k'.cell (p := ⟨gb, 2, none⟩) hlb' fun h => h).trans c2', _, rfl, made_bts hmk (by decide), k'⟩
    · refine wo_eff (o := ⟨some 34, _, _, _, _, _⟩) rfl rfl (fun K hKe => ?_)
      have h30 := hs (.tmp 30) (by intro i hi; simp only [List.mem_cons, List.not_mem_nil, or_false] at hi; rcases hi with rfl | rfl | rfl | rfl <;> (unfold rfD; simp))
      have h33 := hs (.tmp 33) (by intro i hi; simp only [List.mem_cons, List.not_mem_nil, or_false] at hi; rcases hi with rfl | rfl | rfl | rfl <;> (unfold rfD; simp))
      refine wo_bs 47 2 _ rfl #[(0, .agg #[.string ⟨#[102]⟩, .int .i64 0, .int .u64 0, .bool false]), (1, .agg #[.string ⟨#[110, 111, 110, 101]⟩, .int .i64 0, .int .u64 0, .bool w2])] (by simp only [List.map_toArray, List.map_cons, List.map_nil, h30, h33]; rfl) (.slice (some ⟨w'.heap.size, 0, none⟩) 2 2) (w'.alloc (.cells #[.string ⟨#[102]⟩, .int .i64 0, .int .u64 0, .bool false, .string ⟨#[110, 111, 110, 101]⟩, .int .i64 0, .int .u64 0, .bool w2] 84)) (by go_simp) ?_
      have ka : Keep No w' (w'.alloc (.cells #[.string ⟨#[102]⟩, .int .i64 0, .int .u64 0, .bool false, .string ⟨#[110, 111, 110, 101]⟩, .int .i64 0, .int .u64 0, .bool w2] 84)) := (Keep.refl _ _).alloc _
      exact hKe _ _ ⟨(ka.cell (p := ⟨gb, 2, none⟩) hlb' fun h => h).trans c2', _, rfl, fl_rows (Blk.new w' _ _) rfl (by decide) rfl rfl, ka⟩
    · refine wo_eff (o := ⟨some 41, _, _, _, _, _⟩) rfl rfl (fun K hKe => ?_)
      have h37 := hs (.tmp 37) (by intro i hi; simp only [List.mem_cons, List.not_mem_nil, or_false] at hi; rcases hi with rfl | rfl | rfl | rfl <;> (unfold rfD; simp))
      have h40 := hs (.tmp 40) (by intro i hi; simp only [List.mem_cons, List.not_mem_nil, or_false] at hi; rcases hi with rfl | rfl | rfl | rfl <;> (unfold rfD; simp))
      refine wo_bs 48 2 _ rfl #[(0, .agg #[.int .i64 2, .int .u64 0, .int .u32 1, .int .i64 0, .int .i64 z]), (1, .agg #[.int .i64 2, .int .u64 8, .int .u32 1, .int .i64 1, .int .i64 z])] (by simp only [List.map_toArray, List.map_cons, List.map_nil, h37, h40]; rfl) (.slice (some ⟨w'.heap.size, 0, none⟩) 2 2) (w'.alloc (.cells #[.int .i64 2, .int .u64 0, .int .u32 1, .int .i64 0, .int .i64 z, .int .i64 2, .int .u64 8, .int .u32 1, .int .i64 1, .int .i64 z] 87)) (by go_simp) ?_
      have ka : Keep No w' (w'.alloc (.cells #[.int .i64 2, .int .u64 0, .int .u32 1, .int .i64 0, .int .i64 z, .int .i64 2, .int .u64 8, .int .u32 1, .int .i64 1, .int .i64 z] 87)) := (Keep.refl _ _).alloc _
      refine hKe _ _ ⟨(ka.cell (p := ⟨gb, 2, none⟩) hlb' fun h => h).trans c2', _, rfl, ?_, ka⟩
      show Fl (fun _ => True) _ 5 encFx _ (spP w2 N).fixes
      refine fl_rows (Blk.new w' _ _) rfl (by decide) ?_ rfl
      show _ = List.flatMap encFx [⟨2, 0, 1, 0, N⟩, ⟨2, 8, 1, 1, N⟩]
      simp only [encFx, List.flatMap_cons, List.flatMap_nil, HNZ.out]
      rfl
  intro w4 vs k34 hvs
  have v0 : Fl (fun _ => True) w4 1 encS (vs 0) [[120], [121]] := hvs 0 (by decide)
  have v1 : Bts (fun _ => True) w4 (vs 1) (List.replicate 16 0) := hvs 1 (by decide)
  have v6 : Fl (fun _ => True) w4 4 encDf (vs 6) (spP w2 N).defs := hvs 6 (by decide)
  have v13 : Fl (fun _ => True) w4 5 encFx (vs 13) (spP w2 N).fixes := hvs 13 (by decide)
  clear hvs
  simp only [puts, List.foldl_cons, List.foldl_nil, rfD]
  obtain ⟨a0, c0, e0, _⟩ := v0.shape
  obtain ⟨a1, c1, e1, _⟩ := Sl.shape v1
  obtain ⟨a6, c6, e6, _⟩ := v6.shape
  obtain ⟨a13, c13, e13, _⟩ := v13.shape
  generalize vs 0 = x0 at *
  generalize vs 1 = x1 at *
  generalize vs 6 = x6 at *
  generalize vs 13 = x13 at *
  subst e0 e1 e6 e13
  go_frame
  apply tp_still (o := ⟨some 42, _, _, _, _, _⟩) rfl rfl
  · intro w' hS
    have q1 := hS
    first | (go_simp; done) | (go_simp; rfl) | rfl
  go_frame
  refine tp_eff (o := ⟨some 43, _, _, _, _, _⟩) rfl rfl (fun K hKe => ?_)
  have hs : SpR (fun _ => True) w4 (spP w2 N) (.slice a0 [[120], [121]].length c0) (.slice none 0 0) (.slice a1 (List.replicate 16 (0 : UInt8)).length c1) (.slice none 0 0) (.slice a6 (spP w2 N).defs.length c6) (.slice a13 (spP w2 N).fixes.length c13) :=
    ⟨v0, Sl.nil _ _ _, v1, Sl.nil _ _ _, v6, v13⟩
  have hcall := built_any hs (spP_ok w2 hNb)
  obtain ⟨xp, hxp⟩ : ∃ x, x = (buildM (spP w2 N)).2 := ⟨_, rfl⟩
  rw [← hxp] at hcall
  have HXP := Lib.hid hxp
  go_wp2_with fail
  refine hcall.mono ?_
  clear hcall hs v0 v1 v6 v13 hxp
  rintro e w5 ⟨a5, n5, c5, e5, rfl, hB5, k5⟩
  have k35 := ((Keep.refl No w3).drew.trans' k34).trans' k5
  replace hkA := hkA.trans' k35
  replace BB := BB.keep k35 fun h => h
  replace hX := Sl.keep hX k35 fun _ _ _ h => h
  replace c2 := BB.cell 2
  refine hKe _ _ ⟨c2, ?_⟩
  apply tp_still (o := ⟨some 27, _, _, _, _, _⟩) rfl rfl
  · intro w' hS
    have q1 := hS
    first | (go_simp; done) | (go_simp; rfl) | rfl
  go_frame
  apply tp_still (o := ⟨some 44, _, _, _, _, _⟩) rfl rfl
  · intro w' hS
    have q1 := hS
    first | (go_simp; done) | (go_simp; rfl) | rfl
  go_frame
  apply tp_still (o := ⟨some 45, _, _, _, _, _⟩) rfl rfl
  · intro w' hS
    have q1 := hS
    first | (go_simp; done) | (go_simp; rfl) | rfl
  go_frame
  apply tp_still (o := ⟨some 11, _, _, _, _, _⟩) rfl rfl
  · intro w' hS
    have q1 := hS
    first | (go_simp; done) | (go_simp; rfl) | rfl
  go_frame
  apply tp_still (o := ⟨some 12, _, _, _, _, _⟩) rfl rfl
  · intro w' hS
    have q1 := hS
    first | (go_simp; done) | (go_simp; rfl) | rfl
  go_frame
  refine tp_nil ?_
  clear hKe k34 k5 k35 hlb
  have b0 := BB.cell 0
  have hLX : (List.replicate 256 (0 : UInt8)).length = 256 := List.length_replicate
  go_wp2_with fail
  have hkw6 : Keep No w5 (w5.alloc (.cells #[.string ⟨#[102]⟩, .int .i64 2, .int .u64 (a : Int), .bool w0] 84)) := (Keep.refl _ _).alloc _
  have hBw6 : Blk (w5.alloc (.cells #[.string ⟨#[102]⟩, .int .i64 2, .int .u64 (a : Int), .bool w0] 84)) w5.heap.size #[.string ⟨#[102]⟩, .int .i64 2, .int .u64 (a : Int), .bool w0] 84 := Blk.new _ _ _
  have hzw6 : (w5.alloc (.cells #[.string ⟨#[102]⟩, .int .i64 2, .int .u64 (a : Int), .bool w0] 84)).heap.size = w5.heap.size + 1 := World.size_alloc _ _
  generalize w5.alloc (.cells #[.string ⟨#[102]⟩, .int .i64 2, .int .u64 (a : Int), .bool w0] 84) = w6 at *
  have hs : SpR (fun _ => True) w6 (spL a w0) (.slice none 0 0) (.slice none 0 0) (.slice (some ⟨gx, 0, none⟩) 256 256) (.slice none 0 0) (.slice (some ⟨w5.heap.size, 0, none⟩) 1 1) (.slice none 0 0) :=
    ⟨Fl.nil, Sl.nil _ _ _, Sl.keep hX hkw6 fun _ _ _ h => h, Sl.nil _ _ _, fl_rows hBw6 rfl (by decide) rfl rfl, Fl.nil⟩
  have hcall := built_any hs (spL_ok w0 ha)
  obtain ⟨xx, hxx⟩ : ∃ x, x = (buildM (spL a w0)).2 := ⟨_, rfl⟩
  rw [← hxx] at hcall
  have HXX := Lib.hid hxx
  refine hcall.mono ?_
  clear hcall hs hxx hBw6 hzw6 b0
  rintro e w7 ⟨a7, n7, c7, e7, rfl, hB7, k7⟩
  have k57 := hkw6.trans' k7
  replace hkA := hkA.trans' k57
  replace BB := BB.keep k57 fun h => h
  replace hX := Sl.keep hX k57 fun _ _ _ h => h
  replace hB5 := Sl.keep hB5 k57 fun _ _ _ h => h
  have b1 := BB.cell 1
  clear k7 k57 hkw6 c2
  go_wp2_with fail
  have hkw8 : Keep No w7 (w7.alloc (.cells #[.string ⟨#[102]⟩, .int .i64 2, .int .u64 (b : Int), .bool w1] 84)) := (Keep.refl _ _).alloc _
  have hBw8 : Blk (w7.alloc (.cells #[.string ⟨#[102]⟩, .int .i64 2, .int .u64 (b : Int), .bool w1] 84)) w7.heap.size #[.string ⟨#[102]⟩, .int .i64 2, .int .u64 (b : Int), .bool w1] 84 := Blk.new _ _ _
  have hzw8 : (w7.alloc (.cells #[.string ⟨#[102]⟩, .int .i64 2, .int .u64 (b : Int), .bool w1] 84)).heap.size = w7.heap.size + 1 := World.size_alloc _ _
  generalize w7.alloc (.cells #[.string ⟨#[102]⟩, .int .i64 2, .int .u64 (b : Int), .bool w1] 84) = w8 at *
  have hs : SpR (fun _ => True) w8 (spL b w1) (.slice none 0 0) (.slice none 0 0) (.slice (some ⟨gx, 0, none⟩) 256 256) (.slice none 0 0) (.slice (some ⟨w7.heap.size, 0, none⟩) 1 1) (.slice none 0 0) :=
    ⟨Fl.nil, Sl.nil _ _ _, Sl.keep hX hkw8 fun _ _ _ h => h, Sl.nil _ _ _, fl_rows hBw8 rfl (by decide) rfl rfl, Fl.nil⟩
  have hcall := built_any hs (spL_ok w1 hb)
  obtain ⟨xy, hxy⟩ : ∃ x, x = (buildM (spL b w1)).2 := ⟨_, rfl⟩
  rw [← hxy] at hcall
  have HXY := Lib.hid hxy
  refine hcall.mono ?_
  clear hcall hs hxy hBw8 hzw8 b1
  rintro e w9 ⟨a9, n9, c9, e9, rfl, hB9, k9⟩
  have k79 := hkw8.trans' k9
  replace hkA := hkA.trans' k79
  replace BB := BB.keep k79 fun h => h
  replace hB5 := Sl.keep hB5 k79 fun _ _ _ h => h
  replace hB7 := Sl.keep hB7 k79 fun _ _ _ h => h
  clear k9 k79 hkw8 hX
  have hxl : xx.length = 768 := by
    rw [HXX.out, buildM_out (goodL w0 ha).may (strL _ _) (by rw [lenL]; decide)]
    exact lenL a w0
  have hn7 : n7 = 768 := by
    obtain ⟨_, _, e, _⟩ := Sl.shape hB7
    injection e with _ e _
    exact e.trans hxl
  subst hn7
  go_wp2_with fail
  have hkw10 : Keep No w9 (w9.alloc (.cells #[.string ⟨#[112]⟩, .slice a5 n5 c5, .string ⟨#[120]⟩, .slice a7 768 c7, .string ⟨#[121]⟩, .slice a9 n9 c9] 29)) := (Keep.refl _ _).alloc _
  have hBw10 : Blk (w9.alloc (.cells #[.string ⟨#[112]⟩, .slice a5 n5 c5, .string ⟨#[120]⟩, .slice a7 768 c7, .string ⟨#[121]⟩, .slice a9 n9 c9] 29)) w9.heap.size #[.string ⟨#[112]⟩, .slice a5 n5 c5, .string ⟨#[120]⟩, .slice a7 768 c7, .string ⟨#[121]⟩, .slice a9 n9 c9] 29 := Blk.new _ _ _
  have hzw10 : (w9.alloc (.cells #[.string ⟨#[112]⟩, .slice a5 n5 c5, .string ⟨#[120]⟩, .slice a7 768 c7, .string ⟨#[121]⟩, .slice a9 n9 c9] 29)).heap.size = w9.heap.size + 1 := World.size_alloc _ _
  generalize w9.alloc (.cells #[.string ⟨#[112]⟩, .slice a5 n5 c5, .string ⟨#[120]⟩, .slice a7 768 c7, .string ⟨#[121]⟩, .slice a9 n9 c9] 29) = w10 at *
  have hf : FlO w10 w9.heap.size 29 2 encP (.slice (some ⟨w9.heap.size, 0, none⟩) 3 3) [(.string ⟨#[112]⟩, .slice a5 n5 c5), (.string ⟨#[120]⟩, .slice a7 768 c7), (.string ⟨#[121]⟩, .slice a9 n9 c9)] :=
    own_blk hBw10 (Nat.le_refl _) (n := 3) (size := 2) rfl (by unfold maxLen; omega)
  have HLP : Hid (xp.length ≤ 1099511627776) := Lib.hid (by rw [HXP.out]; exact bm_le _)
  have HLX : Hid (xx.length ≤ 1099511627776) := Lib.hid (by rw [HXX.out]; exact bm_le _)
  have HLY : Hid (xy.length ≤ 1099511627776) := Lib.hid (by rw [HXY.out]; exact bm_le _)
  have hor := clorder_any (w := w10) [112] (by decide) (fir_own (fs := [([112], xp), ([120], xx), ([121], xy)]) hf rfl
      (fir_one (fok (n := [112]) (Sl.keep hB5 hkw10 fun _ _ _ h => h)) (fir_one (fok (n := [120]) (Sl.keep hB7 hkw10 fun _ _ _ h => h)) (fir_one (fok (n := [121]) (Sl.keep hB9 hkw10 fun _ _ _ h => h)) fir_no))))
    (fun f hf => by
      simp only [List.mem_cons, List.not_mem_nil, or_false] at hf
      rcases hf with rfl | rfl | rfl
      · exact HLP.out
      · exact HLX.out
      · exact HLY.out)
  have e1 : orderM [112] [([112], xp), ([120], xx), ([121], xy)] = (0, us17 w0 w1 w2 a b N) := by
    have h := order17 w0 w1 w2 ha hb hNb
    unfold fs17f at h
    rw [← HXP.out, ← HXX.out, ← HXY.out] at h
    exact h
  have hsg := orderM_segs [112] [([112], xp), ([120], xx), ([121], xy)]
  have him := orderM_imok [112] [([112], xp), ([120], xx), ([121], xy)]
  rw [e1] at hor hsg him
  have h2 := bases17 w0 w1 w2 a b N
  have h3 := place17 w0 w1 w2 a b N
  have h4 : wordsM (us17 w0 w1 w2 a b N) ms17 = if w2 then (0, [wd1 a N, wd2 N]) else (32, []) := by
    cases w2
    · exact words17f w0 w1 a b N
    · exact words17t w0 w1 a b N
  have hle : (us17 w0 w1 w2 a b N).length = 3 := rfl
  replace hkA := hkA.trans' hkw10
  replace BB := BB.keep hkw10 fun h => h
  clear e1 hf HXP HXX HXY hkw10 hBw10 hzw10 hB5 hB7 hB9 hxl
  dsimp only at hor hsg him
  generalize us17 w0 w1 w2 a b N = us at *
  have HSG := Lib.hid hsg
  have HIM := Lib.hid him
  have H2 := Lib.hid h2
  have H3 := Lib.hid h3
  have H4 := Lib.hid h4
  clear hsg him h2 h3 h4
  refine hor.mono ?_
  clear hor
  rintro e w11 ⟨vo, ps, rfl, hvo, hus, k11⟩
  replace hkA := hkA.trans' k11
  replace BB := BB.keep k11 fun h => h
  obtain ⟨ao, no, co, rfl⟩ : ∃ a n c, vo = .slice a n c := by
    obtain ⟨a, c, e, _⟩ := hvo.shape
    exact ⟨_, _, _, e⟩
  clear k11
  have hba := lbases_any (w := w11) hvo hus (fun u hu => (HSG.out u hu).span) (by omega)
  rw [H2.out] at hba
  have HVO := Lib.hid hvo
  have HUS := Lib.hid hus
  clear hvo hus
  go_wp2_with fail
  refine hba.mono ?_
  clear hba
  rintro e w12 ⟨vb, rfl, hvb, k12⟩
  replace hkA := hkA.trans' k12
  replace BB := BB.keep k12 fun h => h
  have hpl := lplace_any (w := w12) (HVO.out.no k12) (HUS.out.keep k12 fun _ _ _ h => h) HSG.out (by omega) hvb.fl (by decide)
  have HMB := Lib.hid (layL_bo (bs := [4096, 5120, 6144]) HSG.out (by omega))
  rw [H3.out] at hpl HMB
  obtain ⟨av, nv, cv, rfl⟩ := FlO.sh hvb
  clear hvb
  go_wp2_with fail
  refine hpl.mono ?_
  clear hpl
  rintro e w13 ⟨vm, rfl, hvm, _, k13⟩
  replace hkA := hkA.trans' k13
  replace BB := BB.keep k13 fun h => h
  have k1113 := k12.trans' k13
  try dsimp only at hvm HMB
  have hwo := rewords_any (w := w13) (HVO.out.no k1113) (HUS.out.keep k1113 fun _ _ _ h => h) HIM.out (by omega) hvm.fl HMB.out
  rw [H4.out] at hwo
  have gm1 := md_at hvm.fl (i := 1) (m := ⟨[120], 5120, 5120, 5888, false, 0, 0⟩) rfl
  obtain ⟨gm, om, cm, rfl, hgm, hcm1, hcm2, hcm⟩ := gm1
  have cb : w13.cell? ⟨gm, om + 1 * 7 + 1, none⟩ = some (.int .u64 5120) := hcm 1 _ rfl
  clear hcm HMB H2 H3 H4 HSG HIM HVO HUS k12 k13 k1113 hvm
  have hml : ms17.length = 3 := rfl
  rw [hml] at hcm1 hwo ⊢
  have hcm3 : cm ≤ 9223372036854775807 := by unfold maxLen at hcm2; omega
  go_wp2_with fail
  refine hwo.mono ?_
  clear hwo
  rintro e w14 ⟨vw, rfl, hvw, k14⟩
  replace hkA := hkA.trans' k14
  replace BB := BB.keep k14 fun h => h
  replace cb := (k14.cell (p := ⟨gm, om + 1 * 7 + 1, none⟩) hgm fun h => h).trans cb
  rw [show om + 1 * 7 + 1 = om + 8 from by omega] at cb
  have b2 := BB.cell 2
  clear k14 hgm hcm2
  cases w2 with
  | false =>
    obtain ⟨a14, c14, e14, _⟩ := hvw.fl.shape
    subst e14
    clear hvw
    trace_state
    go_wp2_with fail
    go_ret
    exact ⟨rfl, hkA⟩
  | true =>
    obtain ⟨gw, ow, cw, rfl, _, hgw, hcw1, hcw2, hw0⟩ := hvw.fl.at encWd_len (i := 0) (Nat.succ_pos 1)
    obtain ⟨gw1, ow1, cw1, ev, _, _, _, _, hw1⟩ := hvw.fl.at encWd_len (i := 1) (Nat.lt_succ_self 1)
    injection ev with ev el e3
    injection ev with ev
    injection ev with e1 e2
    subst e1 e2 e3
    have d01 : w14.cell? ⟨gw, ow + 0 * 3 + 1, none⟩ = some (.int .u64 ((wd1 a N).val : Int)) := hw0 1 _ rfl
    have d02 : w14.cell? ⟨gw, ow + 0 * 3 + 2, none⟩ = some (.int .i64 1) := hw0 2 _ rfl
    have d11 : w14.cell? ⟨gw, ow + 1 * 3 + 1, none⟩ = some (.int .u64 ((wd2 N).val : Int)) := hw1 1 _ rfl
    have d12 : w14.cell? ⟨gw, ow + 1 * 3 + 2, none⟩ = some (.int .i64 (-1)) := hw1 2 _ rfl
    have hl2 : 2 ≤ cw := hcw1
    have hcw3 : cw ≤ 9223372036854775807 := by unfold maxLen at hcw2; omega
    have e1 : ((wd1 a N).val : Int) = (5632 + (a : Int) + z) % 18446744073709551616 := by
      unfold wd1
      dsimp only
      rw [HNZ.out]
      omega
    have e2 : ((wd2 N).val : Int) = (N : Int) := by
      unfold wd2
      dsimp only
      rw [HNZ.out, HN.out]
      omega
    rw [e2] at d11
    generalize (wd1 a N).val = rv at *
    rw [show ow + 0 * 3 + 1 = ow + 1 from by omega] at d01
    rw [show ow + 0 * 3 + 2 = ow + 2 from by omega] at d02
    rw [show ow + 1 * 3 + 1 = ow + 4 from by omega] at d11
    rw [show ow + 1 * 3 + 2 = ow + 5 from by omega] at d12
    obtain ⟨s, hs⟩ : ∃ s : Nat, s = 5632 + a := ⟨_, rfl⟩
    have hw1 : IntKind.u64.wrap (5632 + (a : Int)) = (s : Int) := by rw [IntKind.wrap_u64]; omega
    have hw2 : IntKind.u64.wrap ((s : Int) + (N : Int)) = (rv : Int) := by rw [IntKind.wrap_u64, e1, HN.out]; omega
    clear hw0 el hvw hcw1 hcw2 e1 e2 hs ha hb hz1 hz2 hNb hgw
    have hln : [wd1 a N, wd2 N].length = 2 := rfl
    trace_state
    go_wp2_with fail
    go_upto_region 15 with fail
    go_quiet (fail)
    go_wp2_with fail
    go_ret
    exact ⟨rfl, hkA.drewN _⟩
end
end Go.Proofs.Ytbnahidopemkiaa
namespace Go.Proofs.Ytbnahidopemkiaa
open Go.RowKit Go.Dm Go.Dm.Oc Go.Dm.Ld
section
variable {A B : Nat → Prop} {w : World} {v : Value}
theorem rd3b {cs : Array Value} {y : List Bool} (h : Rd A w (.arr 3 .bool) cs.toList y) : ∃ x0 x1 x2 : Bool, cs = #[.bool x0, .bool x1, .bool x2] := by
  obtain ⟨css, hc, h1, h2, h3⟩ := h
  match css, h1, y, h2, h3 with
  | [c0, c1, c2], _, [x0, x1, x2], _, h3 =>
    have e0 : c0 = [.bool x0] := h3 0 c0 x0 rfl rfl
    have e1 : c1 = [.bool x1] := h3 1 c1 x1 rfl rfl
    have e2 : c2 = [.bool x2] := h3 2 c2 x2 rfl rfl
    subst e0 e1 e2
    refine ⟨x0, x1, x2, ?_⟩
    apply Array.toList_inj.1
    rw [hc]
    rfl
theorem relocfirst_rd {a b z : Int} {c : Array Value} {y : List Bool} (ha : (Lit.int .u8 a).wf = true) (hb : (Lit.int .u8 b).wf = true) (h : Rd A w (.arr 3 .bool) c.toList y) (hz : (Lit.int .i32 z).wf = true) :
    Calls Try.prog 9 #[.int .u8 a, .int .u8 b, .agg c, .int .i32 z] w fun e w' => e = .returned (.bool true) ∧ Keep No w w' := by
  obtain ⟨x, rfl⟩ := u8_of ha
  obtain ⟨y', rfl⟩ := u8_of hb
  obtain ⟨w0, w1, w2, rfl⟩ := rd3b h
  simp [Lit.wf, IntKind.min, IntKind.max, IntKind.signed, IntKind.bits] at hz
  exact relocfirst_any x.toNat y'.toNat w0 w1 w2 z x.toNat_lt y'.toNat_lt (by omega) (by omega)
end
end Go.Proofs.Ytbnahidopemkiaa
