/- The document's segments: Check. No condition. -/
import Derived.Test.YtbnahidopemkiaaGreatDz5
import Derived.BigQuiet
set_option linter.unusedVariables false
set_option linter.unusedSimpArgs false
namespace Go.Dm.Ld
open Go Go.Dm.Oc
/-- what the segments ahead of one (the last first) say of it -/
def inG (s : Sg) : List Sg → Nat
  | [] => 0
  | x :: r => if s.ty = 1 ∧ x.ty = 1 then (if firstM s < lastM x then 12 else 0) else if s.ty = x.ty ∧ (s.ty = 2 ∨ s.ty = 7) then 12 else inG s r
def chkB (size : Nat) : List Sg → List Sg → Nat
  | _, [] => 0
  | pre, s :: r => if oneE s size ≠ 0 then oneE s size else if inG s pre.reverse ≠ 0 then inG s pre.reverse else chkB size (pre ++ [s]) r
def lastOf : List Sg → Nat
  | [] => 0
  | x :: r => if x.ty = 1 then lastM x else lastOf r
theorem inG_one {s : Sg} (h : s.ty = 1) (q : List Sg) : inG s q = if firstM s < lastOf q then 12 else 0 := by
  induction q with
  | nil => rfl
  | cons x r ih =>
    unfold inG lastOf
    by_cases hx : x.ty = 1
    · rw [if_pos ⟨h, hx⟩, if_pos hx]
    · rw [if_neg (fun q => hx q.2), if_neg (fun q => by omega), if_neg hx, ih]
theorem inG_single {s : Sg} (h : s.ty = 2 ∨ s.ty = 7) (q : List Sg) : inG s q = if q.any (fun x => x.ty == s.ty) = true then 12 else 0 := by
  induction q with
  | nil => rfl
  | cons x r ih =>
    unfold inG
    rw [if_neg (fun q => by omega), List.any_cons]
    by_cases hx : s.ty = x.ty
    · rw [if_pos ⟨hx, h⟩, show (x.ty == s.ty) = true by rw [beq_iff_eq]; exact hx.symm, Bool.true_or, if_pos rfl]
    · rw [if_neg (fun q => hx q.1), show (x.ty == s.ty) = false by rw [beq_eq_false_iff_ne]; exact fun e => hx e.symm, Bool.false_or, ih]
theorem inG_other {s : Sg} (h1 : s.ty ≠ 1) (h2 : ¬ (s.ty = 2 ∨ s.ty = 7)) (q : List Sg) : inG s q = 0 := by
  induction q with
  | nil => rfl
  | cons x r ih =>
    unfold inG
    rw [if_neg (fun q => h1 q.1), if_neg (fun q => h2 q.2), ih]
theorem chkA_B (size : Nat) : ∀ (l pre : List Sg), chkA size pre (lastOf pre.reverse) l = chkB size pre l
  | [], pre => by unfold chkA chkB; rfl
  | s :: r, pre => by
    have ih := chkA_B size r (pre ++ [s])
    have er : (pre ++ [s]).reverse = s :: pre.reverse := by simp
    rw [er] at ih
    have el : lastOf (s :: pre.reverse) = if s.ty = 1 then lastM s else lastOf pre.reverse := rfl
    rw [el] at ih
    unfold chkA chkB
    by_cases h0 : oneE s size ≠ 0
    · rw [if_pos h0, if_pos h0]
    · rw [if_neg h0, if_neg h0]
      by_cases h1 : s.ty = 1
      · have hs : singleB s = false := by unfold singleB; rw [decide_eq_false_iff_not]; omega
        rw [if_neg (by rw [hs]; exact fun q => absurd q.1 (by decide)), if_pos h1, inG_one h1]
        rw [if_pos h1] at ih
        by_cases h2 : firstM s < lastOf pre.reverse
        · rw [if_pos h2, if_pos h2, if_pos (by decide)]
        · rw [if_neg h2, if_neg h2, if_neg (by decide), ih]
      · rw [if_neg h1] at ih
        rw [if_neg h1]
        by_cases h2 : s.ty = 2 ∨ s.ty = 7
        · have hs : singleB s = true := by unfold singleB; rw [decide_eq_true_eq]; exact h2
          rw [inG_single h2, List.any_reverse]
          by_cases h3 : pre.any (fun x => x.ty == s.ty) = true
          · rw [if_pos ⟨hs, h3⟩, if_pos h3, if_pos (by decide)]
          · rw [if_neg (fun q => h3 q.2), if_neg h3, if_neg (by decide), ih]
        · have hs : singleB s = false := by unfold singleB; rw [decide_eq_false_iff_not]; exact h2
          rw [if_neg (by rw [hs]; exact fun q => absurd q.1 (by decide)), inG_other h1 h2, if_neg (by decide), ih]
def badW (l : List Sg) (s : Sg) : Bool := singleB s && !withinB l s
def endE (l : List Sg) : Nat := if l.any (badW l) then 11 else 0
/-- Check, from a place on -/
def chkL (l : List Sg) (size i : Nat) : Nat := if chkB size (l.take i) (l.drop i) ≠ 0 then chkB size (l.take i) (l.drop i) else endE l
theorem chkE_L (l : List Sg) (size : Nat) : chkE l size = chkL l size 0 := by
  have h := chkA_B size l []
  have e : lastOf ([] : List Sg).reverse = 0 := rfl
  rw [e] at h
  unfold chkE chkL endE
  rw [List.take_zero, List.drop_zero, h]
  rfl
theorem chkL_step {l : List Sg} {size i : Nat} (hi : i < l.length) : chkL l size i = if oneE l[i] size ≠ 0 then oneE l[i] size else if inG l[i] (l.take i).reverse ≠ 0 then inG l[i] (l.take i).reverse else chkL l size (i + 1) := by
  unfold chkL
  rw [List.drop_eq_getElem_cons hi, List.take_succ_eq_append_getElem hi]
  have e : chkB size (l.take i) (l[i] :: l.drop (i + 1)) = if oneE l[i] size ≠ 0 then oneE l[i] size else if inG l[i] (l.take i).reverse ≠ 0 then inG l[i] (l.take i).reverse else chkB size (l.take i ++ [l[i]]) (l.drop (i + 1)) := by
    rw [chkB]
  rw [e]
  by_cases h1 : oneE l[i] size ≠ 0
  · rw [if_pos h1, if_pos h1, if_pos h1]
  · rw [if_neg h1, if_neg h1]
    by_cases h2 : inG l[i] (l.take i).reverse ≠ 0
    · rw [if_pos h2, if_pos h2, if_pos h2]
    · rw [if_neg h2, if_neg h2]
theorem chkL_end {l : List Sg} {size : Nat} : chkL l size l.length = endE l := by
  unfold chkL
  rw [List.drop_of_length_le (Nat.le_refl _)]
  have e : ∀ p, chkB size p [] = 0 := fun p => by unfold chkB; rfl
  rw [e, if_neg (by decide)]
theorem inG_step {l : List Sg} {s : Sg} {j : Nat} (hj : j < l.length) : inG s (l.take (j + 1)).reverse = if s.ty = 1 ∧ l[j].ty = 1 then (if firstM s < lastM l[j] then 12 else 0) else if s.ty = l[j].ty ∧ (s.ty = 2 ∨ s.ty = 7) then 12 else inG s (l.take j).reverse := by
  rw [List.take_succ_eq_append_getElem hj, List.reverse_append, List.reverse_singleton, List.singleton_append, inG]
theorem oneE_lt {s : Sg} {size : Nat} (h : oneE s size = 0) (h0 : s.ty ≠ 0) : s.off + s.fi ≤ size ∧ s.fi ≤ s.me ∧ s.va + s.me ≤ 4294967296 := by
  unfold oneE at h
  split at h
  · cases h
  · split at h
    · cases h
    · split at h
      · cases h
      · split at h
        · cases h
        · omega
theorem lies_eq {x s : Sg} {size : Nat} (hz : size ≤ 1000000000) (hx : oneE x size = 0) (hs : s.off + s.fi ≤ size ∧ s.fi ≤ s.me ∧ s.va + s.me ≤ 4294967296) :
    liesB x s = decide (x.ty = 1 ∧ x.off ≤ s.off ∧ s.off + s.fi ≤ x.off + x.fi ∧ s.va + x.off = x.va + s.off) := by
  unfold liesB
  rw [decide_eq_decide]
  by_cases h : x.ty = 1
  · have h2 := oneE_lt hx (by omega)
    rw [Nat.mod_eq_of_lt (by omega), Nat.mod_eq_of_lt (by omega)]
    omega
  · exact ⟨fun q => absurd q.1 h, fun q => absurd q.1 h⟩
end Go.Dm.Ld
namespace Go.Proofs.YtbnahidopemkiaaGreat
open Go.RowKit Go.Dm Go.Dm.Oc Go.Dm.Ld
theorem _root_.Go.Dm.Fl.cells {α : Type} {A : Nat → Prop} {w : World} {k g off n c : Nat} {enc : α → List Value} {l : List α} (h : Fl A w k enc (.slice (some ⟨g, off, none⟩) n c) l) (hk : ∀ x, (enc x).length = k) {i : Nat} (hi : i < l.length) :
    ∀ r u, (enc l[i])[r]? = some u → w.cell? ⟨g, off + i * k + r, none⟩ = some u := by
  obtain ⟨g', off', cap, e, _, _, _, _, hr⟩ := h.at hk hi
  cases e
  exact hr
theorem run_ldo {P : Program} {a : Act} {o : Oper} {w' : World} (ty : TypeId) (x : Operand) (ho : o.op = .load ty x) (b off : Nat) (hx : a.eval x = .pointer (some ⟨b, off, none⟩)) {v : Value} (h : (loadVar ty ⟨b, off, none⟩).run P w' = .ok v w') : (execOp a.eval o).run P w' = .ok (.value v) w' := by
  unfold execOp
  simp only [ho, hx, Instr.loadAt, Instr.sureAddr, Sem.run_bind, Sem.run_pure, Result.andThen_ok, h]
section
variable {A : Nat → Prop} {w : World} {v : Value}
section
variable {z0 z1 z2 z3 z4 z5 z6 z7 z8 z9 z10 z11 z12 z13 z14 z15 z16 z17 z18 z19 z20 z21 z22 z23 z24 z25 z26 z27 z28 z29 z30 z31 z32 z33 z34 z35 z36 z37 z38 z39 z40 z41 z42 z43 z44 z45 z46 z47 z48 z49 z50 z51 z52 z53 z54 z55 z56 z57 z58 z59 z60 z61 z62 z63 z64 z65 z66 z67 z68 z69 z70 z71 z72 z73 z74 z75 z76 z77 z78 z79 z80 z81 z82 z83 z84 z85 z86 z87 z88 z89 z90 z91 z92 z93 z94 z95 z96 z97 z98 z99 z100 z101 z102 z103 z104 z105 z106 z107 z108 z109 z110 z111 z112 z113 z114 z115 z116 z117 z118 z119 z120 z121 z122 z123 z124 z125 z126 z127 z128 z129 z130 z131 z132 z133 z134 z135 z136 z137 z138 z139 z140 z141 z142 z143 z144 z145 z146 z147 z148 z149 z150 z151 z152 z153 z154 z155 z156 z157 z158 z159 z160 z161 z162 z163 z164 z165 z166 z167 z168 z169 z170 z171 z172 z173 z174 z175 z176 z177 z178 z179 z180 z181 z182 z183 z184 z185 z186 z187 z188 : Value}
set_option maxRecDepth 100000 in
set_option maxHeartbeats 6000000 in
theorem chk_end2 {co n r : Nat} {ao : Option Addr} {l : List Sg} {size : Nat} (HL : Hid (Fl A w 7 encSg (.slice ao l.length co) l)) (HOK : Hid (∀ x ∈ l, SgOk x)) (HN : Hid (n = l.length)) (hz : size ≤ 1000000000)
    (HPN : Hid (∀ j (h : j < l.length), oneE l[j] size = 0)) (HE : Hid (r = endE l)) (hib : (n : Int) ≤ 9223372036854775807) {w0 : World} (hk : Keep No w w0) :
    Code.wp Tryz.prog (bodyFrom Tryz.f63 15) (bodyPost Tryz.prog Tryz.f63 fun e w' => e = .returned (.int .i64 (r : Nat)) ∧ Keep No w w') ⟨#[.slice ao n co, .int .u64 (size : Int), z2, z3, z4, z5, z6, z7, z8, z9, z10, z11, z12, z13, z14, z15, z16, z17, z18, z19, z20, z21, z22, z23, z24, z25, z26, z27, z28, z29, z30, z31, z32, z33, z34, z35, z36, z37, z38, z39, z40, z41, z42, z43, z44, z45, z46, z47, z48, z49, z50, z51, z52, z53, z54, z55, z56, z57, z58, z59, z60, z61, z62, z63, z64, z65, z66, z67, z68, z69, z70, z71, z72, z73, z74, z75, z76, z77, z78, z79, z80, z81, z82, z83, z84, z85, z86, z87, z88, z89, z90, z91, z92, z93, z94, z95, z96, z97, z98, z99, z100, z101, z102, z103, z104, z105, z106, z107, z108, z109, z110, z111, z112, z113, z114, z115, z116, z117, z118, z119, z120, z121, z122, z123, z124, z125, z126, z127, z128, z129, z130, z131, z132, z133, z134, z135, z136, z137, z138, z139, z140, z141, z142, z143, z144, z145, z146, z147, z148, z149, z150, z151, z152, z153, z154, z155, z156, z157, z158, z159, z160, z161, z162, z163, z164, z165, z166, z167, z168, z169, z170, z171, z172, z173, z174, z175, z176, z177, z178, z179, z180, z181, z182, z183, z184, z185, z186, z187, z188], []⟩ w0 := by
  conv => arg 2; whnf
  have hB0 : Hid (∀ j (h : j < l.length), j < 0 → badW l l[j] = false) := Lib.hid fun j _ h => absurd h (Nat.not_lt_zero _)
  go_wp2_with fail
  go_loopw [8, 9, 10] (fun iv _ _ wr => ∃ k : Nat, iv = .int .i64 (k : Int) ∧ k ≤ n ∧ Hid (∀ j (h : j < l.length), j < k → badW l l[j] = false) ∧ Keep No w wr) (fun iv _ _ _ => n - (intOf iv).toNat)
  case atStart => exact ⟨0, rfl, Nat.zero_le _, hB0, hk⟩
  case round =>
    clear hB0 hk
    obtain ⟨i, rfl, hi, HBW, hkF⟩ := hrel
    generalize wr = wz at *
    rcases Nat.lt_or_ge i n with hlt | hge
    · have hil : i < l.length := by rw [← HN.out]; exact hlt
      obtain ⟨g, off, cap, ev, _, hg, _, _, hc⟩ := (HL.out.no hkF).at encSg_len hil
      rw [← HN.out] at ev
      injection ev with e1 e2 e3
      subst e1 e3
      have hiz : (i : Int) < (n : Int) := by omega
      have hsk := HOK.out _ (List.getElem_mem hil)
      have hsi := HPN.out i hil
      have hbst : badW l l[i] = false → ∀ j (h : j < l.length), j < i + 1 → badW l l[j] = false := fun h j hj hj2 => by
        rcases Nat.lt_or_ge j i with h3 | h3
        · exact HBW.out j hj h3
        · obtain rfl : j = i := by omega
          exact h
      have hcw := fun W (k : Keep No w W) => (HL.out.no k).cells encSg_len hil
      have hbad : badW l l[i] = true → r = 11 := fun h => by
        rw [HE.out]
        unfold endE
        rw [if_pos (List.any_eq_true.2 ⟨_, List.getElem_mem hil, h⟩)]
      generalize l[i] = s at *
      have HBAD := Lib.hid hbad
      have HBST := Lib.hid hbst
      have HC := Lib.hid hcw
      have hlim := oneE_lt hsi
      obtain ⟨s0, s1, s2, s3, s4, s5, s6⟩ := s
      obtain ⟨b0, b1, b2, b3, b4, b5, b6⟩ := hsk
      have d0 := HC.out wz hkF 0 _ rfl
      have d4 := HC.out wz hkF 4 _ rfl
      dsimp only at d0 d4 hlim b0 b1 b2 b3 b4 b5 b6
      rw [Nat.add_zero] at d0
      clear hc e2 hbad hbst hcw hsi HBW
      by_cases h0 : s0 = 2 ∨ s0 = 7
      · by_cases h4 : s4 = 0
        · subst h4
          have HG2 := Lib.hid (HBST.out (by unfold badW withinB; simp))
          have n0 : ((s0 : Int) != 2) = decide (s0 = 7) := by rcases h0 with rfl | rfl <;> rfl
          have n1 : ((s0 : Int) != 7) = decide (s0 = 2) := by rcases h0 with rfl | rfl <;> rfl
          rcases h0 with rfl | rfl
          ·
            go_wp2_with fail
            go_roundw
            case rel => exact ⟨i + 1, by go_num, hlt, HG2, hkF⟩
            case measure => (simp [intOf]; try omega)
          ·
            go_wp2_with fail
            go_roundw
            case rel => exact ⟨i + 1, by go_num, hlt, HG2, hkF⟩
            case measure => (simp [intOf]; try omega)
        · have hl4 := hlim (by omega)
          have hsz : singleB ⟨s0, s1, s2, s3, s4, s5, s6⟩ = true := by unfold singleB; rw [decide_eq_true_eq]; exact h0
          have hwi : withinB l ⟨s0, s1, s2, s3, s4, s5, s6⟩ = l.any fun y => liesB y ⟨s0, s1, s2, s3, s4, s5, s6⟩ := by
            unfold withinB
            rw [decide_eq_false h4, Bool.false_or]
          have hbw : badW l ⟨s0, s1, s2, s3, s4, s5, s6⟩ = !(l.any fun y => liesB y ⟨s0, s1, s2, s3, s4, s5, s6⟩) := by
            unfold badW
            rw [hsz, hwi, Bool.true_and]
          rw [hbw] at HBAD HBST
          have n4 : ((s4 : Int) == 0) = false := by rw [beq_eq_false_iff_ne]; omega
          have hIN : Hid (false = (l.take 0).any fun y => liesB y ⟨s0, s1, s2, s3, s4, s5, s6⟩) := Lib.hid rfl
          have n1 : Hid (s0 = 2 ∨ s0 = 7) := Lib.hid h0
          have LIM : Hid ((⟨s0, s1, s2, s3, s4, s5, s6⟩ : Sg).off + (⟨s0, s1, s2, s3, s4, s5, s6⟩ : Sg).fi ≤ size ∧ (⟨s0, s1, s2, s3, s4, s5, s6⟩ : Sg).fi ≤ (⟨s0, s1, s2, s3, s4, s5, s6⟩ : Sg).me ∧ (⟨s0, s1, s2, s3, s4, s5, s6⟩ : Sg).va + (⟨s0, s1, s2, s3, s4, s5, s6⟩ : Sg).me ≤ 4294967296) := Lib.hid hl4
          clear hsz hwi hbw hlim hl4
          rcases h0 with rfl | rfl
          ·
            go_wp2_with fail
            go_loopw [9, 10] (fun bv kv wr => ∃ (b : Bool) (k : Nat), bv = .bool b ∧ kv = .int .i64 (k : Int) ∧ k ≤ n ∧ Hid (b = (l.take k).any fun y => liesB y ⟨2, s1, s2, s3, s4, s5, s6⟩) ∧ Keep No w wr) (fun _ kv _ => n - (intOf kv).toNat)
            case atStart => exact ⟨false, 0, rfl, rfl, Nat.zero_le _, hIN, hkF⟩
            case round =>
              clear hIN hkF d0 d4
              obtain ⟨b, k, rfl, rfl, hkn, HB, hkF⟩ := hrel
              generalize wr = wy at *
              rcases Nat.lt_or_ge k n with hklt | hkge
              · have hkl : k < l.length := by rw [← HN.out]; exact hklt
                have hkz : (k : Int) < (n : Int) := by omega
                have hcj := (HL.out.no hkF).cells encSg_len hkl
                have hsk := HOK.out _ (List.getElem_mem hkl)
                have hsi := HPN.out k hkl
                have ht : (l.take (k + 1)).any (fun y => liesB y ⟨2, s1, s2, s3, s4, s5, s6⟩) = ((l.take k).any (fun y => liesB y ⟨2, s1, s2, s3, s4, s5, s6⟩) || liesB l[k] ⟨2, s1, s2, s3, s4, s5, s6⟩) := by
                  rw [List.take_succ_eq_append_getElem hkl, List.any_append, List.any_cons, List.any_nil, Bool.or_false]
                generalize l[k] = x at *
                have HT := Lib.hid ht
                have hlx := oneE_lt hsi
                have hlies := lies_eq (s := ⟨2, s1, s2, s3, s4, s5, s6⟩) hz hsi LIM.out
                obtain ⟨x0, x1, x2, x3, x4, x5, x6⟩ := x
                obtain ⟨y0, y1, y2, y3, y4, y5, y6⟩ := hsk
                have c0 := hcj 0 _ rfl
                have c2 := hcj 2 _ rfl
                have c3 := hcj 3 _ rfl
                have c4 := hcj 4 _ rfl
                have d2 := HC.out wy hkF 2 _ rfl
                have d3 := HC.out wy hkF 3 _ rfl
                have d4 := HC.out wy hkF 4 _ rfl
                dsimp only at d2 d3 d4 c0 c2 c3 c4 y0 y1 y2 y3 y4 y5 y6 hlx
                rw [Nat.add_zero] at c0
                dsimp only at hlies
                have HLI := Lib.hid hlies
                clear ht hcj hsi hlies
                have hli := LIM.out
                by_cases hA : x0 = 1
                · subst hA
                  have hx := hlx (by decide)
                  clear hlx
                  by_cases hB : x2 ≤ s2
                  · have gB : (x2 : Int) ≤ (s2 : Int) := by omega
                    obtain ⟨p1, hp1⟩ : ∃ q, q = s2 + s4 := ⟨_, rfl⟩
                    obtain ⟨p2, hp2⟩ : ∃ q, q = x2 + x4 := ⟨_, rfl⟩
                    have w1 : IntKind.u64.wrap ((s2 : Int) + (s4 : Int)) = (p1 : Int) := by rw [IntKind.wrap_u64]; omega
                    have w2 : IntKind.u64.wrap ((x2 : Int) + (x4 : Int)) = (p2 : Int) := by rw [IntKind.wrap_u64]; omega
                    by_cases hC : p1 ≤ p2
                    · have gC : (p1 : Int) ≤ (p2 : Int) := by omega
                      obtain ⟨q1, hq1⟩ : ∃ q, q = s3 + x2 := ⟨_, rfl⟩
                      obtain ⟨q2, hq2⟩ : ∃ q, q = x3 + s2 := ⟨_, rfl⟩
                      have w3 : IntKind.u64.wrap ((s3 : Int) + (x2 : Int)) = (q1 : Int) := by rw [IntKind.wrap_u64]; omega
                      have w4 : IntKind.u64.wrap ((x3 : Int) + (s2 : Int)) = (q2 : Int) := by rw [IntKind.wrap_u64]; omega
                      by_cases hD : q1 = q2
                      · have hlb : liesB ⟨1, x1, x2, x3, x4, x5, x6⟩ ⟨2, s1, s2, s3, s4, s5, s6⟩ = true := by
                          rw [HLI.out, decide_eq_true_eq]; omega
                        have gD : ((q1 : Int) == (q2 : Int)) = true := by rw [beq_iff_eq]; omega
                        clear hp1 hp2 hq1 hq2 hD hC hB hx hli
                        have HB2 : Hid (true = (l.take (k + 1)).any fun y => liesB y ⟨2, s1, s2, s3, s4, s5, s6⟩) := Lib.hid (by rw [HT.out, hlb]; first | exact (Bool.or_true _).symm | rw [Bool.or_false]; exact HB.out)
                        go_wp2_with fail
                        go_quiet (fail)
                        go_wp2_with fail
                        go_roundw
                        case rel => exact ⟨true, k + 1, rfl, by go_num, hklt, HB2, hkF.drewN _⟩
                        case measure => (simp [intOf]; try omega)
                      · have hlb : liesB ⟨1, x1, x2, x3, x4, x5, x6⟩ ⟨2, s1, s2, s3, s4, s5, s6⟩ = false := by
                          rw [HLI.out, decide_eq_false_iff_not]; omega
                        have gD : ((q1 : Int) == (q2 : Int)) = false := by rw [beq_eq_false_iff_ne]; omega
                        clear hp1 hp2 hq1 hq2 hD hC hB hx hli
                        have HB2 : Hid (b = (l.take (k + 1)).any fun y => liesB y ⟨2, s1, s2, s3, s4, s5, s6⟩) := Lib.hid (by rw [HT.out, hlb]; first | exact (Bool.or_true _).symm | rw [Bool.or_false]; exact HB.out)
                        go_wp2_with fail
                        go_quiet (fail)
                        go_wp2_with fail
                        go_roundw
                        case rel => exact ⟨b, k + 1, rfl, by go_num, hklt, HB2, hkF.drewN _⟩
                        case measure => (simp [intOf]; try omega)
                    · have gC : decide ((p1 : Int) ≤ (p2 : Int)) = false := by rw [decide_eq_false_iff_not]; omega
                      have gCn : decide (p1 ≤ p2) = false := by rw [decide_eq_false_iff_not]; omega
                      have hlb : liesB ⟨1, x1, x2, x3, x4, x5, x6⟩ ⟨2, s1, s2, s3, s4, s5, s6⟩ = false := by
                        rw [HLI.out, decide_eq_false_iff_not]; omega
                      clear hp1 hp2 hC hB hx hli
                      have HB2 : Hid (b = (l.take (k + 1)).any fun y => liesB y ⟨2, s1, s2, s3, s4, s5, s6⟩) := Lib.hid (by rw [HT.out, hlb]; first | exact (Bool.or_true _).symm | rw [Bool.or_false]; exact HB.out)
                      go_wp2_with fail
                      go_quiet (fail)
                      go_wp2_with fail
                      go_roundw
                      case rel => exact ⟨b, k + 1, rfl, by go_num, hklt, HB2, hkF.drewN _⟩
                      case measure => (simp [intOf]; try omega)
                  · have gB : decide ((x2 : Int) ≤ (s2 : Int)) = false := by rw [decide_eq_false_iff_not]; omega
                    have gBn : decide (x2 ≤ s2) = false := by rw [decide_eq_false_iff_not]; omega
                    have hlb : liesB ⟨1, x1, x2, x3, x4, x5, x6⟩ ⟨2, s1, s2, s3, s4, s5, s6⟩ = false := by
                      rw [HLI.out, decide_eq_false_iff_not]; omega
                    clear hB hx hli
                    have HB2 : Hid (b = (l.take (k + 1)).any fun y => liesB y ⟨2, s1, s2, s3, s4, s5, s6⟩) := Lib.hid (by rw [HT.out, hlb]; first | exact (Bool.or_true _).symm | rw [Bool.or_false]; exact HB.out)
                    go_wp2_with fail
                    go_quiet (fail)
                    go_wp2_with fail
                    go_roundw
                    case rel => exact ⟨b, k + 1, rfl, by go_num, hklt, HB2, hkF.drewN _⟩
                    case measure => (simp [intOf]; try omega)
                · have gA : ((x0 : Int) == 1) = false := by rw [beq_eq_false_iff_ne]; omega
                  have hlb : liesB ⟨x0, x1, x2, x3, x4, x5, x6⟩ ⟨2, s1, s2, s3, s4, s5, s6⟩ = false := by
                    rw [HLI.out, decide_eq_false_iff_not]; omega
                  clear hA hlx hli
                  have HB2 : Hid (b = (l.take (k + 1)).any fun y => liesB y ⟨2, s1, s2, s3, s4, s5, s6⟩) := Lib.hid (by rw [HT.out, hlb]; first | exact (Bool.or_true _).symm | rw [Bool.or_false]; exact HB.out)
                  go_wp2_with fail
                  go_quiet (fail)
                  go_wp2_with fail
                  go_roundw
                  case rel => exact ⟨b, k + 1, rfl, by go_num, hklt, HB2, hkF.drewN _⟩
                  case measure => (simp [intOf]; try omega)
              · obtain rfl : k = n := Nat.le_antisymm hkn hkge
                have hb : b = l.any fun y => liesB y ⟨2, s1, s2, s3, s4, s5, s6⟩ := by
                  rw [HB.out, List.take_of_length_le (by rw [← HN.out]; exact Nat.le_refl _)]
                rw [← hb] at HBAD HBST
                have HBAD2 := HBAD.out
                have HBST2 := HBST.out
                clear hb HB HBAD HBST
                cases b with
                | true =>
                  have HG2 := Lib.hid (HBST2 rfl)
                  clear HBAD2 HBST2
                  go_wp2_with fail
                  go_roundw
                  case rel => exact ⟨i + 1, by go_num, hlt, HG2, hkF⟩
                  case measure => (simp [intOf]; try omega)
                | false =>
                  have hr := HBAD2 rfl
                  subst hr
                  go_wp2_with fail
                  go_ret
                  exact ⟨rfl, hkF⟩
          ·
            go_wp2_with fail
            go_loopw [9, 10] (fun bv kv wr => ∃ (b : Bool) (k : Nat), bv = .bool b ∧ kv = .int .i64 (k : Int) ∧ k ≤ n ∧ Hid (b = (l.take k).any fun y => liesB y ⟨7, s1, s2, s3, s4, s5, s6⟩) ∧ Keep No w wr) (fun _ kv _ => n - (intOf kv).toNat)
            case atStart => exact ⟨false, 0, rfl, rfl, Nat.zero_le _, hIN, hkF⟩
            case round =>
              clear hIN hkF d0 d4
              obtain ⟨b, k, rfl, rfl, hkn, HB, hkF⟩ := hrel
              generalize wr = wy at *
              rcases Nat.lt_or_ge k n with hklt | hkge
              · have hkl : k < l.length := by rw [← HN.out]; exact hklt
                have hkz : (k : Int) < (n : Int) := by omega
                have hcj := (HL.out.no hkF).cells encSg_len hkl
                have hsk := HOK.out _ (List.getElem_mem hkl)
                have hsi := HPN.out k hkl
                have ht : (l.take (k + 1)).any (fun y => liesB y ⟨7, s1, s2, s3, s4, s5, s6⟩) = ((l.take k).any (fun y => liesB y ⟨7, s1, s2, s3, s4, s5, s6⟩) || liesB l[k] ⟨7, s1, s2, s3, s4, s5, s6⟩) := by
                  rw [List.take_succ_eq_append_getElem hkl, List.any_append, List.any_cons, List.any_nil, Bool.or_false]
                generalize l[k] = x at *
                have HT := Lib.hid ht
                have hlx := oneE_lt hsi
                have hlies := lies_eq (s := ⟨7, s1, s2, s3, s4, s5, s6⟩) hz hsi LIM.out
                obtain ⟨x0, x1, x2, x3, x4, x5, x6⟩ := x
                obtain ⟨y0, y1, y2, y3, y4, y5, y6⟩ := hsk
                have c0 := hcj 0 _ rfl
                have c2 := hcj 2 _ rfl
                have c3 := hcj 3 _ rfl
                have c4 := hcj 4 _ rfl
                have d2 := HC.out wy hkF 2 _ rfl
                have d3 := HC.out wy hkF 3 _ rfl
                have d4 := HC.out wy hkF 4 _ rfl
                dsimp only at d2 d3 d4 c0 c2 c3 c4 y0 y1 y2 y3 y4 y5 y6 hlx
                rw [Nat.add_zero] at c0
                dsimp only at hlies
                have HLI := Lib.hid hlies
                clear ht hcj hsi hlies
                have hli := LIM.out
                by_cases hA : x0 = 1
                · subst hA
                  have hx := hlx (by decide)
                  clear hlx
                  by_cases hB : x2 ≤ s2
                  · have gB : (x2 : Int) ≤ (s2 : Int) := by omega
                    obtain ⟨p1, hp1⟩ : ∃ q, q = s2 + s4 := ⟨_, rfl⟩
                    obtain ⟨p2, hp2⟩ : ∃ q, q = x2 + x4 := ⟨_, rfl⟩
                    have w1 : IntKind.u64.wrap ((s2 : Int) + (s4 : Int)) = (p1 : Int) := by rw [IntKind.wrap_u64]; omega
                    have w2 : IntKind.u64.wrap ((x2 : Int) + (x4 : Int)) = (p2 : Int) := by rw [IntKind.wrap_u64]; omega
                    by_cases hC : p1 ≤ p2
                    · have gC : (p1 : Int) ≤ (p2 : Int) := by omega
                      obtain ⟨q1, hq1⟩ : ∃ q, q = s3 + x2 := ⟨_, rfl⟩
                      obtain ⟨q2, hq2⟩ : ∃ q, q = x3 + s2 := ⟨_, rfl⟩
                      have w3 : IntKind.u64.wrap ((s3 : Int) + (x2 : Int)) = (q1 : Int) := by rw [IntKind.wrap_u64]; omega
                      have w4 : IntKind.u64.wrap ((x3 : Int) + (s2 : Int)) = (q2 : Int) := by rw [IntKind.wrap_u64]; omega
                      by_cases hD : q1 = q2
                      · have hlb : liesB ⟨1, x1, x2, x3, x4, x5, x6⟩ ⟨7, s1, s2, s3, s4, s5, s6⟩ = true := by
                          rw [HLI.out, decide_eq_true_eq]; omega
                        have gD : ((q1 : Int) == (q2 : Int)) = true := by rw [beq_iff_eq]; omega
                        clear hp1 hp2 hq1 hq2 hD hC hB hx hli
                        have HB2 : Hid (true = (l.take (k + 1)).any fun y => liesB y ⟨7, s1, s2, s3, s4, s5, s6⟩) := Lib.hid (by rw [HT.out, hlb]; first | exact (Bool.or_true _).symm | rw [Bool.or_false]; exact HB.out)
                        go_wp2_with fail
                        go_quiet (fail)
                        go_wp2_with fail
                        go_roundw
                        case rel => exact ⟨true, k + 1, rfl, by go_num, hklt, HB2, hkF.drewN _⟩
                        case measure => (simp [intOf]; try omega)
                      · have hlb : liesB ⟨1, x1, x2, x3, x4, x5, x6⟩ ⟨7, s1, s2, s3, s4, s5, s6⟩ = false := by
                          rw [HLI.out, decide_eq_false_iff_not]; omega
                        have gD : ((q1 : Int) == (q2 : Int)) = false := by rw [beq_eq_false_iff_ne]; omega
                        clear hp1 hp2 hq1 hq2 hD hC hB hx hli
                        have HB2 : Hid (b = (l.take (k + 1)).any fun y => liesB y ⟨7, s1, s2, s3, s4, s5, s6⟩) := Lib.hid (by rw [HT.out, hlb]; first | exact (Bool.or_true _).symm | rw [Bool.or_false]; exact HB.out)
                        go_wp2_with fail
                        go_quiet (fail)
                        go_wp2_with fail
                        go_roundw
                        case rel => exact ⟨b, k + 1, rfl, by go_num, hklt, HB2, hkF.drewN _⟩
                        case measure => (simp [intOf]; try omega)
                    · have gC : decide ((p1 : Int) ≤ (p2 : Int)) = false := by rw [decide_eq_false_iff_not]; omega
                      have gCn : decide (p1 ≤ p2) = false := by rw [decide_eq_false_iff_not]; omega
                      have hlb : liesB ⟨1, x1, x2, x3, x4, x5, x6⟩ ⟨7, s1, s2, s3, s4, s5, s6⟩ = false := by
                        rw [HLI.out, decide_eq_false_iff_not]; omega
                      clear hp1 hp2 hC hB hx hli
                      have HB2 : Hid (b = (l.take (k + 1)).any fun y => liesB y ⟨7, s1, s2, s3, s4, s5, s6⟩) := Lib.hid (by rw [HT.out, hlb]; first | exact (Bool.or_true _).symm | rw [Bool.or_false]; exact HB.out)
                      go_wp2_with fail
                      go_quiet (fail)
                      go_wp2_with fail
                      go_roundw
                      case rel => exact ⟨b, k + 1, rfl, by go_num, hklt, HB2, hkF.drewN _⟩
                      case measure => (simp [intOf]; try omega)
                  · have gB : decide ((x2 : Int) ≤ (s2 : Int)) = false := by rw [decide_eq_false_iff_not]; omega
                    have gBn : decide (x2 ≤ s2) = false := by rw [decide_eq_false_iff_not]; omega
                    have hlb : liesB ⟨1, x1, x2, x3, x4, x5, x6⟩ ⟨7, s1, s2, s3, s4, s5, s6⟩ = false := by
                      rw [HLI.out, decide_eq_false_iff_not]; omega
                    clear hB hx hli
                    have HB2 : Hid (b = (l.take (k + 1)).any fun y => liesB y ⟨7, s1, s2, s3, s4, s5, s6⟩) := Lib.hid (by rw [HT.out, hlb]; first | exact (Bool.or_true _).symm | rw [Bool.or_false]; exact HB.out)
                    go_wp2_with fail
                    go_quiet (fail)
                    go_wp2_with fail
                    go_roundw
                    case rel => exact ⟨b, k + 1, rfl, by go_num, hklt, HB2, hkF.drewN _⟩
                    case measure => (simp [intOf]; try omega)
                · have gA : ((x0 : Int) == 1) = false := by rw [beq_eq_false_iff_ne]; omega
                  have hlb : liesB ⟨x0, x1, x2, x3, x4, x5, x6⟩ ⟨7, s1, s2, s3, s4, s5, s6⟩ = false := by
                    rw [HLI.out, decide_eq_false_iff_not]; omega
                  clear hA hlx hli
                  have HB2 : Hid (b = (l.take (k + 1)).any fun y => liesB y ⟨7, s1, s2, s3, s4, s5, s6⟩) := Lib.hid (by rw [HT.out, hlb]; first | exact (Bool.or_true _).symm | rw [Bool.or_false]; exact HB.out)
                  go_wp2_with fail
                  go_quiet (fail)
                  go_wp2_with fail
                  go_roundw
                  case rel => exact ⟨b, k + 1, rfl, by go_num, hklt, HB2, hkF.drewN _⟩
                  case measure => (simp [intOf]; try omega)
              · obtain rfl : k = n := Nat.le_antisymm hkn hkge
                have hb : b = l.any fun y => liesB y ⟨7, s1, s2, s3, s4, s5, s6⟩ := by
                  rw [HB.out, List.take_of_length_le (by rw [← HN.out]; exact Nat.le_refl _)]
                rw [← hb] at HBAD HBST
                have HBAD2 := HBAD.out
                have HBST2 := HBST.out
                clear hb HB HBAD HBST
                cases b with
                | true =>
                  have HG2 := Lib.hid (HBST2 rfl)
                  clear HBAD2 HBST2
                  go_wp2_with fail
                  go_roundw
                  case rel => exact ⟨i + 1, by go_num, hlt, HG2, hkF⟩
                  case measure => (simp [intOf]; try omega)
                | false =>
                  have hr := HBAD2 rfl
                  subst hr
                  go_wp2_with fail
                  go_ret
                  exact ⟨rfl, hkF⟩
      · have HG2 := Lib.hid (HBST.out (by unfold badW singleB; rw [decide_eq_false h0]; rfl))
        have n0 : ((s0 : Int) != 2) = true := by rw [bne_iff_ne]; omega
        have n1 : ((s0 : Int) != 7) = true := by rw [bne_iff_ne]; omega
        clear h0 hlim
        go_wp2_with fail
        go_roundw
        case rel => exact ⟨i + 1, by go_num, hlt, HG2, hkF⟩
        case measure => (simp [intOf]; try omega)
    · obtain rfl : i = n := Nat.le_antisymm hi hge
      have hr : r = 0 := by
        rw [HE.out]
        unfold endE
        rw [if_neg]
        intro h
        obtain ⟨x, hx, h2⟩ := List.any_eq_true.1 h
        obtain ⟨j, hj, rfl⟩ := List.mem_iff_getElem.1 hx
        rw [HBW.out j hj (by rw [HN.out]; exact hj)] at h2
        cases h2
      subst hr
      go_wp2_with fail
      go_ret
      exact ⟨rfl, hkF⟩
end
set_option maxRecDepth 100000 in
set_option maxHeartbeats 6000000 in
theorem r04chk_any (l : List Sg) (size : Nat) (hl : Fl A w 7 encSg v l) (hok : ∀ x ∈ l, SgOk x) (hz : size ≤ 1000000000) :
    Calls Tryz.prog 63 #[v, .int .u64 (size : Int)] w fun e w' => e = .returned (.int .i64 (chkE l size : Nat)) ∧ Keep No w w' := by
  have HL := Lib.hid hl
  have HOK := Lib.hid hok
  obtain ⟨ao, co, rfl, hc1, hc2⟩ := hl.shape
  have hib : (l.length : Int) ≤ 9223372036854775807 := by unfold maxLen at hc2; omega
  rw [chkE_L]
  obtain ⟨r, hr⟩ : ∃ r, r = chkL l size 0 := ⟨_, rfl⟩
  rw [← hr]
  have HR : Hid (r = chkL l size 0) := Lib.hid hr
  obtain ⟨n, hn⟩ : ∃ n, n = l.length := ⟨_, rfl⟩
  have HN := Lib.hid hn
  have HP0 : Hid (∀ j (h : j < l.length), j < 0 → oneE l[j] size = 0) := Lib.hid fun j _ h => absurd h (Nat.not_lt_zero _)
  rw [← hn] at hib ⊢
  clear hl hc1 hc2 hr hn hok
  go_enter Tryz.func63, Tryz.ntmps63
  go_upto_block 0 with fail
  go_cut [5, 6, 7] from 11 to 83 (fun _ _ _ wc => Hid (∀ j (h : j < l.length), oneE l[j] size = 0) ∧ Hid (r = endE l) ∧ Keep No w wc)
  case rest =>
    obtain ⟨HPN, HE, hk⟩ := hcut
    refine use_k (by assumption) ?_
    exact chk_end2 (A := A) HL HOK HN hz HPN HE hib hk
  case first =>
    go_wp2_with fail
    go_loopw [5, 6, 7] (fun iv _ _ wr => ∃ i : Nat, iv = .int .i64 (i : Int) ∧ i ≤ n ∧ Hid (r = chkL l size i) ∧ Hid (∀ j (h : j < l.length), j < i → oneE l[j] size = 0) ∧ Keep No w wr) (fun iv _ _ _ => n - (intOf iv).toNat)
    case atStart => exact ⟨0, rfl, Nat.zero_le _, HR, HP0, Keep.refl _ _⟩
    case round =>
      obtain ⟨i, rfl, hi, HM, HP, hk⟩ := hrel
      clear HR HP0
      generalize wr = wz at *
      rcases Nat.lt_or_ge i n with hlt | hge
      · have hil : i < l.length := by rw [← HN.out]; exact hlt
        obtain ⟨g, off, cap, ev, _, hg, _, _, hc⟩ := (HL.out.no hk).at encSg_len hil
        rw [← HN.out] at ev
        injection ev with e1 e2 e3
        subst e1 e3
        have hiz : (i : Int) < (n : Int) := by omega
        have hsk := HOK.out _ (List.getElem_mem hil)
        have hm := HM.out
        rw [chkL_step hil] at hm
        have hpst : oneE l[i] size = 0 → ∀ j (h : j < l.length), j < i + 1 → oneE l[j] size = 0 := fun h j hj hj2 => by
          rcases Nat.lt_or_ge j i with h3 | h3
          · exact HP.out j hj h3
          · obtain rfl : j = i := by omega
            exact h
        have hcw := fun W (k : Keep No w W) => (HL.out.no k).cells encSg_len hil
        generalize l[i] = s at *
        have HPS := Lib.hid hpst
        have HM2 := Lib.hid hm
        clear hm e2 HM hpst
        have hcall := fun W (k : Keep No w W) => r04alone_any (w := W) s size hsk (by omega)
        have HCA := Lib.hid hcall
        clear hcall
        have HC := Lib.hid hcw
        have HSK := Lib.hid hsk
        clear hc hsk hcw
        generalize ho : oneE s size = oe at *
        go_wp2_with (with_reducible refine wl_ld rfl _ 113 rfl _ rfl ?_)
        refine rg_lds (l := encSg s) (HC.out _ hk) Tryz.underlying113 rfl (by kernel_rfl) ?_
        go_wp2_with fail
        refine (HCA.out wz hk).mono ?_
        rintro e w2 ⟨rfl, hk2⟩
        have HO := Lib.hid ho
        clear ho
        by_cases h0 : oe = 0
        · subst h0
          have hm := HM2.out
          rw [if_neg (by decide)] at hm
          have HM3 := Lib.hid hm
          clear hm HM2
          have HP2 := Lib.hid (HPS.out rfl)
          clear HPS
          have hkF := hk.trans' hk2
          have HST : Hid (r = if inG s (l.take i).reverse ≠ 0 then inG s (l.take i).reverse else chkL l size (i + 1)) := HM3
          clear hk2 hk HM3
          go_wp2_with fail
          go_loopw [7] (fun kv wr => ∃ (kz : Int) (jj : Nat), kv = .int .i64 kz ∧ Hid (kz = (jj : Int) - 1) ∧ jj ≤ i ∧ Hid (r = if inG s (l.take jj).reverse ≠ 0 then inG s (l.take jj).reverse else chkL l size (i + 1)) ∧ Keep No w wr) (fun kv _ => (intOf kv + 1).toNat)
          case atStart => exact ⟨(i : Int) - 1, i, rfl, Lib.hid rfl, Nat.le_refl _, HST, hkF⟩
          case round =>
            obtain ⟨kz, jj, rfl, HK, hji, HI, hkF⟩ := hrel
            clear HST
            generalize wr = wy at *
            cases jj with
            | zero =>
              obtain rfl : kz = -1 := by have := HK.out; omega
              have hm := HI.out
              rw [List.take_zero, List.reverse_nil, show inG s [] = 0 from rfl, if_neg (by decide)] at hm
              have HG2 := Lib.hid hm
              clear hm
              go_wp2_with fail
              go_roundw
              case rel => exact ⟨i + 1, by go_num, hlt, HG2, HP2, hkF⟩
              case measure => (simp [intOf]; try omega)
            | succ j =>
              obtain rfl : kz = (j : Int) := by have := HK.out; omega
              have hjl : j < l.length := by omega
              have hjz : (j : Int) < (n : Int) := by omega
              have hcj := fun W (k : Keep No w W) => (HL.out.no k).cells encSg_len hjl
              have hsj := HOK.out _ (List.getElem_mem hjl)
              have hej := HP2.out j hjl (by omega)
              have hm := HI.out
              have hqq := inG_step (s := s) hjl
              generalize inG s (l.take (j + 1)).reverse = q at *
              generalize l[j] = x at *
              have HI2 := Lib.hid hm
              have HQ := Lib.hid hqq
              have hrst : x.ty = 1 → x.va + x.me ≤ 4294967296 := fun h => (oneE_lt hej (by omega)).2.2
              have HRST := Lib.hid hrst
              have HCJ := Lib.hid hcj
              have hS : ∀ W, Keep No w W → (∀ r u, (encSg s)[r]? = some u → W.cell? ⟨g, off + i * 7 + r, none⟩ = some u) ∧ (∀ r u, (encSg x)[r]? = some u → W.cell? ⟨g, off + j * 7 + r, none⟩ = some u) := fun W k => ⟨HC.out W k, HCJ.out W k⟩
              have HS := Lib.hid hS
              have d0 := HC.out wy hkF 0 _ rfl
              have c0 := HCJ.out wy hkF 0 _ rfl
              have hsk := HSK.out
              clear hm HI hej hcj hrst hS hqq
              rw [Nat.add_zero] at d0 c0
              obtain ⟨x0, x1, x2, x3, x4, x5, x6⟩ := x
              obtain ⟨s0, s1, s2, s3, s4, s5, s6⟩ := s
              dsimp only at d0 c0
              by_cases h1 : s0 = 1 ∧ x0 = 1
              · obtain ⟨rfl, rfl⟩ := h1
                have hm := HQ.out
                dsimp only at hm
                rw [if_pos ⟨rfl, rfl⟩] at hm
                have HQ3 := Lib.hid hm
                clear hm HQ
                have hf := fun W => r04first_any (w := W) ⟨1, s1, s2, s3, s4, s5, s6⟩ hsk
                have hb := fun W => r04behind_any (w := W) ⟨1, x1, x2, x3, x4, x5, x6⟩ (HRST.out rfl)
                generalize firstM ⟨1, s1, s2, s3, s4, s5, s6⟩ = fs at *
                generalize lastM ⟨1, x1, x2, x3, x4, x5, x6⟩ = lx at *
                have HF := Lib.hid hf
                have HB := Lib.hid hb
                clear hf hb hsk hsj
                have hkd := hkF.drew
                go_wp2_with fail
                refine wp_region_sig (fun w' => (∀ r u, (encSg ⟨1, s1, s2, s3, s4, s5, s6⟩)[r]? = some u → w'.cell? ⟨g, off + i * 7 + r, none⟩ = some u) ∧ (∀ r u, (encSg ⟨1, x1, x2, x3, x4, x5, x6⟩)[r]? = some u → w'.cell? ⟨g, off + j * 7 + r, none⟩ = some u)) (fun j => decide (j ≤ 99)) [(0, true), (1, true), (2, true), (3, true), (5, true), (6, true), (7, true), (8, true), (4, false), (9, false), (10, false)] (by kernel_rfl) (by kernel_rfl) (by intro c a d v w h; cases d <;> exact h) (HS.out _ hkd) ?_
                apply sig_still (o := ⟨some 46, _, _, _, _, _⟩) rfl rfl
                · intro w' hS
                  first | (go_simp; done) | (go_simp; rfl) | rfl
                go_frame
                apply sig_still (o := ⟨some 47, _, _, _, _, _⟩) rfl rfl
                · intro w' hS
                  first | (go_simp; done) | (go_simp; rfl) | rfl
                go_frame
                apply sig_still (o := ⟨some 48, _, _, _, _, _⟩) rfl rfl
                · intro w' hS
                  first | (go_simp; done) | (go_simp; rfl) | rfl
                go_frame
                apply sig_still (o := ⟨some 49, _, _, _, _, _⟩) rfl rfl
                · intro w' hS
                  exact run_ldo _ _ rfl g (off + i * 7) rfl (run_loadVar_sub w' g (off + i * 7) 113 _ _ hS.1 Tryz.underlying113 rfl (by kernel_rfl))
                go_frame
                apply sig_still (o := ⟨some 51, _, _, _, _, _⟩) rfl rfl
                · intro w' hS
                  first | (go_simp; done) | (go_simp; rfl) | rfl
                go_frame
                apply sig_still (o := ⟨some 52, _, _, _, _, _⟩) rfl rfl
                · intro w' hS
                  first | (go_simp; done) | (go_simp; rfl) | rfl
                go_frame
                apply sig_still (o := ⟨some 53, _, _, _, _, _⟩) rfl rfl
                · intro w' hS
                  first | (go_simp; done) | (go_simp; rfl) | rfl
                go_frame
                apply sig_still (o := ⟨some 54, _, _, _, _, _⟩) rfl rfl
                · intro w' hS
                  exact run_ldo _ _ rfl g (off + j * 7) rfl (run_loadVar_sub w' g (off + j * 7) 113 _ _ hS.2 Tryz.underlying113 rfl (by kernel_rfl))
                go_frame
                refine sig_eff (o := ⟨some 50, _, _, _, _, _⟩) rfl rfl (fun K hKe => ?_)
                go_wp2_with fail
                refine (HF.out _).mono ?_
                rintro e w3 ⟨rfl, hk3⟩
                replace hk3 := hkd.trans' hk3
                refine hKe _ _ ⟨fun _ => HS.out _ hk3, ?_⟩
                refine sig_eff (o := ⟨some 55, _, _, _, _, _⟩) rfl rfl (fun K hKe => ?_)
                go_wp2_with fail
                refine (HB.out _).mono ?_
                rintro e w4 ⟨rfl, hk4⟩
                replace hk4 := hk3.trans' hk4
                refine hKe _ _ ⟨fun _ => HS.out _ hk4, ?_⟩
                clear hk3 hkd hkF
                refine sig_eff (o := ⟨some 56, _, _, _, _, _⟩) rfl rfl (fun K hKe => ?_)
                go_wp2_with fail
                refine ⟨fun _ => HS.out _ hk4, ?_⟩
                refine sig_nil ?_
                have hkF := hk4
                by_cases h2 : fs < lx
                · have g2 : (fs : Int) < (lx : Int) := by omega
                  have hq := HQ3.out
                  rw [if_pos h2] at hq
                  subst hq
                  have hr := HI2.out
                  rw [if_pos (by decide)] at hr
                  subst hr
                  go_wp2_with fail
                  go_ret
                  exact ⟨rfl, hkF⟩
                · have g2 : (lx : Int) ≤ (fs : Int) := by omega
                  have hq := HQ3.out
                  rw [if_neg h2] at hq
                  subst hq
                  have hr := HI2.out
                  rw [if_neg (by decide)] at hr
                  have HG2 := Lib.hid hr
                  clear hr
                  go_wp2_with fail
                  go_roundw
                  case rel => exact ⟨i + 1, by go_num, hlt, HG2, HP2, hkF⟩
                  case measure => (simp [intOf]; try omega)
              · have hm := HQ.out
                dsimp only at hm
                rw [if_neg h1] at hm
                have g1 : ((s0 : Int) == 1 && (x0 : Int) == 1) = false := by
                  rw [Bool.and_eq_false_iff, beq_eq_false_iff_ne, beq_eq_false_iff_ne]; omega
                by_cases h2 : s0 = x0 ∧ (s0 = 2 ∨ s0 = 7)
                · rw [if_pos h2] at hm
                  subst hm
                  obtain ⟨rfl, h3⟩ := h2
                  have hr := HI2.out
                  rw [if_pos (by decide)] at hr
                  subst hr
                  have n1 : ((s0 : Int) == 1) = false := by rw [beq_eq_false_iff_ne]; omega
                  have nn : ((s0 : Int) == (s0 : Int)) = true := by rw [beq_iff_eq]
                  rcases h3 with rfl | rfl
                  · go_wp2_with fail
                    go_quiet (fail)
                    go_wp2_with fail
                    go_ret
                    exact ⟨rfl, hkF.drewN _⟩
                  · go_wp2_with fail
                    go_quiet (fail)
                    go_wp2_with fail
                    go_ret
                    exact ⟨rfl, hkF.drewN _⟩
                · rw [if_neg h2] at hm
                  subst hm
                  have HI4 := HI2
                  clear HI2 HS HRST HCJ hsk hsj g1 HQ
                  by_cases h3 : s0 = 1
                  · subst h3
                    have n1 : ((x0 : Int) == 1) = false := by rw [beq_eq_false_iff_ne]; omega
                    have n2 : ((1 : Int) == (x0 : Int)) = false := by rw [beq_eq_false_iff_ne]; omega
                    clear h1 h2
                    go_wp2_with fail
                    go_quiet (fail)
                    go_wp2_with fail
                    go_roundw
                    case rel => exact ⟨(j : Int) - 1, j, by go_num, Lib.hid rfl, by omega, HI4, hkF.drewN _⟩
                    case measure => (simp [intOf]; try omega)
                  · have n1 : ((s0 : Int) == 1) = false := by rw [beq_eq_false_iff_ne]; omega
                    by_cases h4 : s0 = x0
                    · subst h4
                      have nn : ((s0 : Int) == (s0 : Int)) = true := by rw [beq_iff_eq]
                      have n2 : ((s0 : Int) == 2) = false := by rw [beq_eq_false_iff_ne]; omega
                      have n3 : ((s0 : Int) == 7) = false := by rw [beq_eq_false_iff_ne]; omega
                      clear h1 h2
                      go_wp2_with fail
                      go_quiet (fail)
                      go_wp2_with fail
                      go_roundw
                      case rel => exact ⟨(j : Int) - 1, j, by go_num, Lib.hid rfl, by omega, HI4, hkF.drewN _⟩
                      case measure => (simp [intOf]; try omega)
                    · have n2 : ((s0 : Int) == (x0 : Int)) = false := by rw [beq_eq_false_iff_ne]; omega
                      clear h1 h2
                      go_wp2_with fail
                      go_quiet (fail)
                      go_wp2_with fail
                      go_roundw
                      case rel => exact ⟨(j : Int) - 1, j, by go_num, Lib.hid rfl, by omega, HI4, hkF.drewN _⟩
                      case measure => (simp [intOf]; try omega)
        · have hm := HM2.out
          rw [if_pos h0] at hm
          subst hm
          have gq : ((r : Int) != 0) = true := by rw [bne_iff_ne]; omega
          go_wp2_with fail
          go_ret
          exact ⟨rfl, hk.trans' hk2⟩
      · obtain rfl : i = n := Nat.le_antisymm hi hge
        have hm := HM.out
        have e1 : chkL l size i = endE l := by rw [HN.out]; exact chkL_end
        rw [e1] at hm
        have HE := Lib.hid hm
        have hpn : ∀ j (h : j < l.length), oneE l[j] size = 0 := fun j hj => HP.out j hj (by rw [HN.out]; exact hj)
        have HPN := Lib.hid hpn
        clear hm e1 hpn HM HP hge hi
        go_wp2_with fail
        go_meet
        exact ⟨HPN, HE, hk⟩
end
end Go.Proofs.YtbnahidopemkiaaGreat
