/- image: Parse. No condition. -/
import Derived.Test.YtbnahidopemkiaaGreatClN
set_option linter.unusedVariables false
set_option linter.unusedSimpArgs false
namespace Go.Proofs.YtbnahidopemkiaaGreat
open Go.RowKit Go.Dm Go.Dm.Oc Go.Dm.Ld
def encV (v : Value) : List Value := [v]
section
variable {A : Nat → Prop} {w : World}
set_option maxRecDepth 100000 in
set_option maxHeartbeats 8000000 in
theorem imparse_any {v : Value} (b : BS) (hb : Bts A w v b) (hbl : b.length ≤ 1099511627776) :
    Calls Tryz.prog 29 #[v] w fun e w' => ∃ cs, e = .returned (.tuple #[.agg cs.toArray, .int .i64 ((parseM b).1 : Nat)]) ∧ ImR (fun k => w.heap.size ≤ k) w' cs (parseM b).2 ∧ Keep No w w' := by
  have hH : Hid (parseM b = if 65536 < b.length then (13, im0)
    else if (shapeM b).1 ≠ 0 then ((shapeM b).1, im0)
    else
      match findM (shapeM b).2.2 2 with
      | none => if soundM (shapeM b).2.2 [] [] ≠ 0 then (soundM (shapeM b).2.2 [] [], im0) else (0, ⟨(shapeM b).2.1, (shapeM b).2.2, [], [], [], [], [], b⟩)
      | some s =>
        let n := namedM b (shapeM b).2.2 s
        if n.1 ≠ 0 then (n.1, im0)
        else
          let y := symsM b (shapeM b).2.2 n.2.info n.2.table
          if y.1 ≠ 0 then (y.1, im0)
          else
            let x := relsM b (shapeM b).2.2 n.2.info y.2.1.length
            if x.1 ≠ 0 then (x.1, im0)
            else if soundM (shapeM b).2.2 x.2 y.2.1 ≠ 0 then (soundM (shapeM b).2.2 x.2 y.2.1, im0)
            else (0, ⟨(shapeM b).2.1, (shapeM b).2.2, n.2.so, n.2.need, y.2.2, y.2.1, x.2, b⟩)) := Lib.hid rfl
  generalize parseM b = res at *
  have HBb := Lib.hid hb
  obtain ⟨ab, qb, rfl, hqb1, hqb2⟩ := hb.shape
  clear hb
  by_cases hbig : 65536 < b.length
  · have hH2 := hH.out.trans (if_pos hbig)
    subst hH2
    have hbi : (65536 : Int) < (b.length : Int) := by omega
    clear hH HBb
    generalize b.length = n at *
    go_enter Tryz.func29, Tryz.ntmps29
    go_wp2_with (with_reducible refine wl_stAgg rfl _ _ _ rfl _ _ rfl rfl ?_)
    have hkW : Keep No w (w.alloc (.cells #[.int .i64 0, .int .u64 0, .int .u64 0, .int .i64 0, .slice none 0 0, .string ⟨#[]⟩, .slice none 0 0, .slice none 0 0, .slice none 0 0, .slice none 0 0, .slice none 0 0] 60)) := (Keep.refl _ _).alloc _
    have hBW : Blk (w.alloc (.cells #[.int .i64 0, .int .u64 0, .int .u64 0, .int .i64 0, .slice none 0 0, .string ⟨#[]⟩, .slice none 0 0, .slice none 0 0, .slice none 0 0, .slice none 0 0, .slice none 0 0] 60)) w.heap.size #[.int .i64 0, .int .u64 0, .int .u64 0, .int .i64 0, .slice none 0 0, .string ⟨#[]⟩, .slice none 0 0, .slice none 0 0, .slice none 0 0, .slice none 0 0, .slice none 0 0] 60 := Blk.new _ _ _
    have hzW : (w.alloc (.cells #[.int .i64 0, .int .u64 0, .int .u64 0, .int .i64 0, .slice none 0 0, .string ⟨#[]⟩, .slice none 0 0, .slice none 0 0, .slice none 0 0, .slice none 0 0, .slice none 0 0] 60)).heap.size = w.heap.size + 1 := World.size_alloc _ _
    generalize w.alloc (.cells #[.int .i64 0, .int .u64 0, .int .u64 0, .int .i64 0, .slice none 0 0, .string ⟨#[]⟩, .slice none 0 0, .slice none 0 0, .slice none 0 0, .slice none 0 0, .slice none 0 0] 60) = W at *
    refine rg_stAgg hBW (by kernel_rfl) (by rfl) (by simp [Value.oneCell']) ?_
    intro w3 hB3 hk3 _
    go_wp2_with fail
    refine ret_blk_tmp rfl rfl hB3 Tryz.underlying60 rfl (by kernel_rfl) rfl ?_
    exact ⟨im0C, rfl, ImR.zero, hkW.trans hk3 fun j hj e => by have e2 : j = w.heap.size := e; omega⟩
  · have hH2 := Lib.hid (hH.out.trans (if_neg hbig))
    have hbi : ¬ ((65536 : Int) < (b.length : Int)) := by omega
    clear hH
    go_enter Tryz.func29, Tryz.ntmps29
    go_wp2_with fail
    have hkW : Keep No w (w.alloc (.cells #[.int .i64 0, .int .u64 0, .int .u64 0, .int .i64 0, .slice none 0 0, .string ⟨#[]⟩, .slice none 0 0, .slice none 0 0, .slice none 0 0, .slice none 0 0, .slice none 0 0] 60)) := (Keep.refl _ _).alloc _
    have hBW : Blk (w.alloc (.cells #[.int .i64 0, .int .u64 0, .int .u64 0, .int .i64 0, .slice none 0 0, .string ⟨#[]⟩, .slice none 0 0, .slice none 0 0, .slice none 0 0, .slice none 0 0, .slice none 0 0] 60)) w.heap.size #[.int .i64 0, .int .u64 0, .int .u64 0, .int .i64 0, .slice none 0 0, .string ⟨#[]⟩, .slice none 0 0, .slice none 0 0, .slice none 0 0, .slice none 0 0, .slice none 0 0] 60 := Blk.new _ _ _
    have hzW : (w.alloc (.cells #[.int .i64 0, .int .u64 0, .int .u64 0, .int .i64 0, .slice none 0 0, .string ⟨#[]⟩, .slice none 0 0, .slice none 0 0, .slice none 0 0, .slice none 0 0, .slice none 0 0] 60)).heap.size = w.heap.size + 1 := World.size_alloc _ _
    generalize w.alloc (.cells #[.int .i64 0, .int .u64 0, .int .u64 0, .int .i64 0, .slice none 0 0, .string ⟨#[]⟩, .slice none 0 0, .slice none 0 0, .slice none 0 0, .slice none 0 0, .slice none 0 0] 60) = W at *
    refine (oclone_any (.slice ab b.length qb) b W (Sl.keep HBb.out hkW fun _ _ _ h => h) (by omega)).mono ?_
    rintro e w1 ⟨vb, rfl, hob, hk1⟩
    have hBI := hBW.keep hk1 fun h => h
    have hkw1 := hkW.trans' hk1
    have hbb := bts_own hob
    obtain ⟨ac, qc, rfl, _, _⟩ := hbb.shape
    clear hBW HBb
    go_wp2_with fail
    have hkw2 : Keep No w1 (w1.alloc (.cells #[.int .i64 0, .int .u64 0, .int .u64 0, .int .i64 0, .slice none 0 0, .string ⟨#[]⟩, .slice none 0 0, .slice none 0 0, .slice none 0 0, .slice none 0 0, .slice ac b.length qc, .slice none 0 0, .int .u64 0, .int .u64 0, .int .u64 0, .int .u64 0, .int .u64 0, .int .u64 0, .int .u64 0, .slice none 0 0] 147)) := (Keep.refl _ _).alloc _
    have hBw2 : Blk (w1.alloc (.cells #[.int .i64 0, .int .u64 0, .int .u64 0, .int .i64 0, .slice none 0 0, .string ⟨#[]⟩, .slice none 0 0, .slice none 0 0, .slice none 0 0, .slice none 0 0, .slice ac b.length qc, .slice none 0 0, .int .u64 0, .int .u64 0, .int .u64 0, .int .u64 0, .int .u64 0, .int .u64 0, .int .u64 0, .slice none 0 0] 147)) w1.heap.size #[.int .i64 0, .int .u64 0, .int .u64 0, .int .i64 0, .slice none 0 0, .string ⟨#[]⟩, .slice none 0 0, .slice none 0 0, .slice none 0 0, .slice none 0 0, .slice ac b.length qc, .slice none 0 0, .int .u64 0, .int .u64 0, .int .u64 0, .int .u64 0, .int .u64 0, .int .u64 0, .int .u64 0, .slice none 0 0] 147 := Blk.new _ _ _
    have hzw2 : (w1.alloc (.cells #[.int .i64 0, .int .u64 0, .int .u64 0, .int .i64 0, .slice none 0 0, .string ⟨#[]⟩, .slice none 0 0, .slice none 0 0, .slice none 0 0, .slice none 0 0, .slice ac b.length qc, .slice none 0 0, .int .u64 0, .int .u64 0, .int .u64 0, .int .u64 0, .int .u64 0, .int .u64 0, .int .u64 0, .slice none 0 0] 147)).heap.size = w1.heap.size + 1 := World.size_alloc _ _
    generalize w1.alloc (.cells #[.int .i64 0, .int .u64 0, .int .u64 0, .int .i64 0, .slice none 0 0, .string ⟨#[]⟩, .slice none 0 0, .slice none 0 0, .slice none 0 0, .slice none 0 0, .slice ac b.length qc, .slice none 0 0, .int .u64 0, .int .u64 0, .int .u64 0, .int .u64 0, .int .u64 0, .int .u64 0, .int .u64 0, .slice none 0 0] 147) = w2 at *
    have hkw3 : Keep No w2 (w2.alloc (.cells #[.pointer (some ⟨w1.heap.size, 0, none⟩)] 142)) := (Keep.refl _ _).alloc _
    have hBw3 : Blk (w2.alloc (.cells #[.pointer (some ⟨w1.heap.size, 0, none⟩)] 142)) w2.heap.size #[.pointer (some ⟨w1.heap.size, 0, none⟩)] 142 := Blk.new _ _ _
    have hzw3 : (w2.alloc (.cells #[.pointer (some ⟨w1.heap.size, 0, none⟩)] 142)).heap.size = w2.heap.size + 1 := World.size_alloc _ _
    generalize w2.alloc (.cells #[.pointer (some ⟨w1.heap.size, 0, none⟩)] 142) = w3 at *
    have hBR : Blk w3 w1.heap.size (rdB hd0 (.slice none 0 0) [] (.slice none 0 0) (.slice none 0 0) (.slice none 0 0) (.slice none 0 0) (.slice ac b.length qc) (.slice none 0 0) 0 0 0 0 0 0 0 (.slice none 0 0)) 147 := hBw2.keep hkw3 fun h => h
    have hk13 : Keep No w1 w3 := hkw2.trans' hkw3
    have hBI3 := hBI.keep hk13 fun h => h
    have hkw3' := hkw1.trans' hk13
    have hQ3 := hBw3
    rw [hzw2] at hQ3
    have hw1 : w.heap.size < w1.heap.size := Nat.lt_of_lt_of_le (by rw [hzW]; exact Nat.lt_succ_self _) hk1.size
    have hNe : ∀ k, (w.heap.size < k ∧ k ≠ w1.heap.size) → k ≠ w1.heap.size := fun k h => h.2
    have hNw : ∀ W' : World, w1.heap.size < W'.heap.size → ∀ k, W'.heap.size ≤ k → (w.heap.size < k ∧ k ≠ w1.heap.size) := fun W' h k hk => ⟨by omega, by omega⟩
    have hw3 : w1.heap.size < w3.heap.size := hBR.lt
    have hbR : Bts (fun k => w.heap.size < k ∧ k ≠ w1.heap.size) w3 (.slice ac b.length qc) b := (Sl.keep hbb hk13 fun _ _ _ h => h).mono fun k hk h => by
      have h1 := h.1
      have h2 := World.ownsRow.lt hob k h.2.symm
      have h3 := hkW.size
      constructor <;> omega
    have hsh := imshape_any (w := w3) hNe (hNw w3 hw3) b hBR hbR (by omega)
    have hshok := fun h => shapeM_ok (b := b) h
    clear hBw2 hBw3 hkw2 hkw3 hzw2 hzw3 hBI hbb hob hk1 hkW hzW
    generalize shapeM b = sh at *
    obtain ⟨she, hd, l⟩ := sh
    dsimp only at hsh hshok hH2
    go_wp2_with fail
    refine hsh.mono ?_
    clear hsh
    rintro e w4 ⟨rfl, hk4, hpost⟩
    have hBI4 := hBI3.keep hk4 fun e => by have e2 : w.heap.size = w1.heap.size := e; omega
    have hQ4 := hQ3.keep hk4 fun e => by have e2 : w1.heap.size + 1 = w1.heap.size := e; omega
    have hkw4 : Keep No w w4 := hkw3'.trans hk4 fun j hj e => by have e2 : j = w1.heap.size := e; omega
    have hbR4 : Bts (fun k => w.heap.size < k ∧ k ≠ w1.heap.size) w4 (.slice ac b.length qc) b := Sl.keep hbR hk4 fun j _ h1 h2 => h1.2 h2
    clear hBI3 hQ3 hkw3' hbR hBR
    by_cases hshe : she = 0
    · have hH3 := Lib.hid (hH2.out.trans (if_neg (by omega)))
      obtain ⟨vs, hB4, hl4⟩ := hpost hshe
      obtain ⟨hok, hone⟩ := hshok hshe
      have hok2 : ∀ x ∈ l, x.ty = 1 → x.off + x.fi < 18446744073709551616 := fun x hx h1 => by
        have := one_ok (hone x hx (by omega)) (by omega)
        omega
      subst hshe
      clear hpost hshok hH2 hone
      obtain ⟨as_, qs, rfl, _, _⟩ := hl4.shape
      have hfind := sgfind_any (w := w4) l 2 hl4
      have c4 : w4.cell? ⟨w1.heap.size, 4, none⟩ = some (.slice as_ l.length qs) := hB4.cell 4
      have q0 := hQ4.cell 0
      have hcc : (encSg (sgD (findM l 2))).toArray = #[.int .u32 ((sgD (findM l 2)).ty : Int), .int .u32 ((sgD (findM l 2)).fl : Int), .int .u64 ((sgD (findM l 2)).off : Int), .int .u64 ((sgD (findM l 2)).va : Int), .int .u64 ((sgD (findM l 2)).fi : Int), .int .u64 ((sgD (findM l 2)).me : Int), .int .u64 ((sgD (findM l 2)).al : Int)] := rfl
      have hfd : ∀ s, findM l 2 = some s → sgD (findM l 2) = s ∧ s ∈ l := fun s h => ⟨by rw [h]; rfl, List.mem_of_find?_eq_some h⟩
      have hfn : (findM l 2).isSome = false → findM l 2 = none := fun h => by cases hq : findM l 2 with | none => rfl | some s => rw [hq] at h; cases h
      have hfs : (findM l 2).isSome = true → ∃ s, findM l 2 = some s := fun h => by cases hq : findM l 2 with | none => rw [hq] at h; cases h | some s => exact ⟨s, rfl⟩
      rw [hcc] at hfind
      have hsdeq : ∀ s, findM l 2 = some s → s = ⟨(sgD (findM l 2)).ty, (sgD (findM l 2)).fl, (sgD (findM l 2)).off, (sgD (findM l 2)).va, (sgD (findM l 2)).fi, (sgD (findM l 2)).me, (sgD (findM l 2)).al⟩ := fun s h => by rw [(hfd s h).1]
      clear hcc
      generalize (sgD (findM l 2)).ty = y0 at *
      generalize (sgD (findM l 2)).fl = y1 at *
      generalize (sgD (findM l 2)).off = y2 at *
      generalize (sgD (findM l 2)).va = y3 at *
      generalize (sgD (findM l 2)).fi = y4 at *
      generalize (sgD (findM l 2)).me = y5 at *
      generalize (sgD (findM l 2)).al = y6 at *
      go_wp2_with fail
      refine hfind.mono ?_
      clear hfind
      rintro e w5 ⟨rfl, hk5⟩
      have hB5 := hB4.keep hk5 fun h => h
      have hQ5 := hQ4.keep hk5 fun h => h
      have hBI5 := hBI4.keep hk5 fun h => h
      have hl5 := hl4.no hk5
      have hbR5 := Sl.keep hbR4 hk5 fun _ _ _ h => h
      have hkw5 := hkw4.trans' hk5
      clear hB4 hQ4 hBI4 hl4 hbR4 hkw4 c4 q0
      have hQlt := hQ5.lt
      have hneQ : w1.heap.size + 1 ≠ w5.heap.size := Nat.ne_of_lt hQlt
      have q0 := hQ5.cell 0
      cases hfb : (findM l 2).isSome with
      | false =>
        have hno := hfn hfb
        have hH4 := hH3.out
        rw [hno] at hH4
        have hH4 : res = if soundM l [] [] ≠ 0 then (soundM l [] [], im0) else (0, ⟨hd, l, [], [], [], [], [], b⟩) := hH4
        have HH4 := Lib.hid hH4
        clear hH3 hH4 hno hfd hfs hsdeq
        go_wp2_with (at_builtin; refine wl_append rfl _ _ _ _ rfl _ _ rfl rfl ?_)
        have hkw6 : Keep No w5 (w5.alloc (.cells #[.int .u32 (y0 : Int), .int .u32 (y1 : Int), .int .u64 (y2 : Int), .int .u64 (y3 : Int), .int .u64 (y4 : Int), .int .u64 (y5 : Int), .int .u64 (y6 : Int)] 113)) := (Keep.refl _ _).alloc _
        have hBw6 : Blk (w5.alloc (.cells #[.int .u32 (y0 : Int), .int .u32 (y1 : Int), .int .u64 (y2 : Int), .int .u64 (y3 : Int), .int .u64 (y4 : Int), .int .u64 (y5 : Int), .int .u64 (y6 : Int)] 113)) w5.heap.size #[.int .u32 (y0 : Int), .int .u32 (y1 : Int), .int .u64 (y2 : Int), .int .u64 (y3 : Int), .int .u64 (y4 : Int), .int .u64 (y5 : Int), .int .u64 (y6 : Int)] 113 := Blk.new _ _ _
        have hzw6 : (w5.alloc (.cells #[.int .u32 (y0 : Int), .int .u32 (y1 : Int), .int .u64 (y2 : Int), .int .u64 (y3 : Int), .int .u64 (y4 : Int), .int .u64 (y5 : Int), .int .u64 (y6 : Int)] 113)).heap.size = w5.heap.size + 1 := World.size_alloc _ _
        generalize w5.alloc (.cells #[.int .u32 (y0 : Int), .int .u32 (y1 : Int), .int .u64 (y2 : Int), .int .u64 (y3 : Int), .int .u64 (y4 : Int), .int .u64 (y5 : Int), .int .u64 (y6 : Int)] 113) = w6 at *
        rw [← hzw6]
        refine rg_push (P := Tryz.prog) (w := w6) (base := w6.heap.size) (enc := encV) (x := .func (.func 59) #[.pointer (some ⟨w1.heap.size, 0, none⟩)] #[]) _ _ Tryz.underlying149 funcT_info (by rfl) (by decide) (by rfl) (by rfl) (by intro u hu; rw [List.mem_singleton.1 hu]; rfl) FlO.nil (by decide) (by decide) (Nat.le_refl _) ?_
        intro v7 w7 ho7 hk7 _
        have hk57 : Keep No w5 w7 := hkw6.trans hk7 fun _ _ h => by cases h
        have hB7 := hB5.keep hk57 fun h => h
        have hBI7 := hBI5.keep hk57 fun h => h
        have hQ7 := hQ5.keep hk57 fun h => h
        have hl7 := hl5.no hk57
        have hbR7 := Sl.keep hbR5 hk57 fun _ _ _ h => h
        have hkw7 := hkw5.trans' hk57
        have hf7 := ho7.fl
        have HF7 := Lib.hid hf7
        obtain ⟨a7, q7, e7, _, _⟩ := hf7.shape
        have e7 : v7 = .slice a7 1 q7 := e7
        subst e7
        clear hB5 hBI5 hQ5 hl5 hbR5 hkw5 hkw6 hBw6 hzw6 hk7 hf7 q0 ho7 hk57
        go_wp2_with fail
        go_loopw [49] (fun iv wr => ∃ i : Nat, iv = .int .i64 i ∧ i ≤ 1 ∧ (0 < i → soundM l [] [] = 0) ∧ Keep No w7 wr) (fun iv _ => 1 - (intOf iv).toNat)
        case atStart => exact ⟨0, rfl, Nat.zero_le _, fun h => absurd h (by decide), Keep.refl _ _⟩
        case round =>
          obtain ⟨i, rfl, hi, hs0, hk⟩ := hrel
          generalize wr = wz at *
          rcases Nat.lt_or_ge i 1 with hlt | hge
          · obtain rfl : i = 0 := by omega
            obtain ⟨g1, off, cap, ev, _, _, _, _, hc⟩ := (HF7.out.no hk).at (fun _ => rfl) (i := 0) (Nat.zero_lt_succ 0)
            cases ev
            have c0 : wz.cell? ⟨g1, off, none⟩ = some (.func (.func 59) #[.pointer (some ⟨w1.heap.size, 0, none⟩)] #[]) := by
              have := hc 0 _ rfl
              simp only [Nat.zero_mul, Nat.add_zero] at this
              exact this
            clear hc
            have hcall := imsound_any (w := wz) l [] [] (hB7.keep hk fun h => h) (hl7.no hk) hok Fl.nil (fun x hx => by cases hx) Fl.nil (fun x hx => by cases hx)
            generalize soundM l [] [] = se at *
            have hent : ∀ w : World, (callFunc 59 (#[.pointer (some ⟨w1.heap.size, 0, none⟩)] ++ #[] ++ #[])).run Tryz.prog w = .ok (.enter 59 (#[.pointer (some ⟨w1.heap.size, 0, none⟩)] ++ #[] ++ #[])) w := fun w => by kernel_rfl
            go_wp2_with fail
            refine hcall.mono ?_
            clear hcall hent c0
            rintro e wa ⟨rfl, hka⟩
            have hka7 := hk.trans' hka
            by_cases hse : se = 0
            · have HSE := Lib.hid hse
              have hsi : ((se : Int) == 0) = true := by rw [beq_iff_eq]; omega
              clear hse hs0
              go_wp2_with fail
              go_roundw
              case rel => exact ⟨1, rfl, Nat.le_refl _, fun _ => HSE.out, hka7⟩
              case measure => simp [intOf]
            · have hsi : ((se : Int) == 0) = false := by rw [beq_eq_false_iff_ne]; omega
              have hR := Lib.hid (HH4.out.trans (if_pos hse))
              clear HH4 hse hs0
              have hBIz := hBI7.keep hka7 fun h => h
              have hkwz := hkw7.trans' hka7
              go_wp2_with (with_reducible refine wl_stAgg rfl _ _ _ rfl _ _ rfl rfl ?_)
              refine rg_stAgg hBIz (by kernel_rfl) (by rfl) (by simp [Value.oneCell']) ?_
              intro wz1 hBz hkz _
              go_wp2_with fail
              refine ret_blk_tmp rfl rfl hBz Tryz.underlying60 rfl (by kernel_rfl) rfl ?_
              rw [hR.out]
              exact ⟨im0C, rfl, ImR.zero, hkwz.trans hkz fun j hj e => by have e2 : j = w.heap.size := e; omega⟩
          · obtain rfl : i = 1 := by omega
            have hR := Lib.hid (HH4.out.trans (if_neg (by rw [hs0 (by decide)]; decide)))
            clear HH4 hs0
            have hBRf := hB7.keep hk fun h => h
            have hBIf := hBI7.keep hk fun h => h
            have hQf := (hQ7.keep hk fun h => h).cell 0
            have hkf := hkw7.trans' hk
            have hf1 := hl7.no hk
            have hf6 := Sl.keep hbR7 hk fun _ _ _ h => h
            have r0 : wz.cell? ⟨w1.heap.size, 0, none⟩ = some (.int .i64 (hd.kind : Int)) := hBRf.cell 0
            have r1 : wz.cell? ⟨w1.heap.size, 1, none⟩ = some (.int .u64 (hd.entry : Int)) := hBRf.cell 1
            have r2 : wz.cell? ⟨w1.heap.size, 2, none⟩ = some (.int .u64 (hd.segs : Int)) := hBRf.cell 2
            have r3 : wz.cell? ⟨w1.heap.size, 3, none⟩ = some (.int .i64 (hd.count : Int)) := hBRf.cell 3
            have r4 : wz.cell? ⟨w1.heap.size, 4, none⟩ = some (.slice as_ l.length qs) := hBRf.cell 4
            have r5 : wz.cell? ⟨w1.heap.size, 5, none⟩ = some (.string ⟨List.toArray []⟩) := hBRf.cell 5
            have r6 : wz.cell? ⟨w1.heap.size, 6, none⟩ = some (.slice none 0 0) := hBRf.cell 6
            have r7 : wz.cell? ⟨w1.heap.size, 7, none⟩ = some (.slice none 0 0) := hBRf.cell 7
            have r8 : wz.cell? ⟨w1.heap.size, 8, none⟩ = some (.slice none 0 0) := hBRf.cell 8
            have r9 : wz.cell? ⟨w1.heap.size, 9, none⟩ = some (.slice none 0 0) := hBRf.cell 9
            have r10 : wz.cell? ⟨w1.heap.size, 10, none⟩ = some (.slice ac b.length qc) := hBRf.cell 10
            generalize ebs : (⟨List.toArray []⟩ : ByteArray) = bs at *
            go_wp2_with (with_reducible refine wl_stAgg rfl _ _ _ rfl _ _ rfl rfl ?_)
            refine rg_stAgg hBIf (by kernel_rfl) (by rfl) (by simp [Value.oneCell']) ?_
            intro wz1 hBz hkz _
            go_wp2_with fail
            refine ret_blk_tmp rfl rfl hBz Tryz.underlying60 rfl (by kernel_rfl) rfl ?_
            rw [hR.out]
            have him : ImR (fun k => w.heap.size < k ∧ k ≠ w1.heap.size) wz (imC hd (.slice as_ l.length qs) [] (.slice none 0 0) (.slice none 0 0) (.slice none 0 0) (.slice none 0 0) (.slice ac b.length qc)) ⟨hd, l, [], [], [], [], [], b⟩ := ⟨_, _, _, _, _, _, rfl, hf1, Fl.nil, Fl.nil, Fl.nil, Fl.nil, hf6⟩
            refine ⟨imC hd (.slice as_ l.length qs) [] (.slice none 0 0) (.slice none 0 0) (.slice none 0 0) (.slice none 0 0) (.slice ac b.length qc), ?_, ?_, hkf.trans hkz fun j hj e => by have e2 : j = w.heap.size := e; omega⟩
            · unfold imC
              rw [ebs]
              rfl
            · exact (him.keep hkz fun j _ h e => by
                have e2 : j = w.heap.size := e
                have := h.1
                omega).mono fun j _ h => Nat.le_of_lt h.1
      | true =>
        obtain ⟨s, hs⟩ := hfs hfb
        have hsl := (hfd s hs).2
        have hse := hsdeq s hs
        have hsok := hok s hsl
        have hH4 := hH3.out
        rw [hs] at hH4
        have HH4 : Hid (res = if (namedM b l s).1 ≠ 0 then ((namedM b l s).1, im0)
          else if (pY b l s).1 ≠ 0 then ((pY b l s).1, im0)
          else if (pX b l s).1 ≠ 0 then ((pX b l s).1, im0)
          else if pE b l s ≠ 0 then (pE b l s, im0)
          else (0, ⟨hd, l, (namedM b l s).2.so, (namedM b l s).2.need, (pY b l s).2.2, (pY b l s).2.1, (pX b l s).2, b⟩)) := Lib.hid hH4
        clear hH3 hH4 hs hfn hfd hsdeq hsl
        have hneR : w1.heap.size ≠ w5.heap.size := by omega
        have q02 : ((w5.alloc (.cells #[.int .u32 (y0 : Int), .int .u32 (y1 : Int), .int .u64 (y2 : Int), .int .u64 (y3 : Int), .int .u64 (y4 : Int), .int .u64 (y5 : Int), .int .u64 (y6 : Int)] 113)).alloc (.cells #[.func (.func 55) #[] #[.pointer (some ⟨w1.heap.size + 1, 0, none⟩), .pointer (some ⟨w5.heap.size, 0, none⟩)], .func (.func 57) #[.pointer (some ⟨w1.heap.size, 0, none⟩)] #[], .func (.func 58) #[.pointer (some ⟨w1.heap.size, 0, none⟩)] #[]] 148)).cell? ⟨w1.heap.size + 1, 0, none⟩ = some (.pointer (some ⟨w1.heap.size, 0, none⟩)) := ((hQ5.alloc _).alloc _).cell 0
        go_wp2_with (at_builtin; refine wl_append rfl _ _ _ _ rfl _ _ rfl rfl ?_)
        have hkw6 : Keep No w5 (w5.alloc (.cells #[.int .u32 (y0 : Int), .int .u32 (y1 : Int), .int .u64 (y2 : Int), .int .u64 (y3 : Int), .int .u64 (y4 : Int), .int .u64 (y5 : Int), .int .u64 (y6 : Int)] 113)) := (Keep.refl _ _).alloc _
        have hBw6 : Blk (w5.alloc (.cells #[.int .u32 (y0 : Int), .int .u32 (y1 : Int), .int .u64 (y2 : Int), .int .u64 (y3 : Int), .int .u64 (y4 : Int), .int .u64 (y5 : Int), .int .u64 (y6 : Int)] 113)) w5.heap.size #[.int .u32 (y0 : Int), .int .u32 (y1 : Int), .int .u64 (y2 : Int), .int .u64 (y3 : Int), .int .u64 (y4 : Int), .int .u64 (y5 : Int), .int .u64 (y6 : Int)] 113 := Blk.new _ _ _
        have hzw6 : (w5.alloc (.cells #[.int .u32 (y0 : Int), .int .u32 (y1 : Int), .int .u64 (y2 : Int), .int .u64 (y3 : Int), .int .u64 (y4 : Int), .int .u64 (y5 : Int), .int .u64 (y6 : Int)] 113)).heap.size = w5.heap.size + 1 := World.size_alloc _ _
        generalize w5.alloc (.cells #[.int .u32 (y0 : Int), .int .u32 (y1 : Int), .int .u64 (y2 : Int), .int .u64 (y3 : Int), .int .u64 (y4 : Int), .int .u64 (y5 : Int), .int .u64 (y6 : Int)] 113) = w6 at *
        have hkw7 : Keep No w6 (w6.alloc (.cells #[.func (.func 55) #[] #[.pointer (some ⟨w1.heap.size + 1, 0, none⟩), .pointer (some ⟨w5.heap.size, 0, none⟩)], .func (.func 57) #[.pointer (some ⟨w1.heap.size, 0, none⟩)] #[], .func (.func 58) #[.pointer (some ⟨w1.heap.size, 0, none⟩)] #[]] 148)) := (Keep.refl _ _).alloc _
        have hBw7 : Blk (w6.alloc (.cells #[.func (.func 55) #[] #[.pointer (some ⟨w1.heap.size + 1, 0, none⟩), .pointer (some ⟨w5.heap.size, 0, none⟩)], .func (.func 57) #[.pointer (some ⟨w1.heap.size, 0, none⟩)] #[], .func (.func 58) #[.pointer (some ⟨w1.heap.size, 0, none⟩)] #[]] 148)) w6.heap.size #[.func (.func 55) #[] #[.pointer (some ⟨w1.heap.size + 1, 0, none⟩), .pointer (some ⟨w5.heap.size, 0, none⟩)], .func (.func 57) #[.pointer (some ⟨w1.heap.size, 0, none⟩)] #[], .func (.func 58) #[.pointer (some ⟨w1.heap.size, 0, none⟩)] #[]] 148 := Blk.new _ _ _
        have hzw7 : (w6.alloc (.cells #[.func (.func 55) #[] #[.pointer (some ⟨w1.heap.size + 1, 0, none⟩), .pointer (some ⟨w5.heap.size, 0, none⟩)], .func (.func 57) #[.pointer (some ⟨w1.heap.size, 0, none⟩)] #[], .func (.func 58) #[.pointer (some ⟨w1.heap.size, 0, none⟩)] #[]] 148)).heap.size = w6.heap.size + 1 := World.size_alloc _ _
        generalize w6.alloc (.cells #[.func (.func 55) #[] #[.pointer (some ⟨w1.heap.size + 1, 0, none⟩), .pointer (some ⟨w5.heap.size, 0, none⟩)], .func (.func 57) #[.pointer (some ⟨w1.heap.size, 0, none⟩)] #[], .func (.func 58) #[.pointer (some ⟨w1.heap.size, 0, none⟩)] #[]] 148) = w7 at *
        have hws6 : w6.heap.size = w5.heap.size + 1 := hzw6
        rw [show w5.heap.size + 1 + 1 = w7.heap.size by rw [hzw7, hzw6], show w5.heap.size + 1 = w6.heap.size from hzw6.symm]
        have ho3 : FlO w7 w6.heap.size 148 1 encV (.slice (some ⟨w6.heap.size, 0, none⟩) 3 3) [.func (.func 55) #[] #[.pointer (some ⟨w1.heap.size + 1, 0, none⟩), .pointer (some ⟨w5.heap.size, 0, none⟩)], .func (.func 57) #[.pointer (some ⟨w1.heap.size, 0, none⟩)] #[], .func (.func 58) #[.pointer (some ⟨w1.heap.size, 0, none⟩)] #[]] := own_blk hBw7 (Nat.le_refl _) (by rfl) (by decide)
        refine rg_push (P := Tryz.prog) (w := w7) (base := w6.heap.size) (enc := encV) (x := .func (.func 59) #[.pointer (some ⟨w1.heap.size, 0, none⟩)] #[]) _ _ Tryz.underlying149 funcT_info (by rfl) (by decide) (by rfl) (by rfl) (by intro u hu; rw [List.mem_singleton.1 hu]; rfl) ho3 (Nat.le_of_ble_eq_true rfl) (by decide) (by rw [hzw7]; exact Nat.le_succ _) ?_
        intro v8 w8 ho8 hk8 _
        have hk68 : Keep No w6 w8 := Keep.own hkw7 ho3 hk8
        have hk58 : Keep No w5 w8 := hkw6.trans' hk68
        have hX8 := hBw6.keep hk68 fun h => h
        have hB8 := hB5.keep hk58 fun h => h
        have hBI8 := hBI5.keep hk58 fun h => h
        have hQ8 := hQ5.keep hk58 fun h => h
        have hl8 := hl5.no hk58
        have hbR8 := Sl.keep hbR5 hk58 fun _ _ _ h => h
        have hkw8 := hkw5.trans' hk58
        have hf8 := ho8.fl
        have HF8 := Lib.hid hf8
        obtain ⟨a8, q8, e8, _, _⟩ := hf8.shape
        have e8 : v8 = .slice a8 4 q8 := e8
        subst e8
        have hst0 : PSt (fun k => w.heap.size < k ∧ k ≠ w1.heap.size) w1.heap.size hd (.slice as_ l.length qs) (.slice ac b.length qc) l b s 0 w8 :=
          ⟨_, _, _, _, _, _, _, _, _, _, _, _, _, _, hB8, fun _ => ⟨rfl, rfl⟩, fun _ => ⟨rfl, rfl⟩, fun _ => rfl, fun h => absurd h (by decide), fun h => absurd h (by decide), fun h => absurd h (by decide), fun h => absurd h (by decide)⟩
        have hRlt : w1.heap.size < w6.heap.size := by omega
        clear hws6
        clear hB5 hBI5 hQ5 hl5 hbR5 hkw5 hkw6 hBw6 hzw6 hk8 hf8 q0 q02 ho8 hk58 hk68 ho3 hBw7 hkw7 hzw7 hB8
        go_wp2_with fail
        go_loopw [49] (fun iv wr => ∃ i : Nat, iv = .int .i64 i ∧ i ≤ 4 ∧ PSt (fun k => w.heap.size < k ∧ k ≠ w1.heap.size) w1.heap.size hd (.slice as_ l.length qs) (.slice ac b.length qc) l b s i wr ∧ Keep (fun j => j = w1.heap.size) w8 wr) (fun iv _ => 4 - (intOf iv).toNat)
        case atStart => exact ⟨0, rfl, Nat.zero_le _, hst0, Keep.refl _ _⟩
        case round =>
          clear hst0
          obtain ⟨i, rfl, hi, hst, hk⟩ := hrel
          generalize wr = wz at *
          have hBIz := hBI8.keep hk fun e => by have e2 : w.heap.size = w1.heap.size := e; omega
          have hQz := hQ8.keep hk fun e => by have e2 : w1.heap.size + 1 = w1.heap.size := e; omega
          have hXz := hX8.keep hk fun e => by have e2 : w5.heap.size = w1.heap.size := e; omega
          have hlz := hl8.keep hk fun j _ h1 h2 => h1.2 h2
          have hbz := Sl.keep hbR8 hk fun j _ h1 h2 => h1.2 h2
          have hkz : Keep No w wz := hkw8.trans hk fun j hj e => by have e2 : j = w1.heap.size := e; omega
          have hFz := HF8.out.keep hk fun j _ h1 h2 => by have e2 : j = w1.heap.size := h2; have := h1.1; omega
          have hNwz := hNw wz (by have := hXz.lt; omega)
          rcases Nat.lt_or_ge i 4 with hlt | hge
          · rcases (by omega : i = 0 ∨ i = 1 ∨ i = 2 ∨ i = 3) with rfl | rfl | rfl | rfl
            · have hcall := step0 hNe hNwz hst hlz hbz (by omega) hok hok2 hsok (hQz.cell 0) (by rw [hse]; exact hXz)
              have hent : ∀ w : World, (callFunc 55 (#[] ++ #[] ++ #[.pointer (some ⟨w1.heap.size + 1, 0, none⟩), .pointer (some ⟨w5.heap.size, 0, none⟩)])).run Tryz.prog w = .ok (.enter 55 (#[] ++ #[] ++ #[.pointer (some ⟨w1.heap.size + 1, 0, none⟩), .pointer (some ⟨w5.heap.size, 0, none⟩)])) w := fun w => by kernel_rfl
              obtain ⟨g1, off, cap, ev, _, _, _, _, hc⟩ := hFz.at (fun _ => rfl) (i := 0) (by show 0 < 4; decide)
              cases ev
              have c0 : wz.cell? ⟨g1, off, none⟩ = some (.func (.func 55) #[] #[.pointer (some ⟨w1.heap.size + 1, 0, none⟩), .pointer (some ⟨w5.heap.size, 0, none⟩)]) := by
                have := hc 0 _ rfl
                simp only [Nat.zero_mul, Nat.mul_one, Nat.add_zero] at this
                exact this
              clear hc
              have hRz := HH4.out
              generalize (namedM b l s).1 = ex at *
              have HRz := Lib.hid hRz
              clear hRz hst
              go_wp2_with fail
              refine hcall.mono ?_
              clear hcall hent c0
              rintro e wa ⟨rfl, hka, hpa⟩
              by_cases hex : ex = 0
              · have HPA := Lib.hid (hpa hex)
                have hexi : ((ex : Int) == 0) = true := by rw [beq_iff_eq]; omega
                clear hpa HRz hex
                go_wp2_with fail
                go_roundw
                case rel => exact ⟨0 + 1, rfl, by decide, HPA.out, hk.trans' hka⟩
                case measure => simp [intOf]
              · have hexi : ((ex : Int) == 0) = false := by rw [beq_eq_false_iff_ne]; omega
                have hR := Lib.hid (HRz.out.trans (if_pos hex))
                have hBIa := hBIz.keep hka fun e => by have e2 : w.heap.size = w1.heap.size := e; omega
                have hkwa : Keep No w wa := hkz.trans hka fun j hj e => by have e2 : j = w1.heap.size := e; omega
                clear hpa HRz hex HH4
                go_wp2_with (with_reducible refine wl_stAgg rfl _ _ _ rfl _ _ rfl rfl ?_)
                refine rg_stAgg hBIa (by kernel_rfl) (by rfl) (by simp [Value.oneCell']) ?_
                intro wz1 hBz hkz _
                go_wp2_with fail
                refine ret_blk_tmp rfl rfl hBz Tryz.underlying60 rfl (by kernel_rfl) rfl ?_
                rw [hR.out]
                exact ⟨im0C, rfl, ImR.zero, hkwa.trans hkz fun j hj e => by have e2 : j = w.heap.size := e; omega⟩
            · have hcall := step1 hNe hNwz hst hlz hbz (by omega) hok hok2
              have hent : ∀ w : World, (callFunc 57 (#[.pointer (some ⟨w1.heap.size, 0, none⟩)] ++ #[] ++ #[])).run Tryz.prog w = .ok (.enter 57 (#[.pointer (some ⟨w1.heap.size, 0, none⟩)] ++ #[] ++ #[])) w := fun w => by kernel_rfl
              obtain ⟨g1, off, cap, ev, _, _, _, _, hc⟩ := hFz.at (fun _ => rfl) (i := 1) (by show 1 < 4; decide)
              cases ev
              have c0 : wz.cell? ⟨g1, off + 1, none⟩ = some (.func (.func 57) #[.pointer (some ⟨w1.heap.size, 0, none⟩)] #[]) := by
                have := hc 0 _ rfl
                simp only [Nat.zero_mul, Nat.mul_one, Nat.add_zero] at this
                exact this
              clear hc
              have hRz := HH4.out.trans (if_neg (by rw [hst.facts.1 (by decide)]; decide))
              generalize (pY b l s).1 = ex at *
              have HRz := Lib.hid hRz
              clear hRz hst
              go_wp2_with fail
              refine hcall.mono ?_
              clear hcall hent c0
              rintro e wa ⟨rfl, hka, hpa⟩
              by_cases hex : ex = 0
              · have HPA := Lib.hid (hpa hex)
                have hexi : ((ex : Int) == 0) = true := by rw [beq_iff_eq]; omega
                clear hpa HRz hex
                go_wp2_with fail
                go_roundw
                case rel => exact ⟨1 + 1, rfl, by decide, HPA.out, hk.trans' hka⟩
                case measure => simp [intOf]
              · have hexi : ((ex : Int) == 0) = false := by rw [beq_eq_false_iff_ne]; omega
                have hR := Lib.hid (HRz.out.trans (if_pos hex))
                have hBIa := hBIz.keep hka fun e => by have e2 : w.heap.size = w1.heap.size := e; omega
                have hkwa : Keep No w wa := hkz.trans hka fun j hj e => by have e2 : j = w1.heap.size := e; omega
                clear hpa HRz hex HH4
                go_wp2_with (with_reducible refine wl_stAgg rfl _ _ _ rfl _ _ rfl rfl ?_)
                refine rg_stAgg hBIa (by kernel_rfl) (by rfl) (by simp [Value.oneCell']) ?_
                intro wz1 hBz hkz _
                go_wp2_with fail
                refine ret_blk_tmp rfl rfl hBz Tryz.underlying60 rfl (by kernel_rfl) rfl ?_
                rw [hR.out]
                exact ⟨im0C, rfl, ImR.zero, hkwa.trans hkz fun j hj e => by have e2 : j = w.heap.size := e; omega⟩
            · have hcall := step2 hNe hNwz hst hlz hbz (by omega) hok hok2
              have hent : ∀ w : World, (callFunc 58 (#[.pointer (some ⟨w1.heap.size, 0, none⟩)] ++ #[] ++ #[])).run Tryz.prog w = .ok (.enter 58 (#[.pointer (some ⟨w1.heap.size, 0, none⟩)] ++ #[] ++ #[])) w := fun w => by kernel_rfl
              obtain ⟨g1, off, cap, ev, _, _, _, _, hc⟩ := hFz.at (fun _ => rfl) (i := 2) (by show 2 < 4; decide)
              cases ev
              have c0 : wz.cell? ⟨g1, off + 2, none⟩ = some (.func (.func 58) #[.pointer (some ⟨w1.heap.size, 0, none⟩)] #[]) := by
                have := hc 0 _ rfl
                simp only [Nat.zero_mul, Nat.mul_one, Nat.add_zero] at this
                exact this
              clear hc
              have hRz := (HH4.out.trans (if_neg (by rw [hst.facts.1 (by decide)]; decide))).trans (if_neg (by rw [hst.facts.2.1 (by decide)]; decide))
              generalize (pX b l s).1 = ex at *
              have HRz := Lib.hid hRz
              clear hRz hst
              go_wp2_with fail
              refine hcall.mono ?_
              clear hcall hent c0
              rintro e wa ⟨rfl, hka, hpa⟩
              by_cases hex : ex = 0
              · have HPA := Lib.hid (hpa hex)
                have hexi : ((ex : Int) == 0) = true := by rw [beq_iff_eq]; omega
                clear hpa HRz hex
                go_wp2_with fail
                go_roundw
                case rel => exact ⟨2 + 1, rfl, by decide, HPA.out, hk.trans' hka⟩
                case measure => simp [intOf]
              · have hexi : ((ex : Int) == 0) = false := by rw [beq_eq_false_iff_ne]; omega
                have hR := Lib.hid (HRz.out.trans (if_pos hex))
                have hBIa := hBIz.keep hka fun e => by have e2 : w.heap.size = w1.heap.size := e; omega
                have hkwa : Keep No w wa := hkz.trans hka fun j hj e => by have e2 : j = w1.heap.size := e; omega
                clear hpa HRz hex HH4
                go_wp2_with (with_reducible refine wl_stAgg rfl _ _ _ rfl _ _ rfl rfl ?_)
                refine rg_stAgg hBIa (by kernel_rfl) (by rfl) (by simp [Value.oneCell']) ?_
                intro wz1 hBz hkz _
                go_wp2_with fail
                refine ret_blk_tmp rfl rfl hBz Tryz.underlying60 rfl (by kernel_rfl) rfl ?_
                rw [hR.out]
                exact ⟨im0C, rfl, ImR.zero, hkwa.trans hkz fun j hj e => by have e2 : j = w.heap.size := e; omega⟩
            · have hcall := step3 hNe hst hlz hok
              have hent : ∀ w : World, (callFunc 59 (#[.pointer (some ⟨w1.heap.size, 0, none⟩)] ++ #[] ++ #[])).run Tryz.prog w = .ok (.enter 59 (#[.pointer (some ⟨w1.heap.size, 0, none⟩)] ++ #[] ++ #[])) w := fun w => by kernel_rfl
              obtain ⟨g1, off, cap, ev, _, _, _, _, hc⟩ := hFz.at (fun _ => rfl) (i := 3) (by show 3 < 4; decide)
              cases ev
              have c0 : wz.cell? ⟨g1, off + 3, none⟩ = some (.func (.func 59) #[.pointer (some ⟨w1.heap.size, 0, none⟩)] #[]) := by
                have := hc 0 _ rfl
                simp only [Nat.zero_mul, Nat.mul_one, Nat.add_zero] at this
                exact this
              clear hc
              have hRz := ((HH4.out.trans (if_neg (by rw [hst.facts.1 (by decide)]; decide))).trans (if_neg (by rw [hst.facts.2.1 (by decide)]; decide))).trans (if_neg (by rw [hst.facts.2.2.1 (by decide)]; decide))
              generalize pE b l s = ex at *
              have HRz := Lib.hid hRz
              clear hRz hst
              go_wp2_with fail
              refine hcall.mono ?_
              clear hcall hent c0
              rintro e wa ⟨rfl, hka, hpa⟩
              by_cases hex : ex = 0
              · have HPA := Lib.hid (hpa hex)
                have hexi : ((ex : Int) == 0) = true := by rw [beq_iff_eq]; omega
                clear hpa HRz hex
                go_wp2_with fail
                go_roundw
                case rel => exact ⟨3 + 1, rfl, by decide, HPA.out, hk.trans' hka⟩
                case measure => simp [intOf]
              · have hexi : ((ex : Int) == 0) = false := by rw [beq_eq_false_iff_ne]; omega
                have hR := Lib.hid (HRz.out.trans (if_pos hex))
                have hBIa := hBIz.keep hka fun e => by have e2 : w.heap.size = w1.heap.size := e; omega
                have hkwa : Keep No w wa := hkz.trans hka fun j hj e => by have e2 : j = w1.heap.size := e; omega
                clear hpa HRz hex HH4
                go_wp2_with (with_reducible refine wl_stAgg rfl _ _ _ rfl _ _ rfl rfl ?_)
                refine rg_stAgg hBIa (by kernel_rfl) (by rfl) (by simp [Value.oneCell']) ?_
                intro wz1 hBz hkz _
                go_wp2_with fail
                refine ret_blk_tmp rfl rfl hBz Tryz.underlying60 rfl (by kernel_rfl) rfl ?_
                rw [hR.out]
                exact ⟨im0C, rfl, ImR.zero, hkwa.trans hkz fun j hj e => by have e2 : j = w.heap.size := e; omega⟩
          · obtain rfl : i = 4 := by omega
            have hR := Lib.hid ((((HH4.out.trans (if_neg (by rw [hst.facts.1 (by decide)]; decide))).trans (if_neg (by rw [hst.facts.2.1 (by decide)]; decide))).trans (if_neg (by rw [hst.facts.2.2.1 (by decide)]; decide))).trans (if_neg (by rw [hst.facts.2.2.2 (by decide)]; decide)))
            obtain ⟨so, vn, vm, vy, vr, vi, vt, e0, e1, e2, e3, e4, e5, e6, hBRf, _, _, _, h3, h4, h5, _⟩ := hst
            obtain ⟨_, hso, _, _, hf2⟩ := h3 (by decide)
            obtain ⟨_, hf4, hf3⟩ := h4 (by decide)
            obtain ⟨_, hf5⟩ := h5 (by decide)
            subst hso
            clear h3 h4 h5 HH4
            obtain ⟨an, qn, rfl, _, _⟩ := hf2.shape
            obtain ⟨am, qm, rfl, _, _⟩ := hf3.shape
            obtain ⟨ay, qy, rfl, _, _⟩ := hf4.shape
            obtain ⟨ar, qr, rfl, _, _⟩ := hf5.shape
            have hBIf := hBIz
            have hQf := hQz.cell 0
            have hkf := hkz
            have hf1 := hlz
            have hf6 := hbz
            have HF2 := Lib.hid hf2
            have HF3 := Lib.hid hf3
            have HF4 := Lib.hid hf4
            have HF5 := Lib.hid hf5
            clear hf2 hf3 hf4 hf5
            generalize (namedM b l s).2.need.length = ln at *
            generalize (pY b l s).2.2.length = lm at *
            generalize (pY b l s).2.1.length = ly at *
            generalize (pX b l s).2.length = lr at *
            have r0 : wz.cell? ⟨w1.heap.size, 0, none⟩ = some (.int .i64 (hd.kind : Int)) := hBRf.cell 0
            have r1 : wz.cell? ⟨w1.heap.size, 1, none⟩ = some (.int .u64 (hd.entry : Int)) := hBRf.cell 1
            have r2 : wz.cell? ⟨w1.heap.size, 2, none⟩ = some (.int .u64 (hd.segs : Int)) := hBRf.cell 2
            have r3 : wz.cell? ⟨w1.heap.size, 3, none⟩ = some (.int .i64 (hd.count : Int)) := hBRf.cell 3
            have r4 : wz.cell? ⟨w1.heap.size, 4, none⟩ = some (.slice as_ l.length qs) := hBRf.cell 4
            have r5 : wz.cell? ⟨w1.heap.size, 5, none⟩ = some (.string ⟨List.toArray (namedM b l s).2.so⟩) := hBRf.cell 5
            have r6 : wz.cell? ⟨w1.heap.size, 6, none⟩ = some (.slice an ln qn) := hBRf.cell 6
            have r7 : wz.cell? ⟨w1.heap.size, 7, none⟩ = some (.slice am lm qm) := hBRf.cell 7
            have r8 : wz.cell? ⟨w1.heap.size, 8, none⟩ = some (.slice ay ly qy) := hBRf.cell 8
            have r9 : wz.cell? ⟨w1.heap.size, 9, none⟩ = some (.slice ar lr qr) := hBRf.cell 9
            have r10 : wz.cell? ⟨w1.heap.size, 10, none⟩ = some (.slice ac b.length qc) := hBRf.cell 10
            generalize ebs : (⟨List.toArray (namedM b l s).2.so⟩ : ByteArray) = bs at *
            go_wp2_with (with_reducible refine wl_stAgg rfl _ _ _ rfl _ _ rfl rfl ?_)
            refine rg_stAgg hBIf (by kernel_rfl) (by rfl) (by simp [Value.oneCell']) ?_
            intro wz1 hBz hkz _
            go_wp2_with fail
            refine ret_blk_tmp rfl rfl hBz Tryz.underlying60 rfl (by kernel_rfl) rfl ?_
            rw [hR.out]
            have him : ImR (fun k => w.heap.size < k ∧ k ≠ w1.heap.size) wz (imC hd (.slice as_ l.length qs) (namedM b l s).2.so (.slice an ln qn) (.slice am lm qm) (.slice ay ly qy) (.slice ar lr qr) (.slice ac b.length qc)) ⟨hd, l, (namedM b l s).2.so, (namedM b l s).2.need, (pY b l s).2.2, (pY b l s).2.1, (pX b l s).2, b⟩ := ⟨_, _, _, _, _, _, rfl, hf1, HF2.out, HF3.out, HF4.out, HF5.out, hf6⟩
            refine ⟨imC hd (.slice as_ l.length qs) (namedM b l s).2.so (.slice an ln qn) (.slice am lm qm) (.slice ay ly qy) (.slice ar lr qr) (.slice ac b.length qc), ?_, ?_, hkf.trans hkz fun j hj e => by have e2 : j = w.heap.size := e; omega⟩
            · unfold imC
              rw [ebs]
              rfl
            · exact (him.keep hkz fun j _ h e => by
                have e2 : j = w.heap.size := e
                have := h.1
                omega).mono fun j _ h => Nat.le_of_lt h.1
    · have hshi : ((she : Int) == 0) = false := by rw [beq_eq_false_iff_ne]; omega
      have hR := Lib.hid (hH2.out.trans (if_pos hshe))
      have q0 := hQ4.cell 0
      go_wp2_with (with_reducible refine wl_stAgg rfl _ _ _ rfl _ _ rfl rfl ?_)
      refine rg_stAgg hBI4 (by kernel_rfl) (by rfl) (by simp [Value.oneCell']) ?_
      intro wz1 hBz hkz _
      go_wp2_with fail
      refine ret_blk_tmp rfl rfl hBz Tryz.underlying60 rfl (by kernel_rfl) rfl ?_
      rw [hR.out]
      exact ⟨im0C, rfl, ImR.zero, hkw4.trans hkz fun j hj e => by have e2 : j = w.heap.size := e; omega⟩
end
end Go.Proofs.YtbnahidopemkiaaGreat
