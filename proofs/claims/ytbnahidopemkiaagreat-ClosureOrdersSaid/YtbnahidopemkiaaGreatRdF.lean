/- closure: parse. closure: round. closure: Order's relation. Files among the arguments. No condition. -/
import Derived.Test.YtbnahidopemkiaaGreatLdS
import Derived.Test.YtbnahidopemkiaaGreatIm9
import Derived.Test.YtbnahidopemkiaaGreatEnt
import Derived.Test.YtbnahidopemkiaaGreatSg2
import Derived.Test.YtbnahidopemkiaaGreatClN
import Derived.Test.YtbnahidopemkiaaGreatMapR
set_option linter.unusedVariables false
set_option linter.unusedSimpArgs false
namespace Go.Proofs.YtbnahidopemkiaaGreat
open Go.RowKit Go.Dm Go.Dm.Oc Go.Dm.Ld
/-- is it the string of these bytes? -/
def strIs (n : BS) (v : Value) : Bool := match v with | .string s => s.data.toList == n | _ => false
def encP (p : Value × Value) : List Value := [p.1, p.2]
theorem encP_len (p : Value × Value) : (encP p).length = 2 := rfl
/-- a file's cells -/
def FileOk (A : Nat → Prop) (w : World) (p : Value × Value) (f : BS × BS) : Prop := p.1 = .string ⟨f.1.toArray⟩ ∧ Bts A w p.2 f.2
/-- a slice that reads as files -/
def FiR (A : Nat → Prop) (w : World) (v : Value) (fs : Fs) : Prop :=
  ∃ ps : List (Value × Value), ps.length = fs.length ∧ Fl A w 2 encP v ps ∧ ∀ (i : Nat) (p : Value × Value) (f : BS × BS), ps[i]? = some p → fs[i]? = some f → FileOk A w p f
section
variable {A B S : Nat → Prop} {w w' : World} {v : Value} {fs : Fs}
theorem FiR.keep (h : FiR A w v fs) (hk : Keep S w w') (hS : ∀ j, j < w.heap.size → A j → ¬ S j) : FiR A w' v fs := by
  obtain ⟨ps, h1, h2, h3⟩ := h
  exact ⟨ps, h1, h2.keep hk hS, fun i p f hp hf => ⟨(h3 i p f hp hf).1, Sl.keep (h3 i p f hp hf).2 hk hS⟩⟩
theorem FiR.no (h : FiR A w v fs) (hk : Keep No w w') : FiR A w' v fs := h.keep hk fun _ _ _ h => h
theorem FiR.mono (h : FiR A w v fs) (hab : ∀ k, k < w.heap.size → A k → B k) : FiR B w v fs := by
  obtain ⟨ps, h1, h2, h3⟩ := h
  exact ⟨ps, h1, h2.mono hab, fun i p f hp hf => ⟨(h3 i p f hp hf).1, Sl.mono (h3 i p f hp hf).2 hab⟩⟩
theorem FiR.nil : FiR A w (.slice none 0 0) [] := ⟨[], rfl, Fl.nil, fun i p f h => by simp at h⟩
set_option maxRecDepth 100000 in
set_option maxHeartbeats 4000000 in
theorem idxFile_any (ps : List (Value × Value)) (g : Nat) (caps : Array Value) (p : (Value × Value) → Bool) (hl : Fl A w 2 encP v ps) (hent : ∀ a, Enters g (#[a] ++ caps))
    (hcall : ∀ s ∈ ps, ∀ wr, Keep No w wr → Calls Tryz.prog g (#[.agg #[s.1, s.2]] ++ caps) wr fun e w' => e = .returned (.bool (p s)) ∧ Keep No wr w') :
    Calls Tryz.prog 27 #[v, .func (.func g) #[] caps] w fun e w' => e = .returned (.int .i64 (posM p ps)) ∧ Keep No w w' := by
  unfold Enters at hent
  have HL := Lib.hid hl
  have HC := Lib.hid hcall
  obtain ⟨ao, co, rfl, hc1, hc2⟩ := hl.shape
  have hlen : ps.length ≤ 9223372036854775807 := by unfold maxLen at hc2; omega
  clear hl hcall hc1 hc2
  go_enter Tryz.func27, Tryz.ntmps27
  go_wp2_with fail
  go_loopw [5, 8] (fun _ iv wr => ∃ i : Nat, iv = .int .i64 i ∧ i ≤ ps.length ∧ (∀ j, j < i → ∀ x, ps[j]? = some x → p x = false) ∧ Keep No w wr) (fun _ iv _ => ps.length - (intOf iv).toNat)
  case atStart => exact ⟨0, rfl, Nat.zero_le _, (fun j hj => absurd hj (Nat.not_lt_zero _)), Keep.refl _ _⟩
  case round =>
    obtain ⟨i, rfl, hi, hno, hk⟩ := hrel
    generalize wr = wz at *
    rcases Nat.lt_or_ge i ps.length with hlt | hge
    · obtain ⟨g1, off, cap, ev, _, _, _, _, hc⟩ := (HL.out.no hk).at encP_len hlt
      cases ev
      have hiz : (i : Int) < (ps.length : Int) := by omega
      have hcall := HC.out ps[i] (List.getElem_mem hlt) wz hk
      have hfin : p ps[i] = true → posM p ps = (i : Int) := fun h => posM_some hlt h fun j hj => hno j hj _ (List.getElem?_eq_getElem _)
      have hno2 : p ps[i] = false → ∀ j, j < i + 1 → ∀ x, ps[j]? = some x → p x = false := fun h j hji x hx => by
        rcases Nat.lt_or_ge j i with h2 | h2
        · exact hno j h2 x hx
        · obtain rfl : j = i := by omega
          rw [List.getElem?_eq_getElem hlt] at hx
          cases hx
          exact h
      have HF := Lib.hid hfin
      have HN := Lib.hid hno2
      clear hno hfin hno2
      have c0 := hc 0 _ rfl
      have c1 := hc 1 _ rfl
      clear hc
      generalize hb : p ps[i] = b at *
      generalize ps[i].1 = x0 at *
      generalize ps[i].2 = x1 at *
      clear hb
      rw [Nat.add_zero] at c0
      go_wp2_with fail
      refine hcall.mono ?_
      rintro e w2 ⟨rfl, hk2⟩
      have hk2' := hk.trans' hk2
      clear hcall c0 c1
      cases b with
      | true =>
        go_wp2_with fail
        go_ret
        rw [HF.out trivial]
        exact ⟨rfl, hk2'⟩
      | false =>
        go_wp2_with fail
        go_roundw
        case rel => exact ⟨i + 1, by go_num, hlt, HN.out trivial, hk2'⟩
        case measure => simp [intOf]; omega
    · obtain rfl : i = ps.length := Nat.le_antisymm hi hge
      have hof := posM_none (p := p) (l := ps) fun j hj => hno j hj _ (List.getElem?_eq_getElem hj)
      go_wp2_with fail
      go_ret
      rw [hof]
      exact ⟨rfl, hk⟩
set_option maxHeartbeats 1000000 in
theorem clparse1_any (f : BS) (vb : Value) (n : BS) (q : Nat) (hq : w.cell? ⟨q, 0, none⟩ = some (.string ⟨n.toArray⟩)) (hql : q < w.heap.size) :
    Calls Tryz.prog 28 #[.agg #[.string ⟨f.toArray⟩, vb], .pointer (some ⟨q, 0, none⟩)] w fun e w' => e = .returned (.bool (f == n)) ∧ Keep No w w' := by
  have hne : q ≠ w.heap.size := Nat.ne_of_lt hql
  have hx : (⟨f.toArray⟩ : ByteArray).toList = f := by rw [Lib.toList_data]
  have hy : (⟨n.toArray⟩ : ByteArray).toList = n := by rw [Lib.toList_data]
  generalize (⟨f.toArray⟩ : ByteArray) = x at *
  generalize (⟨n.toArray⟩ : ByteArray) = y at *
  have HX := Lib.hid hx
  have HY := Lib.hid hy
  clear hx hy
  go_enter Tryz.func28, Tryz.ntmps28
  go_wp2_with fail
  go_ret
  refine ⟨congrArg (fun b => Ending.returned (Value.bool b)) ?_, (Keep.refl _ _).alloc _⟩
  rw [Bool.eq_iff_iff]
  simp [HX.out, HY.out]
theorem posM_map {α β : Type} {p : α → Bool} {q : β → Bool} {l : List α} {m : List β} (hl : l.length = m.length) (h : ∀ (i : Nat) (h1 : i < l.length) (h2 : i < m.length), p l[i] = q m[i]) : posM p l = posM q m := by
  rcases posM_find q m with ⟨h1, h2⟩ | ⟨i, hi, h1, h2⟩
  · rw [h2]
    refine posM_none fun j hj => ?_
    rw [h j hj (by omega)]
    have := List.find?_eq_none.1 h1 m[j] (List.getElem_mem _)
    simpa using this
  · rw [h2]
    have hs := List.find?_eq_some_iff_getElem.1 h1
    obtain ⟨hq, k, hk, hkm, hkb⟩ := hs
    have hki : k = i := by
      rcases Nat.lt_trichotomy k i with h3 | h3 | h3
      · have hpi : posM q m = (k : Int) := posM_some hk (by rw [hkm]; exact hq) fun j hj => by simpa using hkb j hj
        rw [h2] at hpi
        omega
      · exact h3
      · have := hkb i h3
        rw [hq] at this
        simp at this
    subst hki
    refine posM_some (by omega) ?_ fun j hj => ?_
    · rw [h k (by omega) hk]; exact hq
    · rw [h j (by omega) (by omega)]
      simpa using hkb j hj
set_option maxRecDepth 100000 in
set_option maxHeartbeats 4000000 in
theorem clparse_any (name : BS) (first : Bool) (hf : FiR A w v fs) (hfl : ∀ f ∈ fs, f.2.length ≤ 1099511627776) :
    Calls Tryz.prog 15 #[.string ⟨name.toArray⟩, v, .bool first] w fun e w' => ∃ nm cs, e = .returned (.tuple #[.agg (Value.string nm :: cs).toArray, .int .i64 ((unitM name fs first).1 : Nat)]) ∧ ImR (fun k => w.heap.size ≤ k) w' cs (unitM name fs first).2 ∧ Keep No w w' ∧ ((unitM name fs first).1 = 0 → nm = ⟨name.toArray⟩) := by
  have HF := Lib.hid hf
  obtain ⟨ps, hpl, hfl2, hpo⟩ := hf
  have hH : unitM name fs first = match findF fs name with
    | none => (31, im0)
    | some b => if (parseM b).1 ≠ 0 then ((parseM b).1, im0) else if first = decide ((parseM b).2.hd.kind = 2) then (0, (parseM b).2) else (11, im0) := rfl
  have hfind : ∀ W, Keep No w W → W.cell? ⟨w.heap.size, 0, none⟩ = some (.string ⟨name.toArray⟩) → w.heap.size < W.heap.size → Calls Tryz.prog 27 #[v, .func (.func 28) #[] #[.pointer (some ⟨w.heap.size, 0, none⟩)]] W fun e w' => e = .returned (.int .i64 (posM (fun f : BS × BS => f.1 == name) fs)) ∧ Keep No W w' := by
    intro W hk hq hql
    have hpp : posM (fun p : Value × Value => strIs name p.1) ps = posM (fun f : BS × BS => f.1 == name) fs := by
      refine posM_map hpl fun i h1 h2 => ?_
      rw [(hpo i _ _ (List.getElem?_eq_getElem h1) (List.getElem?_eq_getElem h2)).1]
      rfl
    rw [← hpp]
    refine idxFile_any ps 28 #[.pointer (some ⟨w.heap.size, 0, none⟩)] _ (hfl2.no hk) (fun a w => by kernel_rfl) fun s hs wr hkr => ?_
    obtain ⟨i, hi, rfl⟩ := List.getElem_of_mem hs
    have ho := (hpo i _ _ (List.getElem?_eq_getElem hi) (List.getElem?_eq_getElem (show i < fs.length by omega))).1
    rw [ho]
    have hc := clparse1_any (w := wr) fs[i].1 ps[i].2 name w.heap.size ((hkr.cell (p := ⟨w.heap.size, 0, none⟩) hql fun h => h).trans hq) (Nat.lt_of_lt_of_le hql hkr.size)
    exact hc
  obtain ⟨ao, co, rfl, hc1, hc2⟩ := hfl2.shape
  have HFd := Lib.hid hfind
  generalize hres : unitM name fs first = res at *
  clear hfind hres
  have HPL := Lib.hid hpl
  clear hpl
  have hst : ∃ bs : ByteArray, bs = ⟨name.toArray⟩ := ⟨_, rfl⟩
  obtain ⟨bs, hbs⟩ := hst
  rw [← hbs] at HFd ⊢
  clear hbs
  go_enter Tryz.func15, Tryz.ntmps15
  go_wp2_with fail
  have hkW : Keep No w (w.alloc (.cells #[.string bs] 9)) := (Keep.refl _ _).alloc _
  have hBW : Blk (w.alloc (.cells #[.string bs] 9)) w.heap.size #[.string bs] 9 := Blk.new _ _ _
  have hzW : (w.alloc (.cells #[.string bs] 9)).heap.size = w.heap.size + 1 := World.size_alloc _ _
  generalize w.alloc (.cells #[.string bs] 9) = W at *
  have hkV : Keep No W (W.alloc (.cells #[.string ⟨#[]⟩, .int .i64 0, .int .u64 0, .int .u64 0, .int .i64 0, .slice none 0 0, .string ⟨#[]⟩, .slice none 0 0, .slice none 0 0, .slice none 0 0, .slice none 0 0, .slice none 0 0] 62)) := (Keep.refl _ _).alloc _
  have hBV : Blk (W.alloc (.cells #[.string ⟨#[]⟩, .int .i64 0, .int .u64 0, .int .u64 0, .int .i64 0, .slice none 0 0, .string ⟨#[]⟩, .slice none 0 0, .slice none 0 0, .slice none 0 0, .slice none 0 0, .slice none 0 0] 62)) W.heap.size #[.string ⟨#[]⟩, .int .i64 0, .int .u64 0, .int .u64 0, .int .i64 0, .slice none 0 0, .string ⟨#[]⟩, .slice none 0 0, .slice none 0 0, .slice none 0 0, .slice none 0 0, .slice none 0 0] 62 := Blk.new _ _ _
  have hzV : (W.alloc (.cells #[.string ⟨#[]⟩, .int .i64 0, .int .u64 0, .int .u64 0, .int .i64 0, .slice none 0 0, .string ⟨#[]⟩, .slice none 0 0, .slice none 0 0, .slice none 0 0, .slice none 0 0, .slice none 0 0] 62)).heap.size = W.heap.size + 1 := World.size_alloc _ _
  generalize W.alloc (.cells #[.string ⟨#[]⟩, .int .i64 0, .int .u64 0, .int .u64 0, .int .i64 0, .slice none 0 0, .string ⟨#[]⟩, .slice none 0 0, .slice none 0 0, .slice none 0 0, .slice none 0 0, .slice none 0 0] 62) = V at *
  have hBV2 := hBW.keep hkV fun h => h
  rw [hzW] at hBV
  have hkwV := hkW.trans' hkV
  refine (HFd.out V hkwV (hBV2.cell 0) hBV2.lt).mono ?_
  rintro e w2 ⟨rfl, hk2⟩
  have hB2 := hBV.keep hk2 fun h => h
  have hQ2 := hBV2.keep hk2 fun h => h
  have hkw2 := hkwV.trans' hk2
  clear hBW hkW hkV hzW hzV hBV hBV2 hkwV HFd hk2
  rcases posM_find (fun f : BS × BS => f.1 == name) fs with ⟨h1, h2⟩ | ⟨i, hi, h1, h2⟩
  · have hH2 : res = (31, im0) := by
      rw [hH]
      unfold findF
      rw [h1]
      rfl
    subst hH2
    rw [h2]
    clear HF hH h1 h2
    go_wp2_with (with_reducible refine wl_stAgg rfl _ _ _ rfl _ _ rfl rfl ?_)
    refine rg_stAgg hB2 (by kernel_rfl) (by rfl) (by simp [Value.oneCell']) ?_
    intro w3 hB3 hk3 _
    go_wp2_with fail
    refine ret_blk_tmp rfl rfl hB3 Tryz.underlying62 rfl (by kernel_rfl) rfl ?_
    have hkF : Keep No w w3 := hkw2.trans hk3 fun j hj e => by have e2 : j = w.heap.size + 1 := e; omega
    first
      | exact ⟨_, im0C, rfl, ImR.zero, hkF⟩
      | exact ⟨_, im0C, rfl, ImR.zero, hkF, fun h => absurd h (by decide)⟩
  · have hH2 : res = if (parseM fs[i].2).1 ≠ 0 then ((parseM fs[i].2).1, im0) else if first = decide ((parseM fs[i].2).2.hd.kind = 2) then (0, (parseM fs[i].2).2) else (11, im0) := by
      rw [hH]
      unfold findF
      rw [h1]
      rfl
    rw [h2]
    have hps : i < ps.length := by rw [HPL.out]; exact hi
    obtain ⟨g1, off, cap, ev, _, hg1, _, _, hc⟩ := (hfl2.no hkw2).at encP_len hps
    cases ev
    have hfo := hpo i _ _ (List.getElem?_eq_getElem hps) (List.getElem?_eq_getElem hi)
    have hbt := Sl.keep hfo.2 hkw2 fun _ _ _ h => h
    have hpar := imparse_any (w := w2) fs[i].2 hbt (hfl _ (List.getElem_mem hi))
    have c0 := hc 0 _ rfl
    have c1 := hc 1 _ rfl
    rw [hfo.1, Nat.add_zero] at c0
    obtain ⟨ab, qb, ebt, _, _⟩ := hbt.shape
    rw [ebt] at c1 hpar
    generalize parseM fs[i].2 = pm at *
    obtain ⟨pe, pi⟩ := pm
    dsimp only at hpar hH2
    have hii : (i : Int) < (ps.length : Int) := by omega
    generalize fs[i].2.length = nb at *
    generalize (⟨fs[i].1.toArray⟩ : ByteArray) = b0 at *
    have HH2 := Lib.hid hH2
    clear hH h1 h2 hc hfo hbt ebt hpo hH2
    go_wp2_with fail
    refine hpar.mono ?_
    rintro e w3 ⟨cs, rfl, him, hk3⟩
    have him3 := him
    obtain ⟨vs, vn, vm, vy, vr, vb, rfl, -⟩ := him
    have hB3 := hB2.keep hk3 fun h => h
    have hQ3 := hQ2.keep hk3 fun h => h
    have hkw3 := hkw2.trans' hk3
    have hkw2s := hkw2.size
    have hL2a := hB2.lt
    clear hkw2 hpar hB2 hQ2 hk3 c0 c1 hfl2 hfl HF
    have L1 : w.heap.size + 1 < w3.heap.size := hB3.lt
    have hL2 : w.heap.size + 1 < w2.heap.size := hL2a
    have hone := ImR.one him3
    go_wp2_with (with_reducible refine wl_stAgg rfl _ _ _ rfl _ _ rfl rfl ?_)
    have hkW4 : Keep No w3 (w3.alloc (.cells #[.int .i64 0, .int .u64 0, .int .u64 0, .int .i64 0, .slice none 0 0, .string ⟨#[]⟩, .slice none 0 0, .slice none 0 0, .slice none 0 0, .slice none 0 0, .slice none 0 0] 60)) := (Keep.refl _ _).alloc _
    have hBW4 : Blk (w3.alloc (.cells #[.int .i64 0, .int .u64 0, .int .u64 0, .int .i64 0, .slice none 0 0, .string ⟨#[]⟩, .slice none 0 0, .slice none 0 0, .slice none 0 0, .slice none 0 0, .slice none 0 0] 60)) w3.heap.size #[.int .i64 0, .int .u64 0, .int .u64 0, .int .i64 0, .slice none 0 0, .string ⟨#[]⟩, .slice none 0 0, .slice none 0 0, .slice none 0 0, .slice none 0 0, .slice none 0 0] 60 := Blk.new _ _ _
    have hzW4 : (w3.alloc (.cells #[.int .i64 0, .int .u64 0, .int .u64 0, .int .i64 0, .slice none 0 0, .string ⟨#[]⟩, .slice none 0 0, .slice none 0 0, .slice none 0 0, .slice none 0 0, .slice none 0 0] 60)).heap.size = w3.heap.size + 1 := World.size_alloc _ _
    generalize w3.alloc (.cells #[.int .i64 0, .int .u64 0, .int .u64 0, .int .i64 0, .slice none 0 0, .string ⟨#[]⟩, .slice none 0 0, .slice none 0 0, .slice none 0 0, .slice none 0 0, .slice none 0 0] 60) = W4 at *
    have hB4 := hB3.keep hkW4 fun h => h
    have hQ4 := hQ3.keep hkW4 fun h => h
    have him4 := (him3.mono (B := fun k => w2.heap.size ≤ k ∧ k < w3.heap.size) fun k h1 h2 => ⟨h2, h1⟩).no hkW4
    refine rg_stAgg hBW4 (by kernel_rfl) (by rfl) (by rw [List.all_toArray]; exact List.all_eq_true.2 fun u hu => hone u hu) ?_
    intro w5 hI5 hk5 hz5
    have hkw5 : Keep No w w5 := (hkw3.trans' hkW4).trans hk5 fun j hj e => by have e2 : j = w3.heap.size := e; omega
    have hB5 := hB4.keep hk5 fun e => by have e2 : w.heap.size + 1 = w3.heap.size := e; omega
    have hQ5 := hQ4.keep hk5 fun e => by have e2 : w.heap.size = w3.heap.size := e; omega
    have him5 := him4.keep hk5 (fun j _ h e => by have e2 : j = w3.heap.size := e; exact absurd h.2 (by omega))
    clear hkw3 hkW4 hk5 hB4 hQ4 him4 hBW4 hzW4 hB3 hQ3 him3
    obtain ⟨cs, hcs⟩ : ∃ cs, cs = imC pi.hd vs pi.so vn vm vy vr vb := ⟨_, rfl⟩
    have c0 := hI5.cell 0
    rw [show (imC pi.hd vs pi.so vn vm vy vr vb).toArray[0]? = some (.int .i64 (pi.hd.kind : Int)) from rfl] at c0
    rw [← hcs] at him5 hone hI5
    have hQc := hQ5.cell 0
    have L2 := hI5.lt
    have him5 := (him5.keep (Keep.refl No _) fun _ _ _ h => h).mono (B := fun k => w.heap.size + 1 < k) fun k _ hk => Nat.lt_of_lt_of_le hL2 hk.1
    clear L1 hL2a hL2 hkw2s
    by_cases h0 : pe = 0
    · subst h0
      rw [if_neg (fun h => h rfl)] at HH2
      have e2 : ((pi.hd.kind : Int) == 2) = decide (pi.hd.kind = 2) := by
        rw [Bool.eq_iff_iff, beq_iff_eq, decide_eq_true_eq]; omega
      generalize decide (pi.hd.kind = 2) = k2 at *
      generalize (pi.hd.kind : Int) = kk at *
      by_cases h2 : first = k2
      · rw [if_pos h2] at HH2
        have e3 : (first == (kk == 2)) = true := by rw [e2, h2]; simp
        have E2 := Lib.hid h2
        clear e2 h2
        subst hcs
        have hr := HH2.out
        subst hr
        clear HH2
        go_wp2_with (first | (with_reducible refine wl_ld rfl _ 60 rfl _ rfl ?_) | (with_reducible refine wl_build rfl 62 _ rfl ?_) | (with_reducible refine wl_stAgg rfl _ _ _ rfl _ _ rfl rfl ?_))
        refine rg_ld hI5 Tryz.underlying60 rfl (by kernel_rfl) ?_
        go_wp2_with (first | (with_reducible refine wl_ld rfl _ 60 rfl _ rfl ?_) | (with_reducible refine wl_build rfl 62 _ rfl ?_) | (with_reducible refine wl_stAgg rfl _ _ _ rfl _ _ rfl rfl ?_))
        refine rg_build (cells := (Value.string bs :: imC pi.hd vs pi.so vn vm vy vr vb).toArray) (by kernel_rfl) ?_
        go_wp2_with (first | (with_reducible refine wl_ld rfl _ 60 rfl _ rfl ?_) | (with_reducible refine wl_build rfl 62 _ rfl ?_) | (with_reducible refine wl_stAgg rfl _ _ _ rfl _ _ rfl rfl ?_))
        refine rg_stAgg hB5 (by kernel_rfl) (by rfl) (by
          rw [List.all_toArray]
          refine List.all_eq_true.2 fun u hu => ?_
          rcases List.mem_cons.1 hu with rfl | hu
          · rfl
          · exact hone u hu) ?_
        intro w6 hB6 hk6 _
        go_wp2_with (first | (with_reducible refine wl_ld rfl _ 60 rfl _ rfl ?_) | (with_reducible refine wl_build rfl 62 _ rfl ?_) | (with_reducible refine wl_stAgg rfl _ _ _ rfl _ _ rfl rfl ?_))
        refine ret_blk_tmp rfl rfl hB6 Tryz.underlying62 rfl (by kernel_rfl) rfl ?_
        have hkF : Keep No w w6 := hkw5.trans hk6 fun j hj e => by have e2 : j = w.heap.size + 1 := e; omega
        exact ⟨_, _, rfl, (him5.keep hk6 (fun j hj h e => Nat.ne_of_gt h e)).mono (fun k _ hk => Nat.le_of_lt (Nat.lt_trans (Nat.lt_succ_self _) hk)), hkF, by intros; rfl⟩
      · rw [if_neg h2] at HH2
        have e3 : (first == (kk == 2)) = false := by rw [e2]; simp [h2]
        have hr := HH2.out
        subst hr
        clear e2 h2 HH2
        go_wp2_with (with_reducible refine wl_stAgg rfl _ _ _ rfl _ _ rfl rfl ?_)
        refine rg_stAgg hB5 (by kernel_rfl) (by rfl) (by simp [Value.oneCell']) ?_
        intro w6 hB6 hk6 _
        go_wp2_with fail
        refine ret_blk_tmp rfl rfl hB6 Tryz.underlying62 rfl (by kernel_rfl) rfl ?_
        have hkF : Keep No w w6 := hkw5.trans hk6 fun j hj e => by have e2 : j = w.heap.size + 1 := e; omega
        first
          | exact ⟨_, im0C, rfl, ImR.zero, hkF⟩
          | exact ⟨_, im0C, rfl, ImR.zero, hkF, fun h => absurd h (by decide)⟩
    · rw [if_pos h0] at HH2
      have hr := HH2.out
      subst hr
      have e3 : ((pe : Int) != 0) = true := by simp [h0]
      clear HH2
      go_wp2_with (with_reducible refine wl_stAgg rfl _ _ _ rfl _ _ rfl rfl ?_)
      refine rg_stAgg hB5 (by kernel_rfl) (by rfl) (by simp [Value.oneCell']) ?_
      intro w6 hB6 hk6 _
      go_wp2_with fail
      refine ret_blk_tmp rfl rfl hB6 Tryz.underlying62 rfl (by kernel_rfl) rfl ?_
      have hkF : Keep No w w6 := hkw5.trans hk6 fun j hj e => by have e2 : j = w.heap.size + 1 := e; omega
      first
        | exact ⟨_, im0C, rfl, ImR.zero, hkF⟩
        | exact ⟨_, im0C, rfl, ImR.zero, hkF, fun h => absurd h h0⟩
end
end Go.Proofs.YtbnahidopemkiaaGreat
namespace Go.Proofs.YtbnahidopemkiaaGreat
open Go.RowKit Go.Dm Go.Dm.Oc Go.Dm.Ld Go.Maps Go.WideMaps Go.WideElems
section
variable {A B S : Nat → Prop} {w w' : World} {v : Value}
set_option maxRecDepth 100000 in
set_option maxHeartbeats 4000000 in
theorem idxStr_any (ps : List BS) (g : Nat) (caps : Array Value) (p : BS → Bool) (hl : Fl A w 1 encS v ps) (hent : ∀ a, Enters g (#[a] ++ caps))
    (hcall : ∀ s ∈ ps, ∀ wr, Keep No w wr → Calls Tryz.prog g (#[.string ⟨s.toArray⟩] ++ caps) wr fun e w' => e = .returned (.bool (p s)) ∧ Keep No wr w') :
    Calls Tryz.prog 60 #[v, .func (.func g) #[] caps] w fun e w' => e = .returned (.int .i64 (posM p ps)) ∧ Keep No w w' := by
  unfold Enters at hent
  have HL := Lib.hid hl
  have HC := Lib.hid hcall
  obtain ⟨ao, co, rfl, hc1, hc2⟩ := hl.shape
  have hlen : ps.length ≤ 9223372036854775807 := by unfold maxLen at hc2; omega
  clear hl hcall hc1 hc2
  go_enter Tryz.func60, Tryz.ntmps60
  go_wp2_with fail
  go_loopw [5, 8] (fun _ iv wr => ∃ i : Nat, iv = .int .i64 i ∧ i ≤ ps.length ∧ (∀ j, j < i → ∀ x, ps[j]? = some x → p x = false) ∧ Keep No w wr) (fun _ iv _ => ps.length - (intOf iv).toNat)
  case atStart => exact ⟨0, rfl, Nat.zero_le _, (fun j hj => absurd hj (Nat.not_lt_zero _)), Keep.refl _ _⟩
  case round =>
    obtain ⟨i, rfl, hi, hno, hk⟩ := hrel
    generalize wr = wz at *
    rcases Nat.lt_or_ge i ps.length with hlt | hge
    · obtain ⟨g1, off, cap, ev, _, _, _, _, hc⟩ := (HL.out.no hk).at encS_len hlt
      cases ev
      have hiz : (i : Int) < (ps.length : Int) := by omega
      have hcall := HC.out ps[i] (List.getElem_mem hlt) wz hk
      have hfin : p ps[i] = true → posM p ps = (i : Int) := fun h => posM_some hlt h fun j hj => hno j hj _ (List.getElem?_eq_getElem _)
      have hno2 : p ps[i] = false → ∀ j, j < i + 1 → ∀ x, ps[j]? = some x → p x = false := fun h j hji x hx => by
        rcases Nat.lt_or_ge j i with h2 | h2
        · exact hno j h2 x hx
        · obtain rfl : j = i := by omega
          rw [List.getElem?_eq_getElem hlt] at hx
          cases hx
          exact h
      have HF := Lib.hid hfin
      have HN := Lib.hid hno2
      clear hno hfin hno2
      have c0 := hc 0 _ rfl
      clear hc
      generalize hb : p ps[i] = b at *
      generalize (⟨ps[i].toArray⟩ : ByteArray) = x0 at *
      clear hb
      rw [Nat.add_zero, Nat.mul_one] at c0
      go_wp2_with fail
      refine hcall.mono ?_
      rintro e w2 ⟨rfl, hk2⟩
      have hk2' := hk.trans' hk2
      clear hcall c0
      cases b with
      | true =>
        go_wp2_with fail
        go_ret
        rw [HF.out trivial]
        exact ⟨rfl, hk2'⟩
      | false =>
        go_wp2_with fail
        go_roundw
        case rel => exact ⟨i + 1, by go_num, hlt, HN.out trivial, hk2'⟩
        case measure => simp [intOf]; omega
    · obtain rfl : i = ps.length := Nat.le_antisymm hi hge
      have hof := posM_none (p := p) (l := ps) fun j hj => hno j hj _ (List.getElem?_eq_getElem hj)
      go_wp2_with fail
      go_ret
      rw [hof]
      exact ⟨rfl, hk⟩
set_option maxHeartbeats 1000000 in
theorem hasStr_any (ps : List BS) (g : Nat) (caps : Array Value) (p : BS → Bool) (hl : Fl A w 1 encS v ps) (hent : ∀ a, Enters g (#[a] ++ caps))
    (hcall : ∀ s ∈ ps, ∀ wr, Keep No w wr → Calls Tryz.prog g (#[.string ⟨s.toArray⟩] ++ caps) wr fun e w' => e = .returned (.bool (p s)) ∧ Keep No wr w') :
    Calls Tryz.prog 31 #[v, .func (.func g) #[] caps] w fun e w' => e = .returned (.bool (ps.any p)) ∧ Keep No w w' := by
  have hc := idxStr_any ps g caps p hl hent hcall
  have hb : decide (0 ≤ posM p ps) = ps.any p := by
    unfold posM
    cases ps.any p with
    | false => rfl
    | true => simp
  clear hl hent hcall
  generalize posM p ps = r at *
  generalize ps.any p = b at *
  go_enter Tryz.func31, Tryz.ntmps31
  go_wp2_with fail
  refine hc.mono ?_
  rintro e w2 ⟨rfl, hk2⟩
  go_wp2_with fail
  go_ret
  exact ⟨by rw [← hb]; rfl, hk2⟩
end
/-- a unit's cells, but for its lists' elements -/
structure UC where
  nm : BS
  hd : Hd
  vs : Value
  so : BS
  vn : Value
  vm : Value
  vy : Value
  vr : Value
  vb : Value
def encU (u : UC) : List Value := .string ⟨u.nm.toArray⟩ :: imC u.hd u.vs u.so u.vn u.vm u.vy u.vr u.vb
theorem encU_len (u : UC) : (encU u).length = 12 := rfl
def UnOk (A : Nat → Prop) (w : World) (p : UC) (u : BS × Im) : Prop := p.nm = u.1 ∧ ImR A w (imC p.hd p.vs p.so p.vn p.vm p.vy p.vr p.vb) u.2
/-- a row of units -/
def UsOk (A : Nat → Prop) (w : World) (ps : List UC) (us : List (BS × Im)) : Prop := ps.length = us.length ∧ ∀ (i : Nat) (p : UC) (u : BS × Im), ps[i]? = some p → us[i]? = some u → UnOk A w p u
def NU (T : List UC) : List (Lit × Value) := T.map fun p => (.string p.nm, p.vn)
section
variable {A B S : Nat → Prop} {w w' : World} {v : Value} {ps : List UC} {us : List (BS × Im)}
theorem UnOk.keep {p : UC} {u : BS × Im} (h : UnOk A w p u) (hk : Keep S w w') (hS : ∀ j, j < w.heap.size → A j → ¬ S j) : UnOk A w' p u := ⟨h.1, h.2.keep hk hS⟩
theorem UnOk.mono {p : UC} {u : BS × Im} (h : UnOk A w p u) (hab : ∀ k, k < w.heap.size → A k → B k) : UnOk B w p u := ⟨h.1, h.2.mono hab⟩
theorem UsOk.keep (h : UsOk A w ps us) (hk : Keep S w w') (hS : ∀ j, j < w.heap.size → A j → ¬ S j) : UsOk A w' ps us := ⟨h.1, fun i p u hp hu => (h.2 i p u hp hu).keep hk hS⟩
theorem UsOk.mono (h : UsOk A w ps us) (hab : ∀ k, k < w.heap.size → A k → B k) : UsOk B w ps us := ⟨h.1, fun i p u hp hu => (h.2 i p u hp hu).mono hab⟩
theorem UsOk.names (h : UsOk A w ps us) : ps.map (·.nm) = us.map (·.1) := by
  refine List.ext_getElem (by rw [List.length_map, List.length_map, h.1]) fun i h1 h2 => ?_
  rw [List.length_map] at h1 h2
  rw [List.getElem_map, List.getElem_map]
  exact (h.2 i _ _ (List.getElem?_eq_getElem h1) (List.getElem?_eq_getElem h2)).1
theorem kStrC : Keyed Tryz.prog 9 := string_keyed Tryz.underlying9
theorem kOfC {s : List UInt8} (h : s.length ≤ maxLen) : keyOf Tryz.prog 9 (.string ⟨s.toArray⟩) = some (.string s) := by
  have := keyOf_string_mk (s := ⟨s.toArray⟩) Tryz.underlying9 (by show s.toArray.size ≤ maxLen; simpa using h)
  simpa using this
theorem litC {s : List UInt8} (h : s.length ≤ maxLen) : WideAt.IsKeyLit (.string s) := keyLit_of kStrC (kOfC h)
theorem findL_NU {T : List UC} {n : BS} (h : n.length ≤ maxLen) : (findL (NU T) (.string n)).isSome = (T.map (·.nm)).contains n := by
  rw [Bool.eq_iff_iff, List.contains_iff_mem]
  unfold findL NU
  rw [Option.isSome_map, List.find?_isSome]
  constructor
  · rintro ⟨p, hp, he⟩
    obtain ⟨u, hu, rfl⟩ := List.mem_map.1 hp
    have e := (sameKey_true (litC h)).1 he
    cases e
    exact List.mem_map.2 ⟨u, hu, rfl⟩
  · intro hn
    obtain ⟨u, hu, rfl⟩ := List.mem_map.1 hn
    exact ⟨(.string u.nm, u.vn), List.mem_map.2 ⟨u, hu, rfl⟩, (sameKey_true (litC h)).2 rfl⟩
def dropU (T : List UC) (n : BS) : List UC := T.filter fun p => p.nm != n
theorem eraseL_NU {T : List UC} {n : BS} (h : n.length ≤ maxLen) : eraseL (NU T) (.string n) = NU (dropU T n) := by
  unfold eraseL NU dropU
  rw [List.filter_map]
  congr 1
theorem mem_NU {T : List UC} {kl : Lit} {v : Value} (h : (kl, v) ∈ NU T) : ∃ p ∈ T, kl = .string p.nm ∧ v = p.vn := by
  obtain ⟨p, hp, e⟩ := List.mem_map.1 h
  cases e
  exact ⟨p, hp, rfl, rfl⟩
theorem zStrs (w : World) : (zeroValue 37).run Tryz.prog w = .ok (.slice none 0 0) w := by kernel_rfl
set_option maxHeartbeats 1000000 in
theorem clround1_any {T : List UC} {q b : Nat} (n : BS) (hn : n.length ≤ maxLen) (hM : MapL Tryz.prog 9 w b (NU T)) (hq : w.cell? ⟨q, 0, none⟩ = some (.map (some b))) :
    Calls Tryz.prog 30 #[.string ⟨n.toArray⟩, .pointer (some ⟨q, 0, none⟩)] w fun e w' => e = .returned (.bool ((T.map (·.nm)).contains n)) ∧ Keep No w w' := by
  have hf := findL_NU (T := T) hn
  generalize (T.map (·.nm)).contains n = bb at *
  go_enter Tryz.func30, Tryz.ntmps30
  go_wp2_with (at_lookup; refine wl_lookup rfl _ _ _ _ rfl _ _ rfl rfl ?_)
  refine rg_lookup_ok hM kStrC Tryz.underlying108 (zStrs w) (kOfC hn) ?_
  rw [hf]
  clear hf
  go_wp2_with (at_lookup; refine wl_lookup rfl _ _ _ _ rfl _ _ rfl rfl ?_)
  go_ret
  exact ⟨rfl, Keep.refl _ _⟩
theorem encU_one {p : UC} {u : BS × Im} (h : UnOk A w p u) : (encU p).toArray.all (·.oneCell') = true := by
  rw [List.all_toArray]
  refine List.all_eq_true.2 fun x hx => ?_
  rcases List.mem_cons.1 hx with rfl | hx
  · rfl
  · exact h.2.one x hx
theorem rangeLeft_eq {w w' : World} {b r : Nat} (eb : w'.heap[b]? = w.heap[b]?) (er : w'.heap[r]? = w.heap[r]?) : w'.rangeLeft b r = w.rangeLeft b r := by
  unfold World.rangeLeft
  rw [eb, er]
def InvU (us : List (BS × Im)) (ps : List UC) (N : List BS) (T : List UC) : Prop :=
  (∀ p ∈ T, p ∈ ps) ∧ (∀ p ∈ T, p.nm ∈ N) ∧ ∀ G : List BS, Stuck us G → (∀ x ∈ G, x ∈ us.map (·.1)) → ∀ x ∈ G, ∃ p ∈ T, p.nm = x
theorem mem_dropU {T : List UC} {n : BS} {p : UC} : p ∈ dropU T n ↔ p ∈ T ∧ p.nm ≠ n := by
  unfold dropU
  rw [List.mem_filter, bne_iff_ne]
theorem InvU_drop {N : List BS} {T : List UC} {u : BS × Im} (h : InvU us ps N T) (hnd : (us.map (·.1)).Nodup) (hu : u ∈ us) (hn : u.2.need.any (fun n => (T.map (·.nm)).contains n) = false) : InvU us ps N (dropU T u.1) := by
  obtain ⟨h1, h2, h3⟩ := h
  refine ⟨fun p hp => h1 p (mem_dropU.1 hp).1, fun p hp => h2 p (mem_dropU.1 hp).1, fun G hG hs x hx => ?_⟩
  obtain ⟨p, hp, e⟩ := h3 G hG hs x hx
  refine ⟨p, mem_dropU.2 ⟨hp, fun e2 => ?_⟩, e⟩
  obtain ⟨u2, hu2, e3, n, hnn, hng⟩ := hG x hx
  have e4 : u2 = u := by
    obtain ⟨i, hi, rfl⟩ := List.getElem_of_mem hu2
    obtain ⟨j, hj, rfl⟩ := List.getElem_of_mem hu
    by_cases hij : i = j
    · subst hij; rfl
    · have := List.pairwise_iff_getElem.1 hnd
      rcases Nat.lt_or_gt_of_ne hij with hlt | hlt
      · refine absurd ?_ (this i j (by rw [List.length_map]; exact hi) (by rw [List.length_map]; exact hj) hlt)
        rw [List.getElem_map, List.getElem_map, e3, ← e, e2]
      · refine absurd ?_ (this j i (by rw [List.length_map]; exact hj) (by rw [List.length_map]; exact hi) hlt)
        rw [List.getElem_map, List.getElem_map, e3, ← e, e2]
  subst e4
  obtain ⟨q, hq, e5⟩ := h3 G hG hs n hng
  rw [List.any_eq_false] at hn
  exact hn n hnn (List.contains_iff_mem.2 (List.mem_map.2 ⟨q, hq, e5⟩))
theorem InvU_end {T : List UC} (h : InvU us ps (stripN us us.length (us.map (·.1))) T) : decide (0 < T.length) = cycB us := by
  obtain ⟨h1, h2, h3⟩ := h
  unfold cycB
  rw [Bool.eq_iff_iff, decide_eq_true_eq, Bool.not_eq_true', List.isEmpty_eq_false_iff]
  constructor
  · intro hl e
    obtain ⟨p, hp⟩ := List.exists_mem_of_length_pos hl
    have := h2 p hp
    rw [e] at this
    cases this
  · intro hne
    obtain ⟨x, hx⟩ := List.exists_mem_of_ne_nil _ hne
    obtain ⟨p, hp, _⟩ := h3 _ (stuck_stripN us.length (us.map (·.1)) (by rw [List.length_map]; exact Nat.le_refl _)) (fun y hy => stripN_sub _ _ y hy) x hx
    exact List.length_pos_of_mem hp
set_option maxRecDepth 100000 in
set_option maxHeartbeats 4000000 in
theorem clround_any (hl : Fl A w 12 encU v ps) (hu : UsOk A w ps us) (hnd : (us.map (·.1)).Nodup) (hnl : ∀ u ∈ us, u.1.length ≤ 9223372036854775807) (hne : ∀ u ∈ us, ∀ n ∈ u.2.need, n.length ≤ 65536) :
    Calls Tryz.prog 16 #[v] w fun e w' => e = .returned (.bool (cycB us)) ∧ Keep No w w' := by
  have HL := Lib.hid hl
  have HU := Lib.hid hu
  have HND := Lib.hid hnd
  have HNL := Lib.hid hnl
  have HNE := Lib.hid hne
  obtain ⟨ao, co, rfl, hc1, hc2⟩ := hl.shape
  have hlen : ps.length ≤ 9223372036854775807 := by unfold maxLen at hc2; omega
  have HLN := Lib.hid hlen
  clear hl hu hnd hnl hne
  have hmm := @run_makeMap Tryz.prog
  obtain ⟨res, hres⟩ : ∃ res, res = cycB us := ⟨_, rfl⟩
  rw [← hres]
  have HR := Lib.hid hres
  clear hres
  go_enter Tryz.func16, Tryz.ntmps16
  go_wp2_with (first | (with_reducible refine wl_st rfl _ _ _ rfl _ _ _ rfl rfl ?_) | (at_mapUpdate; refine wl_mapUpdate rfl _ _ _ _ rfl _ _ _ rfl rfl rfl ?_))
  have hM0 := MapL.made Tryz.prog 9 w
  have hkM : Keep No w (w.alloc (.map #[] 0)) := (Keep.refl _ _).alloc _
  have hzM : (w.alloc (.map #[] 0)).heap.size = w.heap.size + 1 := World.size_alloc _ _
  generalize w.alloc (.map #[] 0) = w1 at *
  have hkW : Keep No w1 (w1.alloc (.cells #[.map none] 108)) := (Keep.refl _ _).alloc _
  have hBW : Blk (w1.alloc (.cells #[.map none] 108)) w1.heap.size #[.map none] 108 := Blk.new _ _ _
  have hzW : (w1.alloc (.cells #[.map none] 108)).heap.size = w1.heap.size + 1 := World.size_alloc _ _
  generalize w1.alloc (.cells #[.map none] 108) = W at *
  rw [hzM] at hBW hzW
  have hMW := hM0.keep hkW fun h => h
  have hkwW := hkM.trans' hkW
  refine rg_st1 hBW (by kernel_rfl) (by show 0 < 1; decide) rfl rfl ?_
  intro w2 hB2 hk2 hz2
  have hB2 : Blk w2 (w.heap.size + 1) #[.map (some w.heap.size)] 108 := hB2
  have hM2 := hMW.keep hk2 fun e => by have e2 : w.heap.size = w.heap.size + 1 := e; omega
  have hkw2 : Keep No w w2 := hkwW.trans hk2 fun j hj e => by have e2 : j = w.heap.size + 1 := e; omega
  clear hM0 hkM hBW hkW hMW hkwW hk2 hz2 hzW hzM
  go_wp2_with (first | (with_reducible refine wl_st rfl _ _ _ rfl _ _ _ rfl rfl ?_) | (at_mapUpdate; refine wl_mapUpdate rfl _ _ _ _ rfl _ _ _ rfl rfl rfl ?_))
  go_loopw [5, 12] (fun _ iv wr => ∃ i : Nat, iv = .int .i64 i ∧ i ≤ ps.length ∧ MapL Tryz.prog 9 wr w.heap.size (NU (ps.take i).reverse) ∧ Blk wr (w.heap.size + 1) #[.map (some w.heap.size)] 108 ∧ Keep No w wr) (fun _ iv _ => ps.length - (intOf iv).toNat)
  case atStart => exact ⟨0, rfl, Nat.zero_le _, hM2, hB2, hkw2⟩
  case round =>
    obtain ⟨i, rfl, hi, hM, hB, hk⟩ := hrel
    clear hM2 hB2 hkw2
    generalize wr = wz at *
    rcases Nat.lt_or_ge i ps.length with hlt | hge
    · have hus : i < us.length := by have := HU.out.1; omega
      obtain ⟨g1, off, cap, ev, _, _, _, _, hc⟩ := (HL.out.no hk).at encU_len hlt
      cases ev
      have hiz : (i : Int) < (ps.length : Int) := by omega
      have huo := (HU.out.2 i _ _ (List.getElem?_eq_getElem hlt) (List.getElem?_eq_getElem hus)).keep hk fun _ _ _ h => h
      have hone := encU_one huo
      have hpn := huo.1
      have HPN := Lib.hid hpn
      have hnlp : ps[i].nm.length ≤ maxLen := by rw [hpn]; have := HNL.out _ (List.getElem_mem hus); unfold maxLen; omega
      have hfree : eraseL (NU (ps.take i).reverse) (.string ps[i].nm) = NU (ps.take i).reverse := by
        rw [eraseL_NU hnlp]
        congr 1
        unfold dropU
        refine List.filter_eq_self.2 fun q hq => ?_
        rw [bne_iff_ne]
        intro e
        obtain ⟨j, hj, rfl⟩ := List.getElem_of_mem (List.mem_reverse.1 hq)
        rw [List.length_take] at hj
        rw [List.getElem_take] at e
        have hn1 := HU.out.names
        have hnd2 : (ps.map (·.nm)).Nodup := by rw [hn1]; exact HND.out
        have := List.pairwise_iff_getElem.1 hnd2 j i (by rw [List.length_map]; omega) (by rw [List.length_map]; exact hlt) (by omega)
        rw [List.getElem_map, List.getElem_map] at this
        exact this e
      have htk : (ps.take (i + 1)).reverse = ps[i] :: (ps.take i).reverse := by
        rw [List.take_succ_eq_append_getElem hlt, List.reverse_append]; rfl
      have HFR := Lib.hid hfree
      have HTK := Lib.hid htk
      clear hfree htk hpn huo
      generalize hp : ps[i] = p at *
      clear hp
      go_wp2_with (first | (with_reducible refine wl_ld rfl _ 62 rfl _ rfl ?_) | (with_reducible refine wl_stAgg rfl _ _ _ rfl _ _ rfl rfl ?_) | (at_mapUpdate; refine wl_mapUpdate rfl _ _ _ _ rfl _ _ _ rfl rfl rfl ?_))
      refine rg_lds (l := encU p) hc Tryz.underlying62 rfl (by kernel_rfl) ?_
      go_wp2_with (first | (with_reducible refine wl_ld rfl _ 62 rfl _ rfl ?_) | (with_reducible refine wl_stAgg rfl _ _ _ rfl _ _ rfl rfl ?_) | (at_mapUpdate; refine wl_mapUpdate rfl _ _ _ _ rfl _ _ _ rfl rfl rfl ?_))
      have hkW4 : Keep No wz (wz.alloc (.cells #[.string ⟨#[]⟩, .int .i64 0, .int .u64 0, .int .u64 0, .int .i64 0, .slice none 0 0, .string ⟨#[]⟩, .slice none 0 0, .slice none 0 0, .slice none 0 0, .slice none 0 0, .slice none 0 0] 62)) := (Keep.refl _ _).alloc _
      have hBW4 : Blk (wz.alloc (.cells #[.string ⟨#[]⟩, .int .i64 0, .int .u64 0, .int .u64 0, .int .i64 0, .slice none 0 0, .string ⟨#[]⟩, .slice none 0 0, .slice none 0 0, .slice none 0 0, .slice none 0 0, .slice none 0 0] 62)) wz.heap.size #[.string ⟨#[]⟩, .int .i64 0, .int .u64 0, .int .u64 0, .int .i64 0, .slice none 0 0, .string ⟨#[]⟩, .slice none 0 0, .slice none 0 0, .slice none 0 0, .slice none 0 0, .slice none 0 0] 62 := Blk.new _ _ _
      have hzW4 : (wz.alloc (.cells #[.string ⟨#[]⟩, .int .i64 0, .int .u64 0, .int .u64 0, .int .i64 0, .slice none 0 0, .string ⟨#[]⟩, .slice none 0 0, .slice none 0 0, .slice none 0 0, .slice none 0 0, .slice none 0 0] 62)).heap.size = wz.heap.size + 1 := World.size_alloc _ _
      generalize wz.alloc (.cells #[.string ⟨#[]⟩, .int .i64 0, .int .u64 0, .int .u64 0, .int .i64 0, .slice none 0 0, .string ⟨#[]⟩, .slice none 0 0, .slice none 0 0, .slice none 0 0, .slice none 0 0, .slice none 0 0] 62) = W4 at *
      have hB4 := hB.keep hkW4 fun h => h
      have hM4 := hM.keep hkW4 fun h => h
      have hk4 := hk.trans' hkW4
      have hLm := hM.lt
      have hLx := hB.lt
      refine rg_stAgg hBW4 (by kernel_rfl) (by rfl) hone ?_
      intro w5 hI5 hk5 hz5
      have hB5 := hB4.keep hk5 fun e => by have e2 : w.heap.size + 1 = wz.heap.size := e; omega
      have hM5 := hM4.keep hk5 fun e => by have e2 : w.heap.size = wz.heap.size := e; omega
      have hkw5 : Keep No w w5 := hk4.trans hk5 fun j hj e => by have e2 : j = wz.heap.size := e; omega
      clear hB4 hM4 hk4 hBW4 hkW4 hzW4 hk5 hB hM hk hz5 hc
      have hL5 := hI5.lt
      have c0 := hI5.cell 0
      have c7 := hI5.cell 7
      rw [show (encU p).toArray[0]? = some (.string ⟨p.nm.toArray⟩) from rfl] at c0
      rw [show (encU p).toArray[7]? = some p.vn from rfl] at c7
      have cq := hB5.cell 0
      clear hI5
      go_wp2_with (first | (with_reducible refine wl_ld rfl _ 62 rfl _ rfl ?_) | (with_reducible refine wl_stAgg rfl _ _ _ rfl _ _ rfl rfl ?_) | (at_mapUpdate; refine wl_mapUpdate rfl _ _ _ _ rfl _ _ _ rfl rfl rfl ?_))
      refine rg_store hM5 kStrC Tryz.underlying108 (by unfold NU; rw [List.length_map, List.length_reverse, List.length_take]; unfold maxLen; have := HLN.out; omega) (kOfC hnlp) ?_
      intro w6 hM6 hk6 hz6
      rw [HFR.out] at hM6
      have hB6 := hB5.keep hk6 fun e => by have e2 : w.heap.size + 1 = w.heap.size := e; omega
      have hkw6 : Keep No w w6 := hkw5.trans hk6 fun j hj e => by have e2 : j = w.heap.size := e; omega
      clear hM5 hB5 hkw5 c0 c7 cq hk6 hz6 hone
      go_wp2_with (first | (with_reducible refine wl_ld rfl _ 62 rfl _ rfl ?_) | (with_reducible refine wl_stAgg rfl _ _ _ rfl _ _ rfl rfl ?_) | (at_mapUpdate; refine wl_mapUpdate rfl _ _ _ _ rfl _ _ _ rfl rfl rfl ?_))
      go_roundw
      case rel => exact ⟨i + 1, by go_num, hlt, by rw [HTK.out]; exact hM6, hB6, hkw6⟩
      case measure => simp [intOf]; omega
    · obtain rfl : i = ps.length := Nat.le_antisymm hi hge
      rw [List.take_length] at hM
      have hinv : InvU us ps (stripN us 0 (us.map (·.1))) ps.reverse := by
        refine ⟨fun p hp => List.mem_reverse.1 hp, fun p hp => ?_, fun G hG hs x hx => ?_⟩
        · show p.nm ∈ us.map (·.1)
          rw [← HU.out.names]
          exact List.mem_map.2 ⟨p, List.mem_reverse.1 hp, rfl⟩
        · have := hs x hx
          rw [← HU.out.names] at this
          obtain ⟨p, hp, e⟩ := List.mem_map.1 this
          exact ⟨p, List.mem_reverse.2 hp, e⟩
      have HI := Lib.hid hinv
      clear hinv
      go_wp2_with (first | (at_lookup; refine wl_lookup rfl _ _ _ _ rfl _ _ rfl rfl ?_) | (at_delete; refine wl_delete rfl _ _ _ _ rfl _ _ rfl rfl ?_) | (with_reducible refine wl_len rfl _ _ rfl _ rfl ?_) | (with_reducible refine wl_range rfl _ _ rfl _ rfl ?_) | (with_reducible refine wl_next rfl _ rfl _ rfl ?_))
      go_loopw [6, 7, 8, 25] (fun _ _ _ iv wr => ∃ (i : Nat) (T : List UC), iv = .int .i64 i ∧ i ≤ ps.length ∧ MapL Tryz.prog 9 wr w.heap.size (NU T) ∧ Blk wr (w.heap.size + 1) #[.map (some w.heap.size)] 108 ∧ Keep No w wr ∧ Hid (InvU us ps (stripN us i (us.map (·.1))) T)) (fun _ _ _ iv _ => ps.length - (intOf iv).toNat)
      case atStart => exact ⟨0, _, rfl, Nat.zero_le _, hM, hB, hk, HI⟩
      case round =>
        obtain ⟨i, T, rfl, hi, hM, hB, hk, HI⟩ := hrel
        generalize wr = wz at *
        have cq := hB.cell 0
        rcases Nat.lt_or_ge i ps.length with hlt | hge
        · have hiz : (i : Int) < (ps.length : Int) := by omega
          go_wp2_with (first | (at_lookup; refine wl_lookup rfl _ _ _ _ rfl _ _ rfl rfl ?_) | (at_delete; refine wl_delete rfl _ _ _ _ rfl _ _ rfl rfl ?_) | (with_reducible refine wl_len rfl _ _ rfl _ rfl ?_) | (with_reducible refine wl_range rfl _ _ rfl _ rfl ?_) | (with_reducible refine wl_next rfl _ rfl _ rfl ?_))
          refine rg_range hM kStrC Tryz.underlying108 ?_
          intro w1 hr hk1 hz1
          have hB1 := hB.keep hk1 fun h => h
          have hkw1 := hk.trans' hk1
          have hLb := hB.lt
          have hLm := hM.lt
          have hwz := hk.size
          go_wp2_with (first | (at_lookup; refine wl_lookup rfl _ _ _ _ rfl _ _ rfl rfl ?_) | (at_delete; refine wl_delete rfl _ _ _ _ rfl _ _ rfl rfl ?_) | (with_reducible refine wl_len rfl _ _ rfl _ rfl ?_) | (with_reducible refine wl_range rfl _ _ rfl _ rfl ?_) | (with_reducible refine wl_next rfl _ rfl _ rfl ?_))
          go_loopw [6, 7, 8] (fun _ _ _ wr => ∃ (T D : List UC), RangeL Tryz.prog 9 wr w.heap.size wz.heap.size (NU T) (NU D) ∧ Blk wr (w.heap.size + 1) #[.map (some w.heap.size)] 108 ∧ Keep No w wr ∧ Hid (InvU us ps (stripN us i (us.map (·.1))) T ∧ ∀ p ∈ T, p ∈ D ∨ p.nm ∈ strip us (stripN us i (us.map (·.1))))) (fun _ _ _ wr => wr.rangeLeft w.heap.size wz.heap.size)
          case atStart => exact ⟨T, T, hr, hB1, hkw1, Lib.hid ⟨HI.out, fun p hp => .inl hp⟩⟩
          case round =>
            obtain ⟨T, D, hr, hB, hk, HI⟩ := hrel
            clear hB1 hkw1 hM hk1 hz1
            generalize wr = wy at *
            go_wp2_with (first | (at_lookup; refine wl_lookup rfl _ _ _ _ rfl _ _ rfl rfl ?_) | (at_delete; refine wl_delete rfl _ _ _ _ rfl _ _ rfl rfl ?_) | (with_reducible refine wl_len rfl _ _ rfl _ rfl ?_) | (with_reducible refine wl_range rfl _ _ rfl _ rfl ?_) | (with_reducible refine wl_next rfl _ rfl _ rfl ?_))
            refine rg_next hr kStrC ?_ ?_
            · intro e0
              have e1 : D = [] := by simpa [NU] using e0
              subst e1
              go_wp2_with (first | (at_lookup; refine wl_lookup rfl _ _ _ _ rfl _ _ rfl rfl ?_) | (at_delete; refine wl_delete rfl _ _ _ _ rfl _ _ rfl rfl ?_) | (with_reducible refine wl_len rfl _ _ rfl _ rfl ?_) | (with_reducible refine wl_range rfl _ _ rfl _ rfl ?_) | (with_reducible refine wl_next rfl _ rfl _ rfl ?_))
              go_roundw
              case rel =>
                refine ⟨i + 1, T, by go_num, hlt, hr.map, hB, hk, Lib.hid ⟨HI.out.1.1, fun p hp => ?_, HI.out.1.2.2⟩⟩
                rw [stripN_succ]
                exact (HI.out.2 p hp).resolve_left (fun h => by cases h)
              case measure => simp [intOf]; omega
            · intro key v kl w2 hkey hmem hr2 hlt2 hk2 hs2 hen
              obtain ⟨p, hp, rfl, rfl⟩ := mem_NU (hr.2.1 _ hmem)
              obtain ⟨j, hj, hpj⟩ := List.getElem_of_mem (HI.out.1.1 p hp)
              have hju : j < us.length := by have := HU.out.1; omega
              have hwy := hk.size
              have hkw2 : Keep No w w2 := hk.trans hk2 fun j hj e => by have e2 : j = wz.heap.size := e; omega
              have huo := (HU.out.2 j _ _ (List.getElem?_eq_getElem hj) (List.getElem?_eq_getElem hju)).keep hkw2 fun _ _ _ h => h
              rw [hpj] at huo
              obtain ⟨u, hu⟩ : ∃ u, u = us[j] := ⟨_, rfl⟩
              rw [← hu] at huo
              have humem : u ∈ us := by rw [hu]; exact List.getElem_mem hju
              have hM2 := hr2.map
              have hB2 := hB.keep hk2 fun e => by have e2 : w.heap.size + 1 = wz.heap.size := e; omega
              have hnl := HNL.out u humem
              have hnm := huo.1
              have hnp : p.nm.length ≤ maxLen := by rw [hnm]; unfold maxLen; omega
              have hneed : Fl A w2 1 encS p.vn u.2.need := by
                obtain ⟨_, _, _, _, _, _, e, _, h2, _⟩ := huo.2
                have e2 := congrArg (fun l : List Value => l[6]?) e
                have e3 : some p.vn = some _ := e2
                cases e3
                exact h2
              have hcall := hasStr_any (w := w2) u.2.need 30 #[.pointer (some ⟨w.heap.size + 1, 0, none⟩)] (fun n => (T.map (·.nm)).contains n) hneed (fun a w => by kernel_rfl) (fun s hs wr hkr =>
                by
                  have hc := clround1_any s (by have := HNE.out u humem s hs; unfold maxLen; omega) (hM2.keep hkr fun h => h) ((hB2.keep hkr fun h => h).cell 0)
                  exact hc)
              have hcond : u.2.need.any (fun n => (T.map (·.nm)).contains n) = true → p.nm ∈ strip us (stripN us i (us.map (·.1))) := fun hb => by
                obtain ⟨n, hn, hc⟩ := List.any_eq_true.1 hb
                obtain ⟨q, hq, e⟩ := List.mem_map.1 (List.contains_iff_mem.1 hc)
                exact strip_mem.2 ⟨HI.out.1.2.1 p hp, u, humem, hnm.symm, n, hn, e ▸ HI.out.1.2.1 q hq⟩
              have hdrop : u.2.need.any (fun n => (T.map (·.nm)).contains n) = false → InvU us ps (stripN us i (us.map (·.1))) (dropU T p.nm) := fun hb => by
                rw [hnm]
                exact InvU_drop HI.out.1 HND.out humem hb
              have HC := Lib.hid hcond
              have HD := Lib.hid hdrop
              obtain ⟨an, cn, en, _, _⟩ := hneed.shape
              rw [en] at hcall hen
              clear hcond hdrop hneed hnl hM2 hu humem
              generalize hbb : u.2.need.any (fun n => (T.map (·.nm)).contains n) = bb at *
              clear hbb
              generalize u.2.need.length = nn at *
              have HNP := Lib.hid hnm
              have HP := Lib.hid hp
              have HEN := Lib.hid en
              clear hnm hp hpj en huo hmem
              go_wp2_with (first | (at_lookup; refine wl_lookup rfl _ _ _ _ rfl _ _ rfl rfl ?_) | (at_delete; refine wl_delete rfl _ _ _ _ rfl _ _ rfl rfl ?_) | (with_reducible refine wl_len rfl _ _ rfl _ rfl ?_) | (with_reducible refine wl_range rfl _ _ rfl _ rfl ?_) | (with_reducible refine wl_next rfl _ rfl _ rfl ?_))
              refine hcall.mono ?_
              rintro e w3 ⟨rfl, hk3⟩
              have hB3 := hB2.keep hk3 fun h => h
              have hr3 := hr2.keep hk3 (fun h => h) fun h => h
              have hkw3 := hkw2.trans' hk3
              have hlt3 : w3.rangeLeft w.heap.size wz.heap.size < wy.rangeLeft w.heap.size wz.heap.size := by
                rw [rangeLeft_eq (w := w2) (hk3.block _ hr2.map.lt fun h => h) (hk3.block _ hr2.lt fun h => h)]
                exact hlt2
              rw [eraseL_NU hnp] at hr3
              clear hcall hr2 hB2 hkw2 hk3 hlt2 hs2 hk2
              have cq := hB3.cell 0
              cases bb with
              | true =>
                go_wp2_with (first | (at_lookup; refine wl_lookup rfl _ _ _ _ rfl _ _ rfl rfl ?_) | (at_delete; refine wl_delete rfl _ _ _ _ rfl _ _ rfl rfl ?_) | (with_reducible refine wl_len rfl _ _ rfl _ rfl ?_) | (with_reducible refine wl_range rfl _ _ rfl _ rfl ?_) | (with_reducible refine wl_next rfl _ rfl _ rfl ?_))
                go_roundw
                case rel =>
                  refine ⟨T, dropU D p.nm, hr3, hB3, hkw3, Lib.hid ⟨HI.out.1, fun q hq => ?_⟩⟩
                  rcases HI.out.2 q hq with h | h
                  · by_cases e : q.nm = p.nm
                    · exact .inr (by rw [e]; exact HC.out trivial)
                    · exact .inl (mem_dropU.2 ⟨h, e⟩)
                  · exact .inr h
                case measure => exact hlt3
              | false =>
                go_wp2_with (first | (at_lookup; refine wl_lookup rfl _ _ _ _ rfl _ _ rfl rfl ?_) | (at_delete; refine wl_delete rfl _ _ _ _ rfl _ _ rfl rfl ?_) | (with_reducible refine wl_len rfl _ _ rfl _ rfl ?_) | (with_reducible refine wl_range rfl _ _ rfl _ rfl ?_) | (with_reducible refine wl_next rfl _ rfl _ rfl ?_))
                refine rg_delete_range hr3 kStrC Tryz.underlying108 hkey ?_
                intro w4 hr4 hk4 hs4 hle4
                rw [eraseL_NU hnp, eraseL_NU hnp] at hr4
                have hB4 := hB3.keep hk4 fun e => by have e2 : w.heap.size + 1 = w.heap.size := e; omega
                have hkw4 : Keep No w w4 := hkw3.trans hk4 fun j hj e => by have e2 : j = w.heap.size := e; omega
                clear hr3 hB3 hkw3 hk4 cq
                go_wp2_with (first | (at_lookup; refine wl_lookup rfl _ _ _ _ rfl _ _ rfl rfl ?_) | (at_delete; refine wl_delete rfl _ _ _ _ rfl _ _ rfl rfl ?_) | (with_reducible refine wl_len rfl _ _ rfl _ rfl ?_) | (with_reducible refine wl_range rfl _ _ rfl _ rfl ?_) | (with_reducible refine wl_next rfl _ rfl _ rfl ?_))
                go_roundw
                case rel =>
                  refine ⟨dropU T p.nm, _, hr4, hB4, hkw4, Lib.hid ⟨HD.out trivial, fun q hq => ?_⟩⟩
                  rcases HI.out.2 q (mem_dropU.1 hq).1 with h | h
                  · exact .inl (mem_dropU.2 ⟨mem_dropU.2 ⟨h, (mem_dropU.1 hq).2⟩, (mem_dropU.1 hq).2⟩)
                  · exact .inr h
                case measure => exact Nat.lt_of_le_of_lt hle4 hlt3
        · obtain rfl : i = ps.length := Nat.le_antisymm hi hge
          have hfin : decide (0 < T.length) = res := by
            rw [HR.out]
            have h := HI.out
            rw [HU.out.1] at h
            exact InvU_end h
          have hTl : (NU T).length = T.length := by unfold NU; exact List.length_map _
          have hgt : decide (0 < (NU T).length) = res := by rw [hTl]; exact hfin
          have HG := Lib.hid hgt
          clear hfin hTl hgt
          go_wp2_with (first | (at_lookup; refine wl_lookup rfl _ _ _ _ rfl _ _ rfl rfl ?_) | (at_delete; refine wl_delete rfl _ _ _ _ rfl _ _ rfl rfl ?_) | (with_reducible refine wl_len rfl _ _ rfl _ rfl ?_) | (with_reducible refine wl_range rfl _ _ rfl _ rfl ?_) | (with_reducible refine wl_next rfl _ rfl _ rfl ?_))
          refine rg_len hM Tryz.underlying108 ?_
          generalize hnl : (NU T).length = nl at *
          go_wp2_with (first | (at_lookup; refine wl_lookup rfl _ _ _ _ rfl _ _ rfl rfl ?_) | (at_delete; refine wl_delete rfl _ _ _ _ rfl _ _ rfl rfl ?_) | (with_reducible refine wl_len rfl _ _ rfl _ rfl ?_) | (with_reducible refine wl_range rfl _ _ rfl _ rfl ?_) | (with_reducible refine wl_next rfl _ rfl _ rfl ?_))
          go_ret
          exact ⟨by rw [← HG.out]; rfl, hk⟩
end
end Go.Proofs.YtbnahidopemkiaaGreat
namespace Go.Proofs.YtbnahidopemkiaaGreat
open Go.RowKit Go.Dm Go.Dm.Oc Go.Dm.Ld Go.Maps Go.WideMaps Go.WideElems
def SL (names : List BS) : List (Lit × Value) := names.reverse.map fun n => (.string n, .bool true)
theorem findL_SL {names : List BS} {n : BS} (h : n.length ≤ maxLen) : (findL (SL names) (.string n)).getD (.bool false) = .bool (names.contains n) := by
  unfold findL SL
  cases hf : ((names.reverse.map fun n => ((Lit.string n, Value.bool true) : Lit × Value)).find? fun p => p.1.sameKey (.string n)) with
  | none =>
    have hc : names.contains n = false := by
      rw [Bool.eq_false_iff]
      intro hc
      have hm := List.contains_iff_mem.1 hc
      have := List.find?_eq_none.1 hf (.string n, .bool true) (List.mem_map.2 ⟨n, List.mem_reverse.2 hm, rfl⟩)
      exact this ((sameKey_true (litC h)).2 rfl)
    rw [hc]
    rfl
  | some p =>
    have hm := List.mem_of_find?_eq_some hf
    have hs := List.find?_some hf
    obtain ⟨q, hq, rfl⟩ := List.mem_map.1 hm
    have e := (sameKey_true (litC h)).1 hs
    cases e
    rw [List.contains_iff_mem.2 (List.mem_reverse.1 hq)]
    rfl
theorem SL_push {names : List BS} {n : BS} (h : n.length ≤ maxLen) (hn : n ∉ names) : (.string n, .bool true) :: eraseL (SL names) (.string n) = SL (names ++ [n]) := by
  have e : eraseL (SL names) (.string n) = SL names := by
    unfold eraseL
    refine List.filter_eq_self.2 fun p hp => ?_
    obtain ⟨q, hq, rfl⟩ := List.mem_map.1 hp
    cases hs : Lit.sameKey (.string q) (.string n) with
    | false => rfl
    | true =>
      have e := (sameKey_true (litC h)).1 hs
      cases e
      exact absurd (List.mem_reverse.1 hq) hn
  rw [e]
  unfold SL
  rw [List.reverse_append]
  rfl
theorem ne_own {w : World} {base k b n : Nat} {e kt : TypeId} {v : Value} {xs : List Value} {L : List (Lit × Value)} (hm : MapL Tryz.prog kt w b L) (ho : w.ownsRow base e k v n xs) : v.ownBlock ≠ some b := by
  intro hv
  obtain ⟨es, c, e1⟩ := hm.obj
  rcases ho.2 with ⟨rfl, _⟩ | ⟨g, cap, cur, rfl, _, hb, _⟩
  · cases hv
  · have e2 : some g = some b := hv
    cases e2
    rw [hb] at e1
    cases e1
structure OrdS (w wr : World) (m : Nat) (vn vo : Value) (names S : List BS) (ps : List UC) (out : List (BS × Im)) : Prop where
  nm : FlO wr w.heap.size 9 1 encS vn names
  ou : FlO wr w.heap.size 62 12 encU vo ps
  un : UsOk (fun k => w.heap.size ≤ k ∧ some k ≠ vn.ownBlock ∧ some k ≠ vo.ownBlock ∧ k ≠ m) wr ps out
  sep : ∀ g, vo.ownBlock = some g → vn.ownBlock ≠ some g
  mp : MapL Tryz.prog 9 wr m (SL S)
  mb : w.heap.size ≤ m
  kw : Keep No w wr
section
variable {w wr w2 : World} {m : Nat} {vn vo vn' vo' : Value} {names S S' names' : List BS} {ps : List UC} {out : List (BS × Im)}
theorem OrdS.no (h : OrdS w wr m vn vo names S ps out) (hk : Keep No wr w2) : OrdS w w2 m vn vo names S ps out :=
  ⟨h.nm.no hk, h.ou.no hk, h.un.keep hk fun _ _ _ h => h, h.sep, h.mp.keep hk fun h => h, h.mb, h.kw.trans' hk⟩
theorem OrdS.put (h : OrdS w wr m vn vo names S ps out) (hk : Keep (fun j => j = m) wr w2) (hm : MapL Tryz.prog 9 w2 m (SL S')) : OrdS w w2 m vn vo names S' ps out :=
  ⟨h.nm.same fun g hg => hk.block g (World.ownsRow.lt h.nm g hg).2 fun e => ne_own h.mp h.nm (by rw [hg]; exact congrArg some e),
   h.ou.same fun g hg => hk.block g (World.ownsRow.lt h.ou g hg).2 fun e => ne_own h.mp h.ou (by rw [hg]; exact congrArg some e),
   h.un.keep hk fun _ _ ha e => ha.2.2.2 e, h.sep, hm, h.mb, h.kw.trans hk fun j hj e => absurd h.mb (by have e2 : j = m := e; omega)⟩
theorem OrdS.push (h : OrdS w wr m vn vo names S ps out) (ho : FlO w2 w.heap.size 9 1 encS vn' names') (hk : Keep (fun j => some j = vn.ownBlock) wr w2) (hn : vn'.ownBlock = vn.ownBlock ∨ vn'.ownBlock = some (wr.heap.size + 1)) :
    OrdS w w2 m vn' vo names' S ps out := by
  refine ⟨ho, h.ou.same fun g hg => hk.block g (World.ownsRow.lt h.ou g hg).2 fun e => h.sep g hg e.symm, ?_, fun g hg e => ?_, h.mp.keep hk fun e => ne_own h.mp h.nm e.symm, h.mb, h.kw.own h.nm hk⟩
  · refine UsOk.mono ((h.un.mono (B := fun k => k < wr.heap.size ∧ w.heap.size ≤ k ∧ some k ≠ vn.ownBlock ∧ some k ≠ vo.ownBlock ∧ k ≠ m) fun k h1 h2 => ⟨h1, h2⟩).keep hk fun _ _ ha e => ha.2.2.1 e) fun k _ ha => ?_
    refine ⟨ha.2.1, ?_, ha.2.2.2⟩
    rcases hn with e | e
    · rw [e]; exact ha.2.2.1
    · rw [e]
      intro e2
      cases e2
      have := ha.1
      omega
  · rcases hn with e2 | e2
    · exact h.sep g hg (e2 ▸ e)
    · rw [e2] at e
      cases e
      have := (World.ownsRow.lt h.ou _ hg).2
      omega
theorem OrdS.unit (h : OrdS w wr m vn vo names S ps out) {p : UC} {u : BS × Im} (ho : FlO w2 w.heap.size 62 12 encU vo' (ps ++ [p])) (hk : Keep (fun j => some j = vo.ownBlock) wr w2) (hn : vo'.ownBlock = vo.ownBlock ∨ vo'.ownBlock = some (wr.heap.size + 1))
    (hu : UnOk (fun k => w.heap.size ≤ k ∧ some k ≠ vn.ownBlock ∧ some k ≠ vo.ownBlock ∧ k ≠ m) wr p u) : OrdS w w2 m vn vo' names S (ps ++ [p]) (out ++ [u]) := by
  refine ⟨h.nm.same fun g hg => hk.block g (World.ownsRow.lt h.nm g hg).2 fun e => h.sep g e.symm hg, ho, ?_, fun g hg e => ?_, h.mp.keep hk fun e => ne_own h.mp h.ou e.symm, h.mb, h.kw.own h.ou hk⟩
  · have hu2 : UsOk (fun k => w.heap.size ≤ k ∧ some k ≠ vn.ownBlock ∧ some k ≠ vo.ownBlock ∧ k ≠ m) wr (ps ++ [p]) (out ++ [u]) := by
      refine ⟨by rw [List.length_append, List.length_append, h.un.1]; rfl, fun i q x hq hx => ?_⟩
      rcases Nat.lt_or_ge i ps.length with hi | hi
      · rw [List.getElem?_append_left hi] at hq
        rw [List.getElem?_append_left (by rw [← h.un.1]; exact hi)] at hx
        exact h.un.2 i q x hq hx
      · rw [List.getElem?_append_right hi] at hq
        rw [List.getElem?_append_right (by rw [← h.un.1]; exact hi), ← h.un.1] at hx
        obtain ⟨hl, rfl⟩ := List.getElem?_eq_some_iff.1 hq
        obtain ⟨hl2, rfl⟩ := List.getElem?_eq_some_iff.1 hx
        have e0 : i - ps.length = 0 := by simpa using hl
        simp only [e0, List.getElem_cons_zero]
        exact hu
    refine UsOk.mono ((hu2.mono (B := fun k => k < wr.heap.size ∧ w.heap.size ≤ k ∧ some k ≠ vn.ownBlock ∧ some k ≠ vo.ownBlock ∧ k ≠ m) fun k h1 h2 => ⟨h1, h2⟩).keep hk fun _ _ ha e => ha.2.2.2.1 e) fun k _ ha => ?_
    refine ⟨ha.2.1, ha.2.2.1, ?_, ha.2.2.2.2⟩
    rcases hn with e | e
    · rw [e]; exact ha.2.2.2.1
    · rw [e]
      intro e2
      cases e2
      have := ha.1
      omega
  · rcases hn with e2 | e2
    · exact h.sep g (e2 ▸ hg) e
    · rw [e2] at hg
      cases hg
      have := (World.ownsRow.lt h.nm _ e).2
      omega
end
end Go.Proofs.YtbnahidopemkiaaGreat
namespace Go.Proofs.YtbnahidopemkiaaGreat
open Go.RowKit Go.Dm Go.Dm.Oc Go.Dm.Ld
@[reducible] def FileS : Sh := .pair .str (.pair (.slice .u8) .unit)
section
variable {A B : Nat → Prop} {w : World} {v : Value}
theorem rd_bytes {x : Value} {b : List UInt8} (h : Rd A w (.slice .u8) [x] b) : Bts A w x b := by
  obtain ⟨v2, css, e, h1, h2, h3⟩ := h
  injection e with e
  subst e
  have hf : css.flatten = b.map bv := by
    clear h1
    induction css generalizing b with
    | nil => rw [List.length_nil] at h2; rw [List.length_eq_zero_iff.1 h2.symm]; rfl
    | cons c r ih =>
      cases b with
      | nil => rw [List.length_cons, List.length_nil] at h2; omega
      | cons y q =>
        have h0 : c = [bv y] := h3 0 c y rfl rfl
        rw [List.flatten_cons, h0, ih (by simpa using h2) fun i c y hc hy => h3 (i + 1) c y hc hy]
        rfl
  rw [hf] at h1
  exact h1
theorem rd_file {c : List Value} {y : FileS.Ty} (h : Rd A w FileS c y) : ∃ p : Value × Value, c = encP p ∧ FileOk A w p (y.1, y.2.1) := by
  obtain ⟨y1, y2, y3⟩ := y
  obtain ⟨c1, c2, rfl, ⟨rfl, _⟩, c3, c4, rfl, h2, rfl⟩ := h
  obtain ⟨x, css, rfl, h3⟩ := h2
  exact ⟨(_, x), rfl, rfl, rd_bytes ⟨x, css, rfl, h3⟩⟩
theorem rd_files {xs : List FileS.Ty} (h : Rd A w (.slice FileS) [v] xs) : FiR A w v (xs.map fun y => (y.1, y.2.1)) := by
  obtain ⟨v2, css, e, h1, h2, h3⟩ := h
  injection e with e
  subst e
  have hc : ∀ (i : Nat) (hi : i < css.length) (hx : i < xs.length), ∃ p : Value × Value, css[i] = encP p ∧ FileOk A w p (xs[i].1, xs[i].2.1) := fun i hi hx => rd_file (h3 i _ _ (List.getElem?_eq_getElem hi) (List.getElem?_eq_getElem hx))
  have hps : ∀ (i : Nat) (hi : i < css.length) (hx : i < xs.length), css[i] = encP (css[i].getD 0 undef, css[i].getD 1 undef) ∧ FileOk A w (css[i].getD 0 undef, css[i].getD 1 undef) (xs[i].1, xs[i].2.1) := fun i hi hx => by
    obtain ⟨p, e1, e2⟩ := hc i hi hx
    rw [e1]
    exact ⟨rfl, e2⟩
  have hm : css = (css.map fun c => (c.getD 0 undef, c.getD 1 undef)).map encP := by
    refine List.ext_getElem (by simp) fun i i1 i2 => ?_
    rw [List.getElem_map, List.getElem_map]
    exact (hps i i1 (by omega)).1
  refine ⟨css.map fun c => (c.getD 0 undef, c.getD 1 undef), by rw [List.length_map, List.length_map, h2], ?_, fun i p f hp hf => ?_⟩
  · unfold Fl
    rw [List.length_map, h2, List.flatMap_def, ← hm]
    exact h1
  · obtain ⟨i1, e1⟩ := List.getElem?_eq_some_iff.1 hp
    obtain ⟨i2, e2⟩ := List.getElem?_eq_some_iff.1 hf
    rw [List.length_map] at i1 i2
    rw [List.getElem_map] at e1 e2
    subst e1 e2
    exact (hps i i1 i2).2
end
end Go.Proofs.YtbnahidopemkiaaGreat
