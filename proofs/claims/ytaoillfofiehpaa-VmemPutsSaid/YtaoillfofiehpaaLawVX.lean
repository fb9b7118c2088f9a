/- VmemPuts: the law, walked. VmemPuts: pages that came in, as the walk holds them. No condition. -/
import Derived.Test.YtaoillfofiehpaaLawVU
import Derived.Test.YtaoillfofiehpaaSortU
set_option linter.unusedVariables false
set_option linter.unusedSimpArgs false
namespace Go.Proofs.Ytaoillfofiehpaa
open Go.RowKit Go.Dm Go.Dm.Vm Go.Maps Go.Dm.Oc Go.WideMaps Go.WideElems
section
variable {A : Nat → Prop} {w : World}
theorem run_ldoP {P : Program} {a : Act} {o : Oper} {w' : World} (ty : TypeId) (x : Operand) (ho : o.op = .load ty x) (b off : Nat) (hx : a.eval x = .pointer (some ⟨b, off, none⟩)) {v : Value} (h : (loadVar ty ⟨b, off, none⟩).run P w' = .ok v w') : (execOp a.eval o).run P w' = .ok (.value v) w' := run_ldo ty x ho b off hx h
set_option maxRecDepth 100000 in
set_option maxHeartbeats 8000000 in
theorem vmemputs_any {v : Value} (L : List (PgR × Value)) (hv : Fl A w 6 encR v L) (hB : ∀ x ∈ L, Bts A w x.2 x.1.b) (hA : ∀ k, A k → k < w.heap.size) (hr : ∀ x ∈ L, x.1.addr < 18446744073709551616 ∧ x.1.off < 18446744073709551616 ∧ x.1.file.length ≤ maxLen) (hlen : L.length ≤ maxLen) (hbl : ∀ x ∈ L, x.1.b.length ≤ maxLen) :
    Calls Try.prog 3 #[v] w fun e w' => e = .returned (.bool true) ∧ Keep No w w' := by
  obtain ⟨av, cv, rfl, _, _⟩ := hv.shape
  unfold maxLen at hlen
  have HBt := Lib.hid hB
  clear hB
  go_enter Try.func3, Try.ntmps3
  go_wp2_with fail
  refine (awake13_any _).mono ?_
  rintro e w1 ⟨rfl, hK1⟩
  rcases Nat.lt_or_ge 40 L.length with h40 | h40
  · have i1 : (40 : Int) < (L.length : Int) := by omega
    go_wp2_with fail
    go_ret
    exact ⟨rfl, hK1⟩
  · have i1 : (L.length : Int) ≤ 40 := by omega
    go_wp2_with fail
    go_loopw [4] (fun iv wr => ∃ i : Nat, iv = .int .i64 i ∧ i ≤ L.length ∧ (∀ j (hj : j < L.length), j < i → L[j].1.b.length ≤ 300) ∧ Keep No w wr) (fun iv _ => L.length - (intOf iv).toNat)
    case atStart => exact ⟨0, rfl, Nat.zero_le _, fun j _ hj => absurd hj (Nat.not_lt_zero _), hK1⟩
    case round =>
      clear hK1
      obtain ⟨i, rfl, hi, hsm, hK⟩ := hrel
      rcases Nat.lt_or_ge i L.length with hlt | hge
      · obtain ⟨g, off, cap, e, _, hgl, _, _, hc⟩ := (hv.no hK).at encR_len hlt
        cases e
        have hiz : (i : Int) < (L.length : Int) := by omega
        have c5 := hc 5 _ rfl
        have hbt := HBt.out L[i] (List.getElem_mem hlt)
        have hbm := hbl L[i] (List.getElem_mem hlt)
        unfold maxLen at hbm
        have hsn : L[i].1.b.length ≤ 300 → ∀ j (hj : j < L.length), j < i + 1 → L[j].1.b.length ≤ 300 := fun h j hj hji => by
          rcases Nat.lt_or_ge j i with h2 | h2
          · exact hsm j hj h2
          · obtain rfl : j = i := by omega
            exact h
        have HSN := Lib.hid hsn
        clear hsn hsm hc
        generalize L[i] = x at *
        obtain ⟨r, bsl⟩ := x
        have hbt2 : Bts A w bsl r.b := hbt
        have HSN2 : Hid (r.b.length ≤ 300 → ∀ j (hj : j < L.length), j < i + 1 → L[j].1.b.length ≤ 300) := HSN
        have hbm2 : r.b.length ≤ 2 ^ 63 - 1 := hbm
        have c52 : wr.cell? ⟨g, off + i * 6 + 5, none⟩ = some bsl := c5
        clear hbt HSN hbm c5
        obtain ⟨ab, cb, rfl, _, _⟩ := hbt2.shape
        by_cases h300 : r.b.length ≤ 300
        · have j1 : (r.b.length : Int) ≤ 300 := by omega
          have hs := HSN2.out h300
          have HS := Lib.hid hs
          clear hs HSN2
          go_wp2_with fail
          go_roundw
          case rel => exact ⟨i + 1, by go_num, hlt, HS.out, hK⟩
          case measure => simp [intOf]; omega
        · have j1 : (300 : Int) < (r.b.length : Int) := by omega
          clear h300 HSN2
          go_wp2_with fail
          go_ret
          exact ⟨rfl, hK⟩
      · obtain rfl : i = L.length := Nat.le_antisymm hi hge
        have hb300 : ∀ x ∈ L, x.1.b.length ≤ 300 := fun x hx => by
          obtain ⟨j, hj, rfl⟩ := List.getElem_of_mem hx
          exact hsm j hj hj
        clear hsm
        go_wp2_with fail
        refine (vput_any (w := wr) L (hv.no hK) (fun x hx => (HBt.out x hx).keep hK fun _ _ _ h => h) (fun x hx => ⟨(hr x hx).1, (hr x hx).2.1, (hr x hx).2.2, by have := hb300 x hx; omega⟩) (by omega)).mono ?_
        rintro e w7 ⟨hk7, ⟨hp0, d, mb, f, rfl, hS⟩ | ⟨hp1, rfl⟩⟩
        · have hK7 := hK.trans' hk7
          unfold ptrTo
          go_wp2_with fail
          refine (model13_any L (hv.no hK7) (fun x hx => (HBt.out x hx).keep hK7 fun _ _ _ h => h) (fun k hk => by have := hA k hk; have := hK7.size; omega) (fun k hk => by have := hA k hk; have := hK7.size; omega) (by omega)).mono ?_
          rintro e w8 ⟨v8, rfl, hF8, hk8⟩
          obtain ⟨a8, c8, rfl, _, _⟩ := hF8.fl.shape
          have hll : (L.map (·.1)).length = L.length := List.length_map _
          rw [hll] at hF8
          have hfd : ∀ W : World, (Instr.field 34 (.agg #[.slice a8 L.length c8]) 0).run Try.prog W = .ok (.slice a8 L.length c8) W := fun _ => by kernel_rfl
          rw [hll]
          have hRP := rvput_any (w := w8) (L.map (·.1)) hF8.fl (fun x hx => by obtain ⟨y, hy, rfl⟩ := List.mem_map.1 hx; have h1 := hr y hy; have h2 := hb300 y hy; exact ⟨h1.1, by omega⟩) (by rw [List.length_map]; omega)
          have hK8 := hK7.trans' hk8
          clear hll
          rw [hp0, if_pos rfl] at hRP
          have hAS : ∀ k, (wr.heap.size ≤ k ∧ k < w7.heap.size) → k < w8.heap.size := fun k hk => Nat.lt_of_lt_of_le hk.2 hk8.size
          have hS8 := hS.no (fun k hk => hk.2) hk8
          have HRP := Lib.hid hRP
          clear hRP hS hk7
          go_wp2_with fail
          refine HRP.out.mono ?_
          rintro e w9 ⟨rfl, hk9⟩
          have hK9 := hK8.trans' hk9
          have hS9 := hS8.no hAS hk9
          have hF9 := hF8.fl.no hk9
          clear HRP hS8
          go_wp2_with (with_reducible refine wl_stAgg rfl _ _ _ rfl _ _ rfl rfl ?_)
          refine rg_stAgg (Blk.new w9 _ _) (by kernel_rfl) (by rfl) (by simp [Value.oneCell']) ?_
          intro wb hBb hkb hsb
          have hKb9 : Keep No w9 wb := ((Keep.refl No w9).alloc _).trans hkb fun j hj e => absurd hj (by have e2 : j = w9.heap.size := e; omega)
          generalize w9.heap.size = bk at *
          have hSb := hS9.no (fun k hk => by have := hk.2; have := hk8.size; have := hk9.size; omega) hKb9
          have hkd := (Keep.refl No wb).drew
          have hAb : ∀ k, (wr.heap.size ≤ k ∧ k < w7.heap.size) → k < wb.heap.size := fun k hk => by have := hk.2; have := hk8.size; have := hk9.size; have := hKb9.size; omega
          have hAd : ∀ k, (wr.heap.size ≤ k ∧ k < w7.heap.size) → k < wb.drew.heap.size := fun k hk => Nat.lt_of_lt_of_le (hAb k hk) hkd.size
          have hSd := hSb.no hAb hkd
          have hBd := hBb.keep hkd fun h => h
          have hFd := (hF9.no hKb9).no hkd
          have hKd := (hK9.trans' hKb9).trans' hkd
          have hok := hSd.ok
          have hpg := vpages_all hSd hAd
          unfold ptrTo at hpg
          have HPG := Lib.hid hpg
          have hraw := put_raw (L.map (·.1)) none hp0
          have HRAW := Lib.hid hraw
          have hml : ((L.map (·.1)).map toPg).length ≤ 40 := by rw [List.length_map, List.length_map]; exact h40
          have HML := Lib.hid hml
          generalize hM : (L.map (·.1)).map toPg = M at *
          have HP0 := Lib.hid hp0
          clear hpg hS9 hSb hSd hkb hsb hraw hml hp0
          go_wp2_with fail
          refine wp_region_sig (fun w' => Blk w' bk #[.slice a8 L.length c8] 34 ∧ True) (fun j => decide (j ≤ 99)) [(0, true), (1, true), (2, true), (3, true), (6, true), (4, false), (5, false), (7, false), (8, true), (9, true)] (by kernel_rfl) (by kernel_rfl) (by intro c a d v w h; cases d <;> exact h) ⟨hBd, trivial⟩ ?_
          apply sig_still (o := ⟨some 50, _, _, _, _, _⟩) rfl rfl
          · intro w' hS
            obtain ⟨q1, q2⟩ := hS
            first | (go_simp; done) | (go_simp; rfl) | rfl
          go_frame
          apply sig_still (o := ⟨some 51, _, _, _, _, _⟩) rfl rfl
          · intro w' hS
            obtain ⟨q1, q2⟩ := hS
            first | (go_simp; done) | (go_simp; rfl) | rfl
          go_frame
          apply sig_still (o := ⟨some 52, _, _, _, _, _⟩) rfl rfl
          · intro w' hS
            obtain ⟨q1, q2⟩ := hS
            first | (go_simp; done) | (go_simp; rfl) | rfl
          go_frame
          apply sig_guard (o := ⟨some 53, _, _, _, _, _⟩) rfl (by rfl)
          · intro w' hS
            obtain ⟨q1, q2⟩ := hS
            first | (go_simp; done) | (go_simp; rfl) | rfl
          go_frame
          apply sig_guard (o := ⟨some 56, _, _, _, _, _⟩) rfl (by rfl)
          · intro w' hS
            exact run_ldo _ _ rfl bk 0 rfl (run_loadVar_row w' bk 34 34 _ _ _ hS.1 Try.underlying34 rfl (by kernel_rfl))
          go_frame
          refine sig_effg (o := ⟨some 54, _, _, _, _, _⟩) rfl (by rfl) (fun K hKe => ?_)
          go_wp2_with fail
          refine HPG.out.mono ?_
          rintro e y1 ⟨vp, gp, rfl, hP, hky1⟩
          have hBy1 := hBd.keep hky1 fun h => h
          obtain ⟨r1, r2, _, r4⟩ := pgs_in hP hok.pg
          rw [HRAW.out] at r4
          have HR1 := Lib.hid r1
          have HR2 := Lib.hid r2
          have HR4 := Lib.hid r4
          clear HPG hP r1 r2 r4
          go_wp2_with fail
          refine ⟨fun _ => ⟨hBy1, trivial⟩, ?_⟩
          refine sig_effg (o := ⟨some 55, _, _, _, _, _⟩) rfl (by rfl) (fun K hKe => ?_)
          go_wp2_with fail
          refine (model13_any _ HR1.out HR2.out (fun j hj => hj.2) (fun j hj => hj.2) (by rw [List.length_map]; have := HML.out; omega)).mono ?_
          rintro e y2 ⟨vm, rfl, hFm, hky2⟩
          rw [HR4.out] at hFm
          have hky12 := hky1.trans' hky2
          have hBy2 := hBd.keep hky12 fun h => h
          have hsa := rvsame_any (w := y2) (L.map (·.1)) hFm.fl (hFd.no hky12) (by rw [List.length_map]; omega)
          clear HR1 HR2
          go_wp2_with fail
          refine ⟨fun _ => ⟨hBy2, trivial⟩, ?_⟩
          refine sig_effg (o := ⟨some 57, _, _, _, _, _⟩) rfl (by rfl) (fun K hKe => ?_)
          go_wp2_with fail
          refine hsa.mono ?_
          rintro e y3 ⟨rfl, hky3⟩
          have hBy3 := hBy2.keep hky3 fun h => h
          have hEnd := (hKd.trans' hky12).trans' hky3
          clear hsa
          go_wp2_with fail
          refine ⟨fun _ => ⟨hBy3, trivial⟩, ?_⟩
          apply sig_still (o := ⟨some 58, _, _, _, _, _⟩) rfl rfl
          · intro w' hS
            obtain ⟨q1, q2⟩ := hS
            first | (go_simp; done) | (go_simp; rfl) | rfl
          go_frame
          apply sig_still (o := ⟨some 2, _, _, _, _, _⟩) rfl rfl
          · intro w' hS
            obtain ⟨q1, q2⟩ := hS
            first | (go_simp; done) | (go_simp; rfl) | rfl
          go_frame
          refine sig_nil ?_
          go_wp2_with fail
          go_ret
          exact ⟨rfl, hEnd⟩
        · have hK7 := hK.trans' hk7
          go_wp2_with fail
          refine (model13_any L (hv.no hK7) (fun x hx => (HBt.out x hx).keep hK7 fun _ _ _ h => h) (fun k hk => by have := hA k hk; have := hK7.size; omega) (fun k hk => by have := hA k hk; have := hK7.size; omega) (by omega)).mono ?_
          rintro e w8 ⟨v8, rfl, hF8, hk8⟩
          obtain ⟨a8, c8, rfl, _, _⟩ := hF8.fl.shape
          have hll : (L.map (·.1)).length = L.length := List.length_map _
          rw [hll] at hF8
          have hfd : ∀ W : World, (Instr.field 34 (.agg #[.slice a8 L.length c8]) 0).run Try.prog W = .ok (.slice a8 L.length c8) W := fun _ => by kernel_rfl
          rw [hll]
          have hRP := rvput_any (w := w8) (L.map (·.1)) hF8.fl (fun x hx => by obtain ⟨y, hy, rfl⟩ := List.mem_map.1 hx; have h1 := hr y hy; have h2 := hb300 y hy; exact ⟨h1.1, by omega⟩) (by rw [List.length_map]; omega)
          have hK8 := hK7.trans' hk8
          clear hll
          rw [hp1, if_neg (by decide)] at hRP
          have HRP := Lib.hid hRP
          clear hRP
          go_wp2_with fail
          refine HRP.out.mono ?_
          rintro e w9 ⟨rfl, hk9⟩
          have hK9 := hK8.trans' hk9
          clear HRP
          go_wp2_with (with_reducible refine wl_stAgg rfl _ _ _ rfl _ _ rfl rfl ?_)
          refine rg_stAgg (Blk.new w9 _ _) (by kernel_rfl) (by rfl) (by simp [Value.oneCell']) ?_
          intro wb hBb hkb hsb
          have hKb9 : Keep No w9 wb := ((Keep.refl No w9).alloc _).trans hkb fun j hj e => absurd hj (by have e2 : j = w9.heap.size := e; omega)
          have hKb := hK9.trans' hKb9
          go_wp2_with fail
          go_quiet (fail)
          go_wp2_with fail
          go_ret
          exact ⟨rfl, hKb.drewN _⟩
end
end Go.Proofs.Ytaoillfofiehpaa
namespace Go.Proofs.Ytaoillfofiehpaa
open Go.Dm Go.Dm.Vm Go.ChangeShapes Go.WideShapes Go.RowKit Go.Maps Go.Dm.Oc
abbrev PgSh : Sh := .pair (.int .u64) (.pair (.int .i64) (.pair .bool (.pair .str (.pair (.int .u64) (.pair (.slice .u8) .unit)))))
theorem pg_nat {a : Int} (h : (Lit.int .u64 a).wf = true) : ∃ n : Nat, a = n ∧ n < 18446744073709551616 := by
  simp [Lit.wf, IntKind.min, IntKind.max, IntKind.signed, IntKind.bits] at h
  exact ⟨a.toNat, by omega, by omega⟩
theorem ones_flat (l : List UInt8) : ∀ css : List (List Value), css.length = l.length → (∀ (i : Nat) (c : List Value) (y : UInt8), css[i]? = some c → l[i]? = some y → c = [bv y]) → css.flatten = l.map bv := by
  induction l with
  | nil => intro css h _; rw [List.eq_nil_of_length_eq_zero h]; rfl
  | cons a r ih =>
    intro css h hc
    cases css with
    | nil => cases h
    | cons c t =>
      rw [List.flatten_cons, List.map_cons, ih t (by simpa using h) fun i c' y h1 h2 => hc (i + 1) c' y (by simpa using h1) (by simpa using h2), hc 0 c a rfl rfl]
      rfl
theorem page_one {A : Nat → Prop} {W : World} {c : List Value} {y : PgSh.Ty} (h : Rd A W PgSh c y) :
    ∃ x : PgR × Value, c = encR x ∧ Bts A W x.2 x.1.b ∧ (x.1.addr < 18446744073709551616 ∧ x.1.off < 18446744073709551616 ∧ x.1.file.length ≤ maxLen) ∧ x.1.b.length ≤ maxLen := by
  obtain ⟨y1, y2, y3, y4, y5, y6, y7⟩ := y
  obtain ⟨c1, d1, rfl, h1, c2, d2, rfl, h2, c3, d3, rfl, h3, c4, d4, rfl, h4, c5, d5, rfl, h5, c6, d6, rfl, h6, h7⟩ := h
  obtain ⟨rfl, w1⟩ := h1
  obtain ⟨rfl, w2⟩ := h2
  have h3 : c3 = [Value.bool y3] := h3
  obtain ⟨rfl, w4⟩ := h4
  obtain ⟨rfl, w5⟩ := h5
  obtain ⟨v, css, rfl, hs, hl, he⟩ := h6
  have h7 : d6 = [] := h7
  subst h3 h7
  obtain ⟨n1, e1, b1⟩ := pg_nat w1
  obtain ⟨n5, e5, b5⟩ := pg_nat w5
  have hs2 : Sl A W 1 v y6.length (y6.map bv) := by
    have := ones_flat y6 css hl he
    rw [← this]; exact hs
  refine ⟨(⟨n1, y2, y3, y4, n5, y6⟩, v), ?_, hs2, ⟨b1, b5, w4⟩, ?_⟩
  · have e1 : y1 = (n1 : Int) := e1
    have e5 : y5 = (n5 : Int) := e5
    subst e1 e5
    rfl
  · obtain ⟨_, _, _, h1, h2⟩ := hs2.shape
    exact Nat.le_trans h1 h2
theorem enc_list {α β : Type} (enc : α → List Value) (Q : α → Prop) (ys : List β) : ∀ css : List (List Value), css.length = ys.length → (∀ (i : Nat) (c : List Value) (y : β), css[i]? = some c → ys[i]? = some y → ∃ x, c = enc x ∧ Q x) → ∃ L : List α, css = L.map enc ∧ L.length = ys.length ∧ ∀ x ∈ L, Q x := by
  induction ys with
  | nil => intro css h _; exact ⟨[], List.eq_nil_of_length_eq_zero h, rfl, fun x hx => by cases hx⟩
  | cons a r ih =>
    intro css h hc
    cases css with
    | nil => cases h
    | cons c t =>
      obtain ⟨x, e, q⟩ := hc 0 c a rfl rfl
      obtain ⟨L, e2, l2, q2⟩ := ih t (by simpa using h) fun i c' y h1 h2 => hc (i + 1) c' y (by simpa using h1) (by simpa using h2)
      refine ⟨x :: L, by rw [e, e2]; rfl, by simp [l2], fun z hz => ?_⟩
      rcases List.mem_cons.1 hz with rfl | hz
      · exact q
      · exact q2 z hz
theorem pages_list {A : Nat → Prop} {W : World} {v : Value} {y : List PgSh.Ty} (h : Rd A W (.slice PgSh) [v] y) :
    ∃ L : List (PgR × Value), Fl A W 6 encR v L ∧ (∀ x ∈ L, Bts A W x.2 x.1.b ∧ (x.1.addr < 18446744073709551616 ∧ x.1.off < 18446744073709551616 ∧ x.1.file.length ≤ maxLen) ∧ x.1.b.length ≤ maxLen) ∧ L.length ≤ maxLen := by
  obtain ⟨v', css, e, hs, h1, h3⟩ := h
  cases e
  obtain ⟨L, e2, l2, q⟩ := enc_list encR _ y css h1 fun i c z hc hz => page_one (h3 i c z hc hz)
  have hn : Sl A W 6 v L.length (L.flatMap encR) := by
    rw [l2, List.flatMap_def, ← e2]; exact hs
  refine ⟨L, hn, q, ?_⟩
  obtain ⟨_, _, _, h1, h2⟩ := hn.shape
  exact Nat.le_trans h1 h2
theorem vmemputs_arg {W : World} {v : Value} {y : List PgSh.Ty} (h : Rd (fun k => k < W.heap.size) W (.slice PgSh) [v] y) : Calls Try.prog 3 #[v] W fun e w' => e = .returned (.bool true) ∧ Keep No W w' := by
  obtain ⟨L, h1, h2, h3⟩ := pages_list h
  exact vmemputs_any L h1 (fun x hx => (h2 x hx).1) (fun k hk => hk) (fun x hx => (h2 x hx).2.1) h3 fun x hx => (h2 x hx).2.2
end Go.Proofs.Ytaoillfofiehpaa
