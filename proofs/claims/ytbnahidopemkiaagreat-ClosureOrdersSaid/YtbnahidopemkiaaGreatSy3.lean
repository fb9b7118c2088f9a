/- symbols: Check, Table. No condition. -/
import Derived.Test.YtbnahidopemkiaaGreatSy2
set_option linter.unusedVariables false
set_option linter.unusedSimpArgs false
namespace Go.Proofs.YtbnahidopemkiaaGreat
open Go.RowKit Go.Dm Go.Dm.Oc Go.Dm.Ld
section
variable {A : Nat → Prop} {w : World}
theorem chkS_cons (s : Sy) (r : List Sy) : chkS (s :: r) = if s = sy0 ∧ r.all mayS = true then 0 else 11 := rfl
theorem chkS_ok {l : List Sy} (h0 : ∀ s, l[0]? = some s → s = sy0) (h1 : ∀ j s, 0 < j → l[j]? = some s → mayS s = true) : chkS l = 0 := by
  cases l with
  | nil => rfl
  | cons s r =>
    have e0 := h0 s rfl
    have e1 : r.all mayS = true := by
      rw [List.all_eq_true]
      intro x hx
      obtain ⟨j, hj, rfl⟩ := List.getElem_of_mem hx
      exact h1 (j + 1) r[j] (by omega) (by rw [List.getElem?_cons_succ, List.getElem?_eq_getElem hj])
    rw [chkS_cons, if_pos ⟨e0, e1⟩]
theorem chkS_bad {l : List Sy} (h : (∃ s, l[0]? = some s ∧ s ≠ sy0) ∨ ∃ j s, 0 < j ∧ l[j]? = some s ∧ mayS s = false) : chkS l = 11 := by
  cases l with
  | nil =>
    rcases h with ⟨s, h, _⟩ | ⟨j, s, _, h, _⟩ <;> simp at h
  | cons s r =>
    rw [chkS_cons, if_neg]
    rintro ⟨e0, e1⟩
    rcases h with ⟨x, h, hx⟩ | ⟨j, x, hj, h, hx⟩
    · cases h
      exact hx e0
    · obtain ⟨j, rfl⟩ : ∃ k, j = k + 1 := ⟨j - 1, by omega⟩
      rw [List.getElem?_cons_succ] at h
      have hm := List.mem_of_getElem? h
      rw [List.all_eq_true] at e1
      rw [e1 x hm] at hx
      cases hx
set_option maxRecDepth 100000 in
set_option maxHeartbeats 4000000 in
theorem sycheck_any {v : Value} (l : List Sy) (hl : Fl A w 6 encSy v l) (hok : ∀ s ∈ l, SyOk s) :
    Calls Tryz.prog 89 #[v] w fun e w' => e = .returned (.int .i64 (chkS l : Nat)) ∧ Keep No w w' := by
  have HL := Lib.hid hl
  obtain ⟨ao, co, rfl, hc1, hc2⟩ := hl.shape
  have hlen : l.length ≤ 9223372036854775807 := by unfold maxLen at hc2; omega
  clear hl hc1 hc2
  go_enter Tryz.func89, Tryz.ntmps89
  go_wp2_with fail
  go_loopw [7] (fun iv wr => ∃ i : Nat, iv = .int .i64 i ∧ i ≤ l.length ∧ (0 < i → ∀ s, l[0]? = some s → s = sy0) ∧ (∀ j s, j < i → 0 < j → l[j]? = some s → mayS s = true) ∧ Keep No w wr) (fun iv _ => l.length - (intOf iv).toNat)
  case atStart => exact ⟨0, rfl, Nat.zero_le _, fun h => absurd h (by omega), fun j s hj => absurd hj (Nat.not_lt_zero _), Keep.refl _ _⟩
  case round =>
    obtain ⟨i, rfl, hi, hz, hno, hk⟩ := hrel
    generalize wr = wz at *
    rcases Nat.lt_or_ge i l.length with hlt | hge
    · obtain ⟨g1, off, cap, ev, _, hg1, _, _, hc⟩ := (HL.out.no hk).at encSy_len hlt
      cases ev
      have hiz : (i : Int) < (l.length : Int) := by omega
      have hsok := hok l[i] (List.getElem_mem hlt)
      have hmay := fun w => symay_any (w := w) l[i] hsok
      have c0 := hc 0 _ rfl
      have c1 := hc 1 _ rfl
      have c2 := hc 2 _ rfl
      have c3 := hc 3 _ rfl
      have c4 := hc 4 _ rfl
      have c5 := hc 5 _ rfl
      rw [Nat.add_zero] at c0
      clear hc
      have hli : l[i]? = some l[i] := List.getElem?_eq_getElem hlt
      generalize hsv : l[i] = s at *
      have hcs : (encSy s).toArray = #[.int .u32 (s.nm : Int), .int .u8 (s.inf : Int), .int .u8 (s.oth : Int), .int .u16 (s.sec : Int), .int .u64 (s.val : Int), .int .u64 (s.sz : Int)] := rfl
      rw [hcs] at hmay
      by_cases hi0 : i = 0
      · have hi0i : ((i : Int) == 0) = true := by rw [beq_iff_eq]; omega
        have hnp : ¬ (0 < i) := by omega
        have hl0 : l[0]? = some s := by rw [← hli, hi0]
        have HI := Lib.hid hi0
        clear hi0 hcs hsv hmay hli hno hz
        by_cases hs0 : s = sy0
        · have HZ := Lib.hid hl0
          have HS := Lib.hid hs0
          have HX := Lib.hid hsok
          subst hs0
          clear hl0 hsok
          unfold sy0 at c0 c1 c2 c3 c4 c5
          dsimp only at c0 c1 c2 c3 c4 c5
          go_wp2_with fail
          go_roundw
          case rel => exact ⟨i + 1, rfl, hlt, fun _ s h => by rw [HZ.out] at h; cases h; rfl, fun j s h1 h2 => by have := HI.out; omega, hk.alloc _⟩
          case measure => simp [intOf]; omega
        · have HR : Hid (chkS l = 11) := Lib.hid (chkS_bad (.inl ⟨_, hl0, hs0⟩))
          clear hl0
          obtain ⟨x0, x1, x2, x3, x4, x5⟩ := s
          dsimp only at *
          have hne : ¬ (x0 = 0 ∧ x1 = 0 ∧ x2 = 0 ∧ x3 = 0 ∧ x4 = 0 ∧ x5 = 0) := by
            rintro ⟨rfl, rfl, rfl, rfl, rfl, rfl⟩
            exact hs0 rfl
          clear hs0
          go_wp2_with fail
          all_goals first
            | (exfalso; omega)
            | (go_ret
               rw [HR.out]
               exact ⟨rfl, hk.alloc _⟩)
      · have hi0i : ((i : Int) == 0) = false := by rw [beq_eq_false_iff_ne]; omega
        have hi0p : (0 : Int) < (i : Int) := by omega
        have hi0p2 : 0 < i := by omega
        have hz2 := hz hi0p2
        have HZ := Lib.hid hz2
        have HN := Lib.hid hno
        clear hz hz2 hno hcs hsv hi0
        generalize hm : mayS s = m at *
        generalize s.nm = x0 at *
        generalize s.inf = x1 at *
        generalize s.oth = x2 at *
        generalize s.sec = x3 at *
        generalize s.val = x4 at *
        generalize s.sz = x5 at *
        go_wp2_with fail
        have hkW : Keep No wz (wz.alloc (.cells #[.int .u32 (x0 : Int), .int .u8 (x1 : Int), .int .u8 (x2 : Int), .int .u16 (x3 : Int), .int .u64 (x4 : Int), .int .u64 (x5 : Int)] 46)) := (Keep.refl _ _).alloc _
        have hBW : Blk (wz.alloc (.cells #[.int .u32 (x0 : Int), .int .u8 (x1 : Int), .int .u8 (x2 : Int), .int .u16 (x3 : Int), .int .u64 (x4 : Int), .int .u64 (x5 : Int)] 46)) wz.heap.size #[.int .u32 (x0 : Int), .int .u8 (x1 : Int), .int .u8 (x2 : Int), .int .u16 (x3 : Int), .int .u64 (x4 : Int), .int .u64 (x5 : Int)] 46 := Blk.new _ _ _
        have hzW : (wz.alloc (.cells #[.int .u32 (x0 : Int), .int .u8 (x1 : Int), .int .u8 (x2 : Int), .int .u16 (x3 : Int), .int .u64 (x4 : Int), .int .u64 (x5 : Int)] 46)).heap.size = wz.heap.size + 1 := World.size_alloc _ _
        generalize wz.alloc (.cells #[.int .u32 (x0 : Int), .int .u8 (x1 : Int), .int .u8 (x2 : Int), .int .u16 (x3 : Int), .int .u64 (x4 : Int), .int .u64 (x5 : Int)] 46) = W at *
        refine (hmay W).mono ?_
        rintro e w2 ⟨rfl, hk2⟩
        have hkF := (hk.trans' hkW).trans' hk2
        clear hmay c0 c1 c2 c3 c4 c5
        cases m with
        | true =>
          have HM := Lib.hid hm
          clear hm
          go_wp2_with fail
          go_roundw
          case rel => exact ⟨i + 1, rfl, hlt, fun _ => HZ.out, fun j x h1 h2 h3 => by
            rcases Nat.lt_or_ge j i with h | h
            · exact HN.out j x h h2 h3
            · obtain rfl : j = i := by omega
              rw [hli] at h3
              cases h3
              exact HM.out, hkF⟩
          case measure => simp [intOf]; omega
        | false =>
          have HR : Hid (chkS l = 11) := Lib.hid (chkS_bad (.inr ⟨i, s, hi0p2, hli, hm⟩))
          clear hm
          go_wp2_with fail
          go_ret
          rw [HR.out]
          exact ⟨rfl, hkF⟩
    · obtain rfl : i = l.length := Nat.le_antisymm hi hge
      have HR : Hid (chkS l = 0) := Lib.hid (chkS_ok (fun s h => hz (List.getElem?_eq_some_iff.1 h).1 s h) fun j s h1 h2 => hno j s (List.getElem?_eq_some_iff.1 h2).1 h1 h2)
      clear hz hno
      go_wp2_with fail
      go_ret
      rw [HR.out]
      exact ⟨rfl, hk⟩
end
end Go.Proofs.YtbnahidopemkiaaGreat
