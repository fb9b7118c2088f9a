/- The document's Store, Load, Fetch against the model's: plain lists. The document's Load, Fetch, Store (chapter 13). No condition. -/
import Derived.Test.YtaoillfofiehpaaSigT
import Derived.Test.YtaoillfofiehpaaRv7
namespace Go.Dm.Vm
open Go Go.Proofs.Ytaoillfofiehpaa Go.Dm.Oc
theorem writeD_snoc (d : Bool) (m : V) (a : Nat) (b : List UInt8) (c : UInt8) : writeD d m a (b ++ [c]) = putD d (writeD d m a b) (a + b.length) c := by
  rw [writeD_append]
  rfl
theorem writeB_mark (m : V) (a n : Nat) (b : List UInt8) (hb : b.length = n) : writeD true m a b = (writeB m a b).map fun p => if ∃ i, i < n ∧ p.addr = pageOf (a + i) then dirt p else p := by
  induction n generalizing b with
  | zero =>
    obtain rfl := List.eq_nil_of_length_eq_zero hb
    show m = m.map _
    conv => lhs; rw [← List.map_id m]
    apply List.map_congr_left
    intro p _
    rw [if_neg (fun ⟨j, hj, _⟩ => absurd hj (Nat.not_lt_zero _))]
    rfl
  | succ n ih =>
    obtain ⟨r, c, rfl⟩ : ∃ r c, b = r ++ [c] := ⟨b.dropLast, b.getLast (by intro e; subst e; simp at hb), (List.dropLast_concat_getLast _).symm⟩
    rw [List.length_append, List.length_singleton] at hb
    obtain rfl : r.length = n := by omega
    rw [writeD_snoc, writeB_snoc, ih r rfl, setB_upd]
    unfold putD upd
    rw [List.map_map, List.map_map]
    apply List.map_congr_left
    intro p _
    simp only [Function.comp]
    by_cases h1 : ∃ i, i < r.length ∧ p.addr = pageOf (a + i)
    · obtain ⟨i, hi, e⟩ := h1
      rw [if_pos (⟨i, hi, e⟩ : ∃ i, i < r.length ∧ p.addr = pageOf (a + i))]
      by_cases h2 : p.addr = pageOf (a + r.length)
      · have h3 : (dirt p).addr = pageOf (a + r.length) := h2
        rw [if_pos h3, if_pos h2, if_pos ⟨i, by omega, e⟩]
        rfl
      · have h3 : ¬ (dirt p).addr = pageOf (a + r.length) := h2
        rw [if_neg h3, if_neg h2, if_pos ⟨i, by omega, e⟩]
    · rw [if_neg h1]
      by_cases h2 : p.addr = pageOf (a + r.length)
      · rw [if_pos h2, if_pos h2, if_pos ⟨r.length, by omega, h2⟩]
        simp [dirt]
      · rw [if_neg h2, if_neg h2, if_neg]
        rintro ⟨i, hi, e⟩
        rcases Nat.lt_or_ge i r.length with h | h
        · exact h1 ⟨i, h, e⟩
        · obtain rfl : i = r.length := by omega
          exact h2 e
theorem marks {a n x : Nat} (hn : 0 < n) : (∃ i, i < n ∧ x = pageOf (a + i)) ↔ ∃ j, j < pagesN a n ∧ x = pageOf a + 256 * j := by
  constructor
  · rintro ⟨i, hi, rfl⟩
    refine ⟨(a % 256 + i) / 256, ?_, ?_⟩
    · unfold pagesN; omega
    · unfold pageOf; omega
  · rintro ⟨j, hj, rfl⟩
    unfold pagesN at hj
    rcases Nat.eq_zero_or_pos j with h | h
    · exact ⟨0, hn, by subst h; simp⟩
    · exact ⟨256 * j - a % 256, by omega, by unfold pageOf; omega⟩
theorem storeD {m : V} {a : Nat} {b : List UInt8} (hb : b ≠ []) : writeD true m a b = updN dirt (writeB m a b) (pageOf a) (pagesN a b.length) := by
  rw [writeB_mark m a b.length b rfl, updN_eq (g := dirt) _ (fun _ => rfl)]
  apply List.map_congr_left
  intro p _
  have := @marks a b.length p.addr (List.length_pos_iff.2 hb)
  by_cases h : ∃ i, i < b.length ∧ p.addr = pageOf (a + i)
  · rw [if_pos h, if_pos (this.1 h)]
  · rw [if_neg h, if_neg (fun x => h (this.2 x))]
def Wd (n : Nat) : Prop := n = 1 ∨ n = 2 ∨ n = 4 ∨ n = 8
theorem Wd.pos {n : Nat} (h : Wd n) : 0 < n := by unfold Wd at h; omega
theorem Wd.le {n : Nat} (h : Wd n) : n ≤ 8 := by unfold Wd at h; omega
theorem num_wd {m : V} {addr n what : Nat} (h : Wd n) : numE m addr n what = if heldE m addr n = 0 then allowedE m addr n what else heldE m addr n := by
  unfold numE
  rw [if_pos (by unfold Wd at h; omega)]
  rfl
theorem num_held {m : V} {addr n what : Nat} (h : Wd n) (hz : numE m addr n what = 0) : heldE m addr n = 0 := by
  rw [num_wd h] at hz
  by_cases e : heldE m addr n = 0
  · exact e
  · rw [if_neg e] at hz; exact absurd hz e
theorem storeV_peek {m : V} {addr n x : Nat} (h : Wd n) (hz : numE m addr n 2 = 0) : peekE m addr (le n x).length = 0 ∧ writeD true m addr (le n x) = storeV m addr n x := by
  have hh := num_held h hz
  refine ⟨?_, ?_⟩
  · rw [le_len]
    unfold peekE
    rw [if_neg (by have := h.pos; omega)]
    exact hh
  · have hp := h.pos
    have hne : le n x ≠ [] := by
      intro e
      have h1 := le_len n x
      rw [e] at h1
      simp only [List.length_nil] at h1
      omega
    rw [storeD hne, le_len]
    unfold storeV
    rw [if_pos hz]
    rfl
theorem le_take (n x i : Nat) (hi : i < n) : le n x = le n x := rfl
end Go.Dm.Vm
namespace Go.Dm.Vm
open Go Go.Proofs.Ytaoillfofiehpaa Go.Dm.Oc
theorem le_step (k x : Nat) : le (k + 1) x = le k x ++ [UInt8.ofNat (x / 256 ^ k % 256)] := by
  induction k generalizing x with
  | zero => show [UInt8.ofNat (x % 256)] = _; simp [le]
  | succ k ih =>
    show UInt8.ofNat (x % 256) :: le (k + 1) (x / 256) = UInt8.ofNat (x % 256) :: le k (x / 256) ++ _
    rw [ih (x / 256), Nat.div_div_eq_div_mul, List.cons_append, Nat.pow_succ, Nat.mul_comm 256]
end Go.Dm.Vm
namespace Go.Proofs.Ytaoillfofiehpaa
open Go.RowKit Go.Dm Go.Dm.Vm Go.Maps Go.Dm.Oc

section
variable {A : Nat → Prop} {w : World} {v : Value} {m : V}
theorem rvfits_any (addr n what : Nat) (ha : addr < 18446744073709551616) (hn : Wd n) (hw : what = 1 ∨ what = 2 ∨ what = 4) (h : Fl A w 6 encS v m) (hok : Ok m) :
    Calls Try.prog 41 #[.agg #[v], .int .u64 (addr : Int), .int .i64 (n : Int), .int .i64 (what : Int)] w fun e w' => e = .returned (.int .i64 (numE m addr n what : Nat)) ∧ Keep No w w' := by
  rcases hn with rfl | rfl | rfl | rfl
  · exact rvfits1_any addr what ha hw h hok
  · exact rvfits2_any addr what ha hw h hok
  · exact rvfits4_any addr what ha hw h hok
  · exact rvfits8_any addr what ha hw h hok
set_option maxRecDepth 100000 in
set_option maxHeartbeats 8000000 in
theorem rvload_any (addr n : Nat) (ha : addr < 18446744073709551616) (hn : Wd n) (h : Fl A w 6 encS v m) (hok : Ok m) :
    Calls Try.prog 20 #[.agg #[v], .int .u64 (addr : Int), .int .i64 (n : Int)] w fun e w' => e = .returned (.tuple #[.int .u64 (loadX m addr n : Nat), .int .i64 (loadE m addr n : Nat)]) ∧ Keep No w w' := by
  obtain ⟨av, cv, rfl, _, _⟩ := h.shape
  have hE : loadE m addr n = numE m addr n 4 := rfl
  have hX : loadX m addr n = if numE m addr n 4 = 0 then leN (readB m addr n) else 0 := rfl
  have hh := @num_held m addr n 4 hn
  have hft := fun (W : World) (hk : Keep No w W) => rvfits_any (w := W) addr n 4 ha hn (by omega) (h.no hk) hok
  have hnb := fun (W : World) (hk : Keep No w W) (h0 : numE m addr n 4 = 0) => rvnumber_any (w := W) addr n ha hn.pos hn.le (hh h0) (h.no hk) hok
  generalize loadX m addr n = X at *
  generalize loadE m addr n = E at *
  generalize numE m addr n 4 = E2 at *
  subst hE
  generalize leN (readB m addr n) = Y at *
  have HX := Lib.hid hX
  have HF := Lib.hid hft
  have HN := Lib.hid hnb
  have hn8 := hn.le
  have hn8z : (n : Int) ≤ 8 := by omega
  clear hX hft hnb hh hok hn hn8 h
  go_enter Try.func20, Try.ntmps20
  go_wp2_with (first | (at_builtin; refine wl_append rfl _ _ _ _ rfl _ _ rfl rfl ?_) | (at_make; refine wl_make rfl _ _ _ rfl _ _ rfl rfl ?_) | (at_mapUpdate; refine wl_mapUpdate rfl _ _ _ _ rfl _ _ _ rfl rfl rfl ?_) | (at_lookup; refine wl_lookup rfl _ _ _ _ rfl _ _ rfl rfl ?_) | (at_delete; refine wl_delete rfl _ _ _ _ rfl _ _ rfl rfl ?_) | (with_reducible refine wl_len rfl _ _ rfl _ rfl ?_) | (with_reducible refine wl_range rfl _ _ rfl _ rfl ?_) | (with_reducible refine wl_next rfl _ rfl _ rfl ?_) | (with_reducible refine wl_copy rfl _ _ _ _ rfl _ _ rfl rfl ?_) | (with_reducible refine wl_max rfl _ _ _ _ rfl _ _ rfl rfl ?_) | (with_reducible refine wl_min rfl _ _ _ _ rfl _ _ rfl rfl ?_))
  have hkW : Keep No w (w.alloc (.cells #[.slice av m.length cv] 34)) := (Keep.refl _ _).alloc _
  have hBW : Blk (w.alloc (.cells #[.slice av m.length cv] 34)) w.heap.size #[.slice av m.length cv] 34 := Blk.new _ _ _
  have hzW : (w.alloc (.cells #[.slice av m.length cv] 34)).heap.size = w.heap.size + 1 := World.size_alloc _ _
  generalize w.alloc (.cells #[.slice av m.length cv] 34) = W at *
  have q3 : W.cell? ⟨w.heap.size, 0, none⟩ = some (.slice av m.length cv) := hBW.cell 0
  have hcall := HF.out W hkW
  go_wp2_with (first | (at_builtin; refine wl_append rfl _ _ _ _ rfl _ _ rfl rfl ?_) | (at_make; refine wl_make rfl _ _ _ rfl _ _ rfl rfl ?_) | (at_mapUpdate; refine wl_mapUpdate rfl _ _ _ _ rfl _ _ _ rfl rfl rfl ?_) | (at_lookup; refine wl_lookup rfl _ _ _ _ rfl _ _ rfl rfl ?_) | (at_delete; refine wl_delete rfl _ _ _ _ rfl _ _ rfl rfl ?_) | (with_reducible refine wl_len rfl _ _ rfl _ rfl ?_) | (with_reducible refine wl_range rfl _ _ rfl _ rfl ?_) | (with_reducible refine wl_next rfl _ rfl _ rfl ?_) | (with_reducible refine wl_copy rfl _ _ _ _ rfl _ _ rfl rfl ?_) | (with_reducible refine wl_max rfl _ _ _ _ rfl _ _ rfl rfl ?_) | (with_reducible refine wl_min rfl _ _ _ _ rfl _ _ rfl rfl ?_))
  refine hcall.mono ?_
  rintro e W2 ⟨rfl, hk2⟩
  have hB2 := hBW.keep hk2 fun h => h
  have hkw2 := hkW.trans' hk2
  have q4 : W2.cell? ⟨w.heap.size, 0, none⟩ = some (.slice av m.length cv) := hB2.cell 0
  clear hcall q3
  by_cases h0 : E = 0
  · have hc2 := HN.out W2 hkw2 h0
    subst h0
    rw [if_pos rfl] at HX
    have hX := HX.out
    subst hX
    go_wp2_with (first | (at_builtin; refine wl_append rfl _ _ _ _ rfl _ _ rfl rfl ?_) | (at_make; refine wl_make rfl _ _ _ rfl _ _ rfl rfl ?_) | (at_mapUpdate; refine wl_mapUpdate rfl _ _ _ _ rfl _ _ _ rfl rfl rfl ?_) | (at_lookup; refine wl_lookup rfl _ _ _ _ rfl _ _ rfl rfl ?_) | (at_delete; refine wl_delete rfl _ _ _ _ rfl _ _ rfl rfl ?_) | (with_reducible refine wl_len rfl _ _ rfl _ rfl ?_) | (with_reducible refine wl_range rfl _ _ rfl _ rfl ?_) | (with_reducible refine wl_next rfl _ rfl _ rfl ?_) | (with_reducible refine wl_copy rfl _ _ _ _ rfl _ _ rfl rfl ?_) | (with_reducible refine wl_max rfl _ _ _ _ rfl _ _ rfl rfl ?_) | (with_reducible refine wl_min rfl _ _ _ _ rfl _ _ rfl rfl ?_))
    refine hc2.mono ?_
    rintro e W3 ⟨rfl, hk3⟩
    go_wp2_with (first | (at_builtin; refine wl_append rfl _ _ _ _ rfl _ _ rfl rfl ?_) | (at_make; refine wl_make rfl _ _ _ rfl _ _ rfl rfl ?_) | (at_mapUpdate; refine wl_mapUpdate rfl _ _ _ _ rfl _ _ _ rfl rfl rfl ?_) | (at_lookup; refine wl_lookup rfl _ _ _ _ rfl _ _ rfl rfl ?_) | (at_delete; refine wl_delete rfl _ _ _ _ rfl _ _ rfl rfl ?_) | (with_reducible refine wl_len rfl _ _ rfl _ rfl ?_) | (with_reducible refine wl_range rfl _ _ rfl _ rfl ?_) | (with_reducible refine wl_next rfl _ rfl _ rfl ?_) | (with_reducible refine wl_copy rfl _ _ _ _ rfl _ _ rfl rfl ?_) | (with_reducible refine wl_max rfl _ _ _ _ rfl _ _ rfl rfl ?_) | (with_reducible refine wl_min rfl _ _ _ _ rfl _ _ rfl rfl ?_))
    go_ret2
    exact ⟨rfl, hkw2.trans' hk3⟩
  · have hne : ((E : Int) == 0) = false := by simpa using h0
    rw [if_neg h0] at HX
    have hX := HX.out
    subst hX
    go_wp2_with (first | (at_builtin; refine wl_append rfl _ _ _ _ rfl _ _ rfl rfl ?_) | (at_make; refine wl_make rfl _ _ _ rfl _ _ rfl rfl ?_) | (at_mapUpdate; refine wl_mapUpdate rfl _ _ _ _ rfl _ _ _ rfl rfl rfl ?_) | (at_lookup; refine wl_lookup rfl _ _ _ _ rfl _ _ rfl rfl ?_) | (at_delete; refine wl_delete rfl _ _ _ _ rfl _ _ rfl rfl ?_) | (with_reducible refine wl_len rfl _ _ rfl _ rfl ?_) | (with_reducible refine wl_range rfl _ _ rfl _ rfl ?_) | (with_reducible refine wl_next rfl _ rfl _ rfl ?_) | (with_reducible refine wl_copy rfl _ _ _ _ rfl _ _ rfl rfl ?_) | (with_reducible refine wl_max rfl _ _ _ _ rfl _ _ rfl rfl ?_) | (with_reducible refine wl_min rfl _ _ _ _ rfl _ _ rfl rfl ?_))
    go_ret2
    exact ⟨rfl, hkw2⟩
set_option maxRecDepth 100000 in
set_option maxHeartbeats 8000000 in
theorem rvfetch_any (addr : Nat) (ha : addr < 18446744073709551616) (h : Fl A w 6 encS v m) (hok : Ok m) :
    Calls Try.prog 22 #[.agg #[v], .int .u64 (addr : Int)] w fun e w' => e = .returned (.tuple #[.int .u64 (fetchX m addr : Nat), .int .i64 (fetchE m addr : Nat)]) ∧ Keep No w w' := by
  obtain ⟨av, cv, rfl, _, _⟩ := h.shape
  have hE : fetchE m addr = if addr % 8 = 0 then numE m addr 8 1 else 1 := rfl
  have hX : fetchX m addr = if fetchE m addr = 0 then leN (readB m addr 8) else 0 := rfl
  have hh : numE m addr 8 1 = 0 → _ := @num_held m addr 8 1 (.inr (.inr (.inr rfl)))
  have hft : ∀ W, Keep No w W → _ := fun (W : World) (hk : Keep No w W) => rvfits8_any (w := W) addr 1 ha (by omega) (h.no hk) hok
  have hnb := fun (W : World) (hk : Keep No w W) (h0 : numE m addr 8 1 = 0) => rvnumber_any (w := W) addr 8 ha (by omega) (by omega) (hh h0) (h.no hk) hok
  have hmod : (addr : Int).tmod 8 = ((addr % 8 : Nat) : Int) := by rw [Int.tmod_eq_emod_of_nonneg (by omega)]; omega
  generalize fetchX m addr = X at *
  generalize fetchE m addr = E at *
  generalize numE m addr 8 1 = E2 at *
  generalize leN (readB m addr 8) = Y at *
  generalize addr % 8 = r8 at *
  have HX := Lib.hid hX
  have HE := Lib.hid hE
  have HF := Lib.hid hft
  have HN := Lib.hid hnb
  clear hX hE hft hnb hh hok h
  by_cases hr : r8 = 0
  · subst hr
    rw [if_pos rfl] at HE
    have hE := HE.out
    subst hE
    go_enter Try.func22, Try.ntmps22
    go_wp2_with (first | (at_builtin; refine wl_append rfl _ _ _ _ rfl _ _ rfl rfl ?_) | (at_make; refine wl_make rfl _ _ _ rfl _ _ rfl rfl ?_) | (at_mapUpdate; refine wl_mapUpdate rfl _ _ _ _ rfl _ _ _ rfl rfl rfl ?_) | (at_lookup; refine wl_lookup rfl _ _ _ _ rfl _ _ rfl rfl ?_) | (at_delete; refine wl_delete rfl _ _ _ _ rfl _ _ rfl rfl ?_) | (with_reducible refine wl_len rfl _ _ rfl _ rfl ?_) | (with_reducible refine wl_range rfl _ _ rfl _ rfl ?_) | (with_reducible refine wl_next rfl _ rfl _ rfl ?_) | (with_reducible refine wl_copy rfl _ _ _ _ rfl _ _ rfl rfl ?_) | (with_reducible refine wl_max rfl _ _ _ _ rfl _ _ rfl rfl ?_) | (with_reducible refine wl_min rfl _ _ _ _ rfl _ _ rfl rfl ?_))
    have hkW : Keep No w (w.alloc (.cells #[.slice av m.length cv] 34)) := (Keep.refl _ _).alloc _
    have hBW : Blk (w.alloc (.cells #[.slice av m.length cv] 34)) w.heap.size #[.slice av m.length cv] 34 := Blk.new _ _ _
    have hzW : (w.alloc (.cells #[.slice av m.length cv] 34)).heap.size = w.heap.size + 1 := World.size_alloc _ _
    generalize w.alloc (.cells #[.slice av m.length cv] 34) = W at *
    have q3 : W.cell? ⟨w.heap.size, 0, none⟩ = some (.slice av m.length cv) := hBW.cell 0
    have hcall := HF.out W hkW
    go_wp2_with (first | (at_builtin; refine wl_append rfl _ _ _ _ rfl _ _ rfl rfl ?_) | (at_make; refine wl_make rfl _ _ _ rfl _ _ rfl rfl ?_) | (at_mapUpdate; refine wl_mapUpdate rfl _ _ _ _ rfl _ _ _ rfl rfl rfl ?_) | (at_lookup; refine wl_lookup rfl _ _ _ _ rfl _ _ rfl rfl ?_) | (at_delete; refine wl_delete rfl _ _ _ _ rfl _ _ rfl rfl ?_) | (with_reducible refine wl_len rfl _ _ rfl _ rfl ?_) | (with_reducible refine wl_range rfl _ _ rfl _ rfl ?_) | (with_reducible refine wl_next rfl _ rfl _ rfl ?_) | (with_reducible refine wl_copy rfl _ _ _ _ rfl _ _ rfl rfl ?_) | (with_reducible refine wl_max rfl _ _ _ _ rfl _ _ rfl rfl ?_) | (with_reducible refine wl_min rfl _ _ _ _ rfl _ _ rfl rfl ?_))
    refine hcall.mono ?_
    rintro e W2 ⟨rfl, hk2⟩
    have hB2 := hBW.keep hk2 fun h => h
    have hkw2 := hkW.trans' hk2
    have q4 : W2.cell? ⟨w.heap.size, 0, none⟩ = some (.slice av m.length cv) := hB2.cell 0
    clear hcall q3
    by_cases h0 : E = 0
    · have hc2 := HN.out W2 hkw2 h0
      subst h0
      rw [if_pos rfl] at HX
      have hX := HX.out
      subst hX
      go_wp2_with (first | (at_builtin; refine wl_append rfl _ _ _ _ rfl _ _ rfl rfl ?_) | (at_make; refine wl_make rfl _ _ _ rfl _ _ rfl rfl ?_) | (at_mapUpdate; refine wl_mapUpdate rfl _ _ _ _ rfl _ _ _ rfl rfl rfl ?_) | (at_lookup; refine wl_lookup rfl _ _ _ _ rfl _ _ rfl rfl ?_) | (at_delete; refine wl_delete rfl _ _ _ _ rfl _ _ rfl rfl ?_) | (with_reducible refine wl_len rfl _ _ rfl _ rfl ?_) | (with_reducible refine wl_range rfl _ _ rfl _ rfl ?_) | (with_reducible refine wl_next rfl _ rfl _ rfl ?_) | (with_reducible refine wl_copy rfl _ _ _ _ rfl _ _ rfl rfl ?_) | (with_reducible refine wl_max rfl _ _ _ _ rfl _ _ rfl rfl ?_) | (with_reducible refine wl_min rfl _ _ _ _ rfl _ _ rfl rfl ?_))
      refine hc2.mono ?_
      rintro e W3 ⟨rfl, hk3⟩
      go_wp2_with (first | (at_builtin; refine wl_append rfl _ _ _ _ rfl _ _ rfl rfl ?_) | (at_make; refine wl_make rfl _ _ _ rfl _ _ rfl rfl ?_) | (at_mapUpdate; refine wl_mapUpdate rfl _ _ _ _ rfl _ _ _ rfl rfl rfl ?_) | (at_lookup; refine wl_lookup rfl _ _ _ _ rfl _ _ rfl rfl ?_) | (at_delete; refine wl_delete rfl _ _ _ _ rfl _ _ rfl rfl ?_) | (with_reducible refine wl_len rfl _ _ rfl _ rfl ?_) | (with_reducible refine wl_range rfl _ _ rfl _ rfl ?_) | (with_reducible refine wl_next rfl _ rfl _ rfl ?_) | (with_reducible refine wl_copy rfl _ _ _ _ rfl _ _ rfl rfl ?_) | (with_reducible refine wl_max rfl _ _ _ _ rfl _ _ rfl rfl ?_) | (with_reducible refine wl_min rfl _ _ _ _ rfl _ _ rfl rfl ?_))
      go_ret2
      exact ⟨rfl, hkw2.trans' hk3⟩
    · have hne : ((E : Int) == 0) = false := by simpa using h0
      rw [if_neg h0] at HX
      have hX := HX.out
      subst hX
      go_wp2_with (first | (at_builtin; refine wl_append rfl _ _ _ _ rfl _ _ rfl rfl ?_) | (at_make; refine wl_make rfl _ _ _ rfl _ _ rfl rfl ?_) | (at_mapUpdate; refine wl_mapUpdate rfl _ _ _ _ rfl _ _ _ rfl rfl rfl ?_) | (at_lookup; refine wl_lookup rfl _ _ _ _ rfl _ _ rfl rfl ?_) | (at_delete; refine wl_delete rfl _ _ _ _ rfl _ _ rfl rfl ?_) | (with_reducible refine wl_len rfl _ _ rfl _ rfl ?_) | (with_reducible refine wl_range rfl _ _ rfl _ rfl ?_) | (with_reducible refine wl_next rfl _ rfl _ rfl ?_) | (with_reducible refine wl_copy rfl _ _ _ _ rfl _ _ rfl rfl ?_) | (with_reducible refine wl_max rfl _ _ _ _ rfl _ _ rfl rfl ?_) | (with_reducible refine wl_min rfl _ _ _ _ rfl _ _ rfl rfl ?_))
      go_ret2
      exact ⟨rfl, hkw2⟩
  · have hne : ((r8 : Int) == 0) = false := by simpa using hr
    rw [if_neg hr] at HE
    have hE := HE.out
    subst hE
    rw [if_neg (by decide)] at HX
    have hX := HX.out
    subst hX
    go_enter Try.func22, Try.ntmps22
    go_wp2_with (first | (at_builtin; refine wl_append rfl _ _ _ _ rfl _ _ rfl rfl ?_) | (at_make; refine wl_make rfl _ _ _ rfl _ _ rfl rfl ?_) | (at_mapUpdate; refine wl_mapUpdate rfl _ _ _ _ rfl _ _ _ rfl rfl rfl ?_) | (at_lookup; refine wl_lookup rfl _ _ _ _ rfl _ _ rfl rfl ?_) | (at_delete; refine wl_delete rfl _ _ _ _ rfl _ _ rfl rfl ?_) | (with_reducible refine wl_len rfl _ _ rfl _ rfl ?_) | (with_reducible refine wl_range rfl _ _ rfl _ rfl ?_) | (with_reducible refine wl_next rfl _ rfl _ rfl ?_) | (with_reducible refine wl_copy rfl _ _ _ _ rfl _ _ rfl rfl ?_) | (with_reducible refine wl_max rfl _ _ _ _ rfl _ _ rfl rfl ?_) | (with_reducible refine wl_min rfl _ _ _ _ rfl _ _ rfl rfl ?_))
    go_ret2
    exact ⟨rfl, (Keep.refl _ _).alloc _⟩
set_option maxRecDepth 100000 in
set_option maxHeartbeats 8000000 in
theorem rvstore_any (addr n x : Nat) (ha : addr < 18446744073709551616) (hx : x < 18446744073709551616) (hn : Wd n) (h : Fl A w 6 encS v m) (hA : ∀ k, A k → k < w.heap.size) (hok : Ok m) :
    Calls Try.prog 18 #[.agg #[v], .int .u64 (addr : Int), .int .i64 (n : Int), .int .u64 (x : Int)] w fun e w' => ∃ v', e = .returned (.tuple #[.agg #[v'], .int .i64 (numE m addr n 2 : Nat)]) ∧ Fl (Plus A w w') w' 6 encS v' (storeV m addr n x) ∧ Keep No w w' := by
  obtain ⟨av, cv, rfl, _, _⟩ := h.shape
  have hft := fun (W : World) (hk : Keep No w W) => rvfits_any (w := W) addr n 2 ha hn (by omega) (h.no hk) hok
  have hpk := fun (hz : numE m addr n 2 = 0) => @storeV_peek m addr n x hn hz
  have hne0 : numE m addr n 2 ≠ 0 → storeV m addr n x = m := fun hz => by unfold storeV; rw [if_neg hz]
  have hll := le_len n x
  have hnp := hn.pos
  have hn8 := hn.le
  have hn8z : (n : Int) ≤ 8 := by omega
  generalize numE m addr n 2 = E at *
  generalize storeV m addr n x = M at *
  have HF := Lib.hid hft
  have HPK := Lib.hid hpk
  have HNE := Lib.hid hne0
  have HOK := Lib.hid hok
  have HLL := Lib.hid hll
  have HL := Lib.hid h
  clear hft hpk hne0 hok hn hll h
  go_enter Try.func18, Try.ntmps18
  go_wp2_with (first | (at_builtin; refine wl_append rfl _ _ _ _ rfl _ _ rfl rfl ?_) | (at_make; refine wl_make rfl _ _ _ rfl _ _ rfl rfl ?_) | (at_mapUpdate; refine wl_mapUpdate rfl _ _ _ _ rfl _ _ _ rfl rfl rfl ?_) | (at_lookup; refine wl_lookup rfl _ _ _ _ rfl _ _ rfl rfl ?_) | (at_delete; refine wl_delete rfl _ _ _ _ rfl _ _ rfl rfl ?_) | (with_reducible refine wl_len rfl _ _ rfl _ rfl ?_) | (with_reducible refine wl_range rfl _ _ rfl _ rfl ?_) | (with_reducible refine wl_next rfl _ rfl _ rfl ?_) | (with_reducible refine wl_copy rfl _ _ _ _ rfl _ _ rfl rfl ?_) | (with_reducible refine wl_max rfl _ _ _ _ rfl _ _ rfl rfl ?_) | (with_reducible refine wl_min rfl _ _ _ _ rfl _ _ rfl rfl ?_))
  have hkW1 : Keep No w (w.alloc (.cells #[.slice av m.length cv] 34)) := (Keep.refl _ _).alloc _
  have hBW1 : Blk (w.alloc (.cells #[.slice av m.length cv] 34)) w.heap.size #[.slice av m.length cv] 34 := Blk.new _ _ _
  have hzW1 : (w.alloc (.cells #[.slice av m.length cv] 34)).heap.size = w.heap.size + 1 := World.size_alloc _ _
  generalize w.alloc (.cells #[.slice av m.length cv] 34) = W1 at *
  have hkW2 : Keep No W1 (W1.alloc (.cells #[.slice none 0 0] 34)) := (Keep.refl _ _).alloc _
  have hBW2 : Blk (W1.alloc (.cells #[.slice none 0 0] 34)) W1.heap.size #[.slice none 0 0] 34 := Blk.new _ _ _
  have hzW2 : (W1.alloc (.cells #[.slice none 0 0] 34)).heap.size = W1.heap.size + 1 := World.size_alloc _ _
  generalize W1.alloc (.cells #[.slice none 0 0] 34) = W2 at *
  rw [hzW1] at hBW2 hzW2
  have b4 := hBW1.keep hkW2 fun h => h
  have b8 := hBW2
  have hkW : Keep No w W2 := hkW1.trans' hkW2
  have hz2 : W2.heap.size = w.heap.size + 2 := by omega
  clear hBW1 hBW2 hkW1 hkW2 hzW1 hzW2
  have q6 : W2.cell? ⟨w.heap.size, 0, none⟩ = some (.slice av m.length cv) := b4.cell 0
  have hcall := HF.out W2 hkW
  go_wp2_with (first | (at_builtin; refine wl_append rfl _ _ _ _ rfl _ _ rfl rfl ?_) | (at_make; refine wl_make rfl _ _ _ rfl _ _ rfl rfl ?_) | (at_mapUpdate; refine wl_mapUpdate rfl _ _ _ _ rfl _ _ _ rfl rfl rfl ?_) | (at_lookup; refine wl_lookup rfl _ _ _ _ rfl _ _ rfl rfl ?_) | (at_delete; refine wl_delete rfl _ _ _ _ rfl _ _ rfl rfl ?_) | (with_reducible refine wl_len rfl _ _ rfl _ rfl ?_) | (with_reducible refine wl_range rfl _ _ rfl _ rfl ?_) | (with_reducible refine wl_next rfl _ rfl _ rfl ?_) | (with_reducible refine wl_copy rfl _ _ _ _ rfl _ _ rfl rfl ?_) | (with_reducible refine wl_max rfl _ _ _ _ rfl _ _ rfl rfl ?_) | (with_reducible refine wl_min rfl _ _ _ _ rfl _ _ rfl rfl ?_))
  refine hcall.mono ?_
  rintro e W3 ⟨rfl, hk3⟩
  have b8a := b8.keep hk3 fun h => h
  have b4a := b4.keep hk3 fun h => h
  have q6a : W3.cell? ⟨w.heap.size, 0, none⟩ = some (.slice av m.length cv) := b4a.cell 0
  have hk03 := hkW.trans' hk3
  have hz3 : w.heap.size + 2 ≤ W3.heap.size := by have := hk3.size; omega
  clear hcall b4 b8 q6 hkW hk3 hz2
  by_cases h0 : E = 0
  · obtain ⟨hp1, hp2⟩ := HPK.out h0
    have HP1 := Lib.hid hp1
    have HP2 := Lib.hid hp2
    subst h0
    clear hp1 hp2
    go_wp2_with (first | (at_builtin; refine wl_append rfl _ _ _ _ rfl _ _ rfl rfl ?_) | (at_make; refine wl_make rfl _ _ _ rfl _ _ rfl rfl ?_) | (at_mapUpdate; refine wl_mapUpdate rfl _ _ _ _ rfl _ _ _ rfl rfl rfl ?_) | (at_lookup; refine wl_lookup rfl _ _ _ _ rfl _ _ rfl rfl ?_) | (at_delete; refine wl_delete rfl _ _ _ _ rfl _ _ rfl rfl ?_) | (with_reducible refine wl_len rfl _ _ rfl _ rfl ?_) | (with_reducible refine wl_range rfl _ _ rfl _ rfl ?_) | (with_reducible refine wl_next rfl _ rfl _ rfl ?_) | (with_reducible refine wl_copy rfl _ _ _ _ rfl _ _ rfl rfl ?_) | (with_reducible refine wl_max rfl _ _ _ _ rfl _ _ rfl rfl ?_) | (with_reducible refine wl_min rfl _ _ _ _ rfl _ _ rfl rfl ?_))
    go_loopw [3, 11, 12] (fun xv lv iv wr => ∃ j : Nat, xv = .int .u64 ((x / 256 ^ j : Nat) : Int) ∧ iv = .int .i64 (j : Int) ∧ j ≤ n ∧ FlO wr W3.heap.size 5 1 encB lv (le j x) ∧ Keep No W3 wr) (fun _ _ iv _ => n - (intOf iv).toNat)
    case atStart => exact ⟨0, by simp, rfl, Nat.zero_le _, FlO.nil, Keep.refl _ _⟩
    case round =>
      obtain ⟨j, rfl, rfl, hj, ho, hk⟩ := hrel
      generalize wr = wz at *
      obtain ⟨al, cl, rfl, _, _⟩ := ho.fl.shape
      have hlen := le_len j x
      rw [hlen] at ho ⊢
      have hxj : x / 256 ^ j < 18446744073709551616 := Nat.lt_of_le_of_lt (Nat.div_le_self _ _) hx
      have hsn := le_step j x
      have hdv : x / 256 ^ (j + 1) = x / 256 ^ j / 256 := by rw [Nat.pow_succ, Nat.div_div_eq_div_mul]
      rcases Nat.lt_or_ge j n with hlt | hge
      · have hltz : (j : Int) < (n : Int) := by omega
        have HSN := Lib.hid hsn
        have HDV := Lib.hid hdv
        have HLEN := Lib.hid hlen
        clear hsn hdv hlen hx
        generalize x / 256 ^ j = X at *
        have hmod : (X : Int).tmod 256 = ((X % 256 : Nat) : Int) := by rw [Int.tmod_eq_emod_of_nonneg (by omega)]; omega
        have hdiv : (X : Int).tdiv 256 = ((X / 256 : Nat) : Int) := by rw [Int.tdiv_eq_ediv_of_nonneg (by omega)]; rfl
        have hby : ((UInt8.ofNat (X % 256)).toNat : Int) = ((X % 256 : Nat) : Int) := by simp
        have hr256 : ((X % 256 : Nat) : Int) ≤ 255 := by omega
        have hq256 : ((X / 256 : Nat) : Int) ≤ 18446744073709551615 := by omega
        have HBY := Lib.hid hby
        clear hby hxj
        generalize X / 256 = X2 at *
        generalize X % 256 = r at *
        go_wp2_with (first | (at_builtin; refine wl_append rfl _ _ _ _ rfl _ _ rfl rfl ?_) | (at_make; refine wl_make rfl _ _ _ rfl _ _ rfl rfl ?_) | (at_mapUpdate; refine wl_mapUpdate rfl _ _ _ _ rfl _ _ _ rfl rfl rfl ?_) | (at_lookup; refine wl_lookup rfl _ _ _ _ rfl _ _ rfl rfl ?_) | (at_delete; refine wl_delete rfl _ _ _ _ rfl _ _ rfl rfl ?_) | (with_reducible refine wl_len rfl _ _ rfl _ rfl ?_) | (with_reducible refine wl_range rfl _ _ rfl _ rfl ?_) | (with_reducible refine wl_next rfl _ rfl _ rfl ?_) | (with_reducible refine wl_copy rfl _ _ _ _ rfl _ _ rfl rfl ?_) | (with_reducible refine wl_max rfl _ _ _ _ rfl _ _ rfl rfl ?_) | (with_reducible refine wl_min rfl _ _ _ _ rfl _ _ rfl rfl ?_))
        have hbv : Value.int .u8 (r : Int) = bv (UInt8.ofNat r) := congrArg (Value.int .u8) HBY.out.symm
        rw [hbv]
        refine rg_push (w := wz) (cs := #[bv (UInt8.ofNat r)]) (enc := encB) (x := UInt8.ofNat r) (l := le j x) (base := W3.heap.size) _ 1 Try.underlying25 o_info rfl (by decide) rfl rfl (by intro u hu; simp only [encB, List.mem_singleton] at hu; subst hu; rfl) ho (by rw [HLEN.out]; omega) (by decide) hk.size ?_
        intro lv2 w4 ho4 hk4 _
        have hk4' : Keep No W3 w4 := hk.own ho hk4
        rw [← HSN.out] at ho4
        obtain ⟨a4, c4, rfl, _, _⟩ := ho4.fl.shape
        clear hbv
        go_wp2_with (first | (at_builtin; refine wl_append rfl _ _ _ _ rfl _ _ rfl rfl ?_) | (at_make; refine wl_make rfl _ _ _ rfl _ _ rfl rfl ?_) | (at_mapUpdate; refine wl_mapUpdate rfl _ _ _ _ rfl _ _ _ rfl rfl rfl ?_) | (at_lookup; refine wl_lookup rfl _ _ _ _ rfl _ _ rfl rfl ?_) | (at_delete; refine wl_delete rfl _ _ _ _ rfl _ _ rfl rfl ?_) | (with_reducible refine wl_len rfl _ _ rfl _ rfl ?_) | (with_reducible refine wl_range rfl _ _ rfl _ rfl ?_) | (with_reducible refine wl_next rfl _ rfl _ rfl ?_) | (with_reducible refine wl_copy rfl _ _ _ _ rfl _ _ rfl rfl ?_) | (with_reducible refine wl_max rfl _ _ _ _ rfl _ _ rfl rfl ?_) | (with_reducible refine wl_min rfl _ _ _ _ rfl _ _ rfl rfl ?_))
        go_roundw
        case rel => exact ⟨j + 1, by rw [HDV.out], by go_num, hlt, ho4, hk4'⟩
        case measure => simp [intOf]; omega
      · obtain rfl : j = n := Nat.le_antisymm hj hge
        have hb := encB_bts ho
        have hk3z := hk03.trans' hk
        have hB8 := b8a.keep hk fun h => h
        have hB4 := b4a.keep hk fun h => h
        have q6z : wz.cell? ⟨w.heap.size, 0, none⟩ = some (.slice av m.length cv) := hB4.cell 0
        have hpo := rvpoke_any (w := wz) true addr (le j x) ha (by rw [hlen]; omega) (HL.out.no hk3z) (fun k hk' => by have := hA k hk'; have := hk3z.size; omega) HOK.out hb (fun k hk' => hk'.2)
        rw [HP1.out, if_pos rfl, HP2.out] at hpo
        clear hb hsn hdv hlen hxj q6a
        go_wp2_with (first | (at_builtin; refine wl_append rfl _ _ _ _ rfl _ _ rfl rfl ?_) | (at_make; refine wl_make rfl _ _ _ rfl _ _ rfl rfl ?_) | (at_mapUpdate; refine wl_mapUpdate rfl _ _ _ _ rfl _ _ _ rfl rfl rfl ?_) | (at_lookup; refine wl_lookup rfl _ _ _ _ rfl _ _ rfl rfl ?_) | (at_delete; refine wl_delete rfl _ _ _ _ rfl _ _ rfl rfl ?_) | (with_reducible refine wl_len rfl _ _ rfl _ rfl ?_) | (with_reducible refine wl_range rfl _ _ rfl _ rfl ?_) | (with_reducible refine wl_next rfl _ rfl _ rfl ?_) | (with_reducible refine wl_copy rfl _ _ _ _ rfl _ _ rfl rfl ?_) | (with_reducible refine wl_max rfl _ _ _ _ rfl _ _ rfl rfl ?_) | (with_reducible refine wl_min rfl _ _ _ _ rfl _ _ rfl rfl ?_))
        refine hpo.mono ?_
        rintro e w5 ⟨v5, rfl, hf5, hk5⟩
        have hone : v5.oneCell' = true := by obtain ⟨_, _, rfl, _, _⟩ := hf5.shape; rfl
        have hB85 := hB8.keep hk5 fun h => h
        have hk35 := hk3z.trans' hk5
        clear hpo
        go_wp2_with (first | (at_builtin; refine wl_append rfl _ _ _ _ rfl _ _ rfl rfl ?_) | (at_make; refine wl_make rfl _ _ _ rfl _ _ rfl rfl ?_) | (at_mapUpdate; refine wl_mapUpdate rfl _ _ _ _ rfl _ _ _ rfl rfl rfl ?_) | (at_lookup; refine wl_lookup rfl _ _ _ _ rfl _ _ rfl rfl ?_) | (at_delete; refine wl_delete rfl _ _ _ _ rfl _ _ rfl rfl ?_) | (with_reducible refine wl_len rfl _ _ rfl _ rfl ?_) | (with_reducible refine wl_range rfl _ _ rfl _ rfl ?_) | (with_reducible refine wl_next rfl _ rfl _ rfl ?_) | (with_reducible refine wl_copy rfl _ _ _ _ rfl _ _ rfl rfl ?_) | (with_reducible refine wl_max rfl _ _ _ _ rfl _ _ rfl rfl ?_) | (with_reducible refine wl_min rfl _ _ _ _ rfl _ _ rfl rfl ?_) | (with_reducible refine wl_stAgg rfl _ _ _ rfl _ _ rfl rfl ?_))
        refine rg_stAgg hB85 (by kernel_rfl) (by rfl) (by simpa using hone) ?_
        intro w7 hBz hkz hsz
        go_wp2_with (first | (at_builtin; refine wl_append rfl _ _ _ _ rfl _ _ rfl rfl ?_) | (at_make; refine wl_make rfl _ _ _ rfl _ _ rfl rfl ?_) | (at_mapUpdate; refine wl_mapUpdate rfl _ _ _ _ rfl _ _ _ rfl rfl rfl ?_) | (at_lookup; refine wl_lookup rfl _ _ _ _ rfl _ _ rfl rfl ?_) | (at_delete; refine wl_delete rfl _ _ _ _ rfl _ _ rfl rfl ?_) | (with_reducible refine wl_len rfl _ _ rfl _ rfl ?_) | (with_reducible refine wl_range rfl _ _ rfl _ rfl ?_) | (with_reducible refine wl_next rfl _ rfl _ rfl ?_) | (with_reducible refine wl_copy rfl _ _ _ _ rfl _ _ rfl rfl ?_) | (with_reducible refine wl_max rfl _ _ _ _ rfl _ _ rfl rfl ?_) | (with_reducible refine wl_min rfl _ _ _ _ rfl _ _ rfl rfl ?_))
        refine ret_blk_tmp rfl rfl hBz Try.underlying34 rfl (by kernel_rfl) rfl ?_
        have hwz := hk.size
        exact ⟨_, rfl, (hf5.keep hkz fun k _ hk' e => by
          have e2 : k = w.heap.size + 1 := e
          rcases hk' with h1 | h1
          · have := hA k h1; omega
          · have := h1.1; omega).mono fun k hkz' hk' => by
            rcases hk' with h1 | h1
            · exact .inl h1
            · exact .inr ⟨by have := h1.1; have := hk3z.size; omega, hkz'⟩, hk35.trans hkz fun k hj e => absurd hj (by have e2 : k = w.heap.size + 1 := e; omega)⟩
  · have hne : ((E : Int) == 0) = false := by simpa using h0
    have hM := HNE.out h0
    subst hM
    clear h0
    go_wp2_with (first | (at_builtin; refine wl_append rfl _ _ _ _ rfl _ _ rfl rfl ?_) | (at_make; refine wl_make rfl _ _ _ rfl _ _ rfl rfl ?_) | (at_mapUpdate; refine wl_mapUpdate rfl _ _ _ _ rfl _ _ _ rfl rfl rfl ?_) | (at_lookup; refine wl_lookup rfl _ _ _ _ rfl _ _ rfl rfl ?_) | (at_delete; refine wl_delete rfl _ _ _ _ rfl _ _ rfl rfl ?_) | (with_reducible refine wl_len rfl _ _ rfl _ rfl ?_) | (with_reducible refine wl_range rfl _ _ rfl _ rfl ?_) | (with_reducible refine wl_next rfl _ rfl _ rfl ?_) | (with_reducible refine wl_copy rfl _ _ _ _ rfl _ _ rfl rfl ?_) | (with_reducible refine wl_max rfl _ _ _ _ rfl _ _ rfl rfl ?_) | (with_reducible refine wl_min rfl _ _ _ _ rfl _ _ rfl rfl ?_) | (with_reducible refine wl_stAgg rfl _ _ _ rfl _ _ rfl rfl ?_))
    refine rg_stAgg b8a (by kernel_rfl) (by rfl) (by simp [Value.oneCell']) ?_
    intro wz hBz hkz hsz
    go_wp2_with (first | (at_builtin; refine wl_append rfl _ _ _ _ rfl _ _ rfl rfl ?_) | (at_make; refine wl_make rfl _ _ _ rfl _ _ rfl rfl ?_) | (at_mapUpdate; refine wl_mapUpdate rfl _ _ _ _ rfl _ _ _ rfl rfl rfl ?_) | (at_lookup; refine wl_lookup rfl _ _ _ _ rfl _ _ rfl rfl ?_) | (at_delete; refine wl_delete rfl _ _ _ _ rfl _ _ rfl rfl ?_) | (with_reducible refine wl_len rfl _ _ rfl _ rfl ?_) | (with_reducible refine wl_range rfl _ _ rfl _ rfl ?_) | (with_reducible refine wl_next rfl _ rfl _ rfl ?_) | (with_reducible refine wl_copy rfl _ _ _ _ rfl _ _ rfl rfl ?_) | (with_reducible refine wl_max rfl _ _ _ _ rfl _ _ rfl rfl ?_) | (with_reducible refine wl_min rfl _ _ _ _ rfl _ _ rfl rfl ?_))
    refine ret_blk_tmp rfl rfl hBz Try.underlying34 rfl (by kernel_rfl) rfl ?_
    exact ⟨_, rfl, ((HL.out.no hk03).keep hkz fun j _ ha e => by have := hA j ha; have e2 : j = w.heap.size + 1 := e; omega).mono fun _ _ ha => .inl ha, hk03.trans hkz fun j hj e => absurd hj (by have e2 : j = w.heap.size + 1 := e; omega)⟩
end
end Go.Proofs.Ytaoillfofiehpaa
