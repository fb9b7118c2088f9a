/- The document's Store, Load, Fetch against the model's: plain lists. The document's Load, Fetch, Store (chapter 13). The document's chapter 14: Step. No condition. -/
import Derived.Test.YtaoillfofiehpaaGreatDoorSigT
import Derived.Test.YtaoillfofiehpaaGreatDoorRv7
import Derived.Test.YtaoillfofiehpaaGreatDoorCpuR2
set_option linter.unusedVariables false
set_option linter.unusedSimpArgs false
namespace Go.Dm.Vm
open Go Go.Proofs.YtaoillfofiehpaaGreatDoor Go.Dm.Oc
theorem writeD_snoc (d : Bool) (m : V) (a : Nat) (b : List UInt8) (c : UInt8) : writeD d m a (b ++ [c]) = putD d (writeD d m a b) (a + b.length) c := by
  rw [writeD_append]
  rfl
theorem writeB_mark (m : V) (a n : Nat) (b : List UInt8) (hb : b.length = n) : writeD true m a b = (writeB m a b).map fun p => if ∃ i, i < n ∧ p.addr = pageOf (a + i) then dirt p else p := by
  induction n generalizing b with
  | zero =>
    obtain rfl := List.eq_nil_of_length_eq_zero hb
    show m = m.map _
    conv => lhs; rw [← List.map_id m]
    apply List.map_congr_left
    intro p _
    rw [if_neg (fun ⟨j, hj, _⟩ => absurd hj (Nat.not_lt_zero _))]
    rfl
  | succ n ih =>
    obtain ⟨r, c, rfl⟩ : ∃ r c, b = r ++ [c] := ⟨b.dropLast, b.getLast (by intro e; subst e; simp at hb), (List.dropLast_concat_getLast _).symm⟩
    rw [List.length_append, List.length_singleton] at hb
    obtain rfl : r.length = n := by omega
    rw [writeD_snoc, writeB_snoc, ih r rfl, setB_upd]
    unfold putD upd
    rw [List.map_map, List.map_map]
    apply List.map_congr_left
    intro p _
    simp only [Function.comp]
    by_cases h1 : ∃ i, i < r.length ∧ p.addr = pageOf (a + i)
    · obtain ⟨i, hi, e⟩ := h1
      rw [if_pos (⟨i, hi, e⟩ : ∃ i, i < r.length ∧ p.addr = pageOf (a + i))]
      by_cases h2 : p.addr = pageOf (a + r.length)
      · have h3 : (dirt p).addr = pageOf (a + r.length) := h2
        rw [if_pos h3, if_pos h2, if_pos ⟨i, by omega, e⟩]
        rfl
      · have h3 : ¬ (dirt p).addr = pageOf (a + r.length) := h2
        rw [if_neg h3, if_neg h2, if_pos ⟨i, by omega, e⟩]
    · rw [if_neg h1]
      by_cases h2 : p.addr = pageOf (a + r.length)
      · rw [if_pos h2, if_pos h2, if_pos ⟨r.length, by omega, h2⟩]
        simp [dirt]
      · rw [if_neg h2, if_neg h2, if_neg]
        rintro ⟨i, hi, e⟩
        rcases Nat.lt_or_ge i r.length with h | h
        · exact h1 ⟨i, h, e⟩
        · obtain rfl : i = r.length := by omega
          exact h2 e
theorem marks {a n x : Nat} (hn : 0 < n) : (∃ i, i < n ∧ x = pageOf (a + i)) ↔ ∃ j, j < pagesN a n ∧ x = pageOf a + 256 * j := by
  constructor
  · rintro ⟨i, hi, rfl⟩
    refine ⟨(a % 256 + i) / 256, ?_, ?_⟩
    · unfold pagesN; omega
    · unfold pageOf; omega
  · rintro ⟨j, hj, rfl⟩
    unfold pagesN at hj
    rcases Nat.eq_zero_or_pos j with h | h
    · exact ⟨0, hn, by subst h; simp⟩
    · exact ⟨256 * j - a % 256, by omega, by unfold pageOf; omega⟩
theorem storeD {m : V} {a : Nat} {b : List UInt8} (hb : b ≠ []) : writeD true m a b = updN dirt (writeB m a b) (pageOf a) (pagesN a b.length) := by
  rw [writeB_mark m a b.length b rfl, updN_eq (g := dirt) _ (fun _ => rfl)]
  apply List.map_congr_left
  intro p _
  have := @marks a b.length p.addr (List.length_pos_iff.2 hb)
  by_cases h : ∃ i, i < b.length ∧ p.addr = pageOf (a + i)
  · rw [if_pos h, if_pos (this.1 h)]
  · rw [if_neg h, if_neg (fun x => h (this.2 x))]
def Wd (n : Nat) : Prop := n = 1 ∨ n = 2 ∨ n = 4 ∨ n = 8
theorem Wd.pos {n : Nat} (h : Wd n) : 0 < n := by unfold Wd at h; omega
theorem Wd.le {n : Nat} (h : Wd n) : n ≤ 8 := by unfold Wd at h; omega
theorem num_wd {m : V} {addr n what : Nat} (h : Wd n) : numE m addr n what = if heldE m addr n = 0 then allowedE m addr n what else heldE m addr n := by
  unfold numE
  rw [if_pos (by unfold Wd at h; omega)]
  rfl
theorem num_held {m : V} {addr n what : Nat} (h : Wd n) (hz : numE m addr n what = 0) : heldE m addr n = 0 := by
  rw [num_wd h] at hz
  by_cases e : heldE m addr n = 0
  · exact e
  · rw [if_neg e] at hz; exact absurd hz e
theorem storeV_peek {m : V} {addr n x : Nat} (h : Wd n) (hz : numE m addr n 2 = 0) : peekE m addr (le n x).length = 0 ∧ writeD true m addr (le n x) = storeV m addr n x := by
  have hh := num_held h hz
  refine ⟨?_, ?_⟩
  · rw [le_len]
    unfold peekE
    rw [if_neg (by have := h.pos; omega)]
    exact hh
  · have hp := h.pos
    have hne : le n x ≠ [] := by
      intro e
      have h1 := le_len n x
      rw [e] at h1
      simp only [List.length_nil] at h1
      omega
    rw [storeD hne, le_len]
    unfold storeV
    rw [if_pos hz]
    rfl
theorem le_take (n x i : Nat) (hi : i < n) : le n x = le n x := rfl
end Go.Dm.Vm
namespace Go.Dm.Vm
open Go Go.Proofs.YtaoillfofiehpaaGreatDoor Go.Dm.Oc
theorem le_step (k x : Nat) : le (k + 1) x = le k x ++ [UInt8.ofNat (x / 256 ^ k % 256)] := by
  induction k generalizing x with
  | zero => show [UInt8.ofNat (x % 256)] = _; simp [le]
  | succ k ih =>
    show UInt8.ofNat (x % 256) :: le (k + 1) (x / 256) = UInt8.ofNat (x % 256) :: le k (x / 256) ++ _
    rw [ih (x / 256), Nat.div_div_eq_div_mul, List.cons_append, Nat.pow_succ, Nat.mul_comm 256]
end Go.Dm.Vm
namespace Go.Proofs.YtaoillfofiehpaaGreatDoor
open Go.RowKit Go.Dm Go.Dm.Vm Go.Maps Go.Dm.Oc

section
variable {A : Nat → Prop} {w : World} {v : Value} {m : V}
theorem rvfits_any (addr n what : Nat) (ha : addr < 18446744073709551616) (hn : Wd n) (hw : what = 1 ∨ what = 2 ∨ what = 4) (h : Fl A w 6 encS v m) (hok : Ok m) :
    Calls Tryz.prog 53 #[.agg #[v], .int .u64 (addr : Int), .int .i64 (n : Int), .int .i64 (what : Int)] w fun e w' => e = .returned (.int .i64 (numE m addr n what : Nat)) ∧ Keep No w w' := by
  rcases hn with rfl | rfl | rfl | rfl
  · exact rvfits1_any addr what ha hw h hok
  · exact rvfits2_any addr what ha hw h hok
  · exact rvfits4_any addr what ha hw h hok
  · exact rvfits8_any addr what ha hw h hok
set_option maxRecDepth 100000 in
set_option maxHeartbeats 8000000 in
theorem rvload_any (addr n : Nat) (ha : addr < 18446744073709551616) (hn : Wd n) (h : Fl A w 6 encS v m) (hok : Ok m) :
    Calls Tryz.prog 38 #[.agg #[v], .int .u64 (addr : Int), .int .i64 (n : Int)] w fun e w' => e = .returned (.tuple #[.int .u64 (loadX m addr n : Nat), .int .i64 (loadE m addr n : Nat)]) ∧ Keep No w w' := by
  obtain ⟨av, cv, rfl, _, _⟩ := h.shape
  have hE : loadE m addr n = numE m addr n 4 := rfl
  have hX : loadX m addr n = if numE m addr n 4 = 0 then leN (readB m addr n) else 0 := rfl
  have hh := @num_held m addr n 4 hn
  have hft := fun (W : World) (hk : Keep No w W) => rvfits_any (w := W) addr n 4 ha hn (by omega) (h.no hk) hok
  have hnb := fun (W : World) (hk : Keep No w W) (h0 : numE m addr n 4 = 0) => rvnumber_any (w := W) addr n ha hn.pos hn.le (hh h0) (h.no hk) hok
  generalize loadX m addr n = X at *
  generalize loadE m addr n = E at *
  generalize numE m addr n 4 = E2 at *
  subst hE
  generalize leN (readB m addr n) = Y at *
  have HX := Lib.hid hX
  have HF := Lib.hid hft
  have HN := Lib.hid hnb
  have hn8 := hn.le
  have hn8z : (n : Int) ≤ 8 := by omega
  clear hX hft hnb hh hok hn hn8 h
  go_enter Tryz.func38, Tryz.ntmps38
  go_wp2_with fail
  have hkW : Keep No w (w.alloc (.cells #[.slice av m.length cv] 52)) := (Keep.refl _ _).alloc _
  have hBW : Blk (w.alloc (.cells #[.slice av m.length cv] 52)) w.heap.size #[.slice av m.length cv] 52 := Blk.new _ _ _
  have hzW : (w.alloc (.cells #[.slice av m.length cv] 52)).heap.size = w.heap.size + 1 := World.size_alloc _ _
  generalize w.alloc (.cells #[.slice av m.length cv] 52) = W at *
  have q3 : W.cell? ⟨w.heap.size, 0, none⟩ = some (.slice av m.length cv) := hBW.cell 0
  have hcall := HF.out W hkW
  go_wp2_with fail
  refine hcall.mono ?_
  rintro e W2 ⟨rfl, hk2⟩
  have hB2 := hBW.keep hk2 fun h => h
  have hkw2 := hkW.trans' hk2
  have q4 : W2.cell? ⟨w.heap.size, 0, none⟩ = some (.slice av m.length cv) := hB2.cell 0
  clear hcall q3
  by_cases h0 : E = 0
  · have hc2 := HN.out W2 hkw2 h0
    subst h0
    rw [if_pos rfl] at HX
    have hX := HX.out
    subst hX
    go_wp2_with fail
    refine hc2.mono ?_
    rintro e W3 ⟨rfl, hk3⟩
    go_wp2_with fail
    go_ret2
    exact ⟨rfl, hkw2.trans' hk3⟩
  · have hne : ((E : Int) == 0) = false := by simpa using h0
    rw [if_neg h0] at HX
    have hX := HX.out
    subst hX
    go_wp2_with fail
    go_ret2
    exact ⟨rfl, hkw2⟩
set_option maxRecDepth 100000 in
set_option maxHeartbeats 8000000 in
theorem rvfetch_any (addr : Nat) (ha : addr < 18446744073709551616) (h : Fl A w 6 encS v m) (hok : Ok m) :
    Calls Tryz.prog 35 #[.agg #[v], .int .u64 (addr : Int)] w fun e w' => e = .returned (.tuple #[.int .u64 (fetchX m addr : Nat), .int .i64 (fetchE m addr : Nat)]) ∧ Keep No w w' := by
  obtain ⟨av, cv, rfl, _, _⟩ := h.shape
  have hE : fetchE m addr = if addr % 8 = 0 then numE m addr 8 1 else 1 := rfl
  have hX : fetchX m addr = if fetchE m addr = 0 then leN (readB m addr 8) else 0 := rfl
  have hh : numE m addr 8 1 = 0 → _ := @num_held m addr 8 1 (.inr (.inr (.inr rfl)))
  have hft : ∀ W, Keep No w W → _ := fun (W : World) (hk : Keep No w W) => rvfits8_any (w := W) addr 1 ha (by omega) (h.no hk) hok
  have hnb := fun (W : World) (hk : Keep No w W) (h0 : numE m addr 8 1 = 0) => rvnumber_any (w := W) addr 8 ha (by omega) (by omega) (hh h0) (h.no hk) hok
  have hmod : (addr : Int).tmod 8 = ((addr % 8 : Nat) : Int) := by rw [Int.tmod_eq_emod_of_nonneg (by omega)]; omega
  generalize fetchX m addr = X at *
  generalize fetchE m addr = E at *
  generalize numE m addr 8 1 = E2 at *
  generalize leN (readB m addr 8) = Y at *
  generalize addr % 8 = r8 at *
  have HX := Lib.hid hX
  have HE := Lib.hid hE
  have HF := Lib.hid hft
  have HN := Lib.hid hnb
  clear hX hE hft hnb hh hok h
  by_cases hr : r8 = 0
  · subst hr
    rw [if_pos rfl] at HE
    have hE := HE.out
    subst hE
    go_enter Tryz.func35, Tryz.ntmps35
    go_wp2_with fail
    have hkW : Keep No w (w.alloc (.cells #[.slice av m.length cv] 52)) := (Keep.refl _ _).alloc _
    have hBW : Blk (w.alloc (.cells #[.slice av m.length cv] 52)) w.heap.size #[.slice av m.length cv] 52 := Blk.new _ _ _
    have hzW : (w.alloc (.cells #[.slice av m.length cv] 52)).heap.size = w.heap.size + 1 := World.size_alloc _ _
    generalize w.alloc (.cells #[.slice av m.length cv] 52) = W at *
    have q3 : W.cell? ⟨w.heap.size, 0, none⟩ = some (.slice av m.length cv) := hBW.cell 0
    have hcall := HF.out W hkW
    go_wp2_with fail
    refine hcall.mono ?_
    rintro e W2 ⟨rfl, hk2⟩
    have hB2 := hBW.keep hk2 fun h => h
    have hkw2 := hkW.trans' hk2
    have q4 : W2.cell? ⟨w.heap.size, 0, none⟩ = some (.slice av m.length cv) := hB2.cell 0
    clear hcall q3
    by_cases h0 : E = 0
    · have hc2 := HN.out W2 hkw2 h0
      subst h0
      rw [if_pos rfl] at HX
      have hX := HX.out
      subst hX
      go_wp2_with fail
      refine hc2.mono ?_
      rintro e W3 ⟨rfl, hk3⟩
      go_wp2_with fail
      go_ret2
      exact ⟨rfl, hkw2.trans' hk3⟩
    · have hne : ((E : Int) == 0) = false := by simpa using h0
      rw [if_neg h0] at HX
      have hX := HX.out
      subst hX
      go_wp2_with fail
      go_ret2
      exact ⟨rfl, hkw2⟩
  · have hne : ((r8 : Int) == 0) = false := by simpa using hr
    rw [if_neg hr] at HE
    have hE := HE.out
    subst hE
    rw [if_neg (by decide)] at HX
    have hX := HX.out
    subst hX
    go_enter Tryz.func35, Tryz.ntmps35
    go_wp2_with fail
    go_ret2
    exact ⟨rfl, (Keep.refl _ _).alloc _⟩
set_option maxRecDepth 100000 in
set_option maxHeartbeats 8000000 in
theorem rvstore_any (addr n x : Nat) (ha : addr < 18446744073709551616) (hx : x < 18446744073709551616) (hn : Wd n) (h : Fl A w 6 encS v m) (hA : ∀ k, A k → k < w.heap.size) (hok : Ok m) :
    Calls Tryz.prog 39 #[.agg #[v], .int .u64 (addr : Int), .int .i64 (n : Int), .int .u64 (x : Int)] w fun e w' => ∃ v', e = .returned (.tuple #[.agg #[v'], .int .i64 (numE m addr n 2 : Nat)]) ∧ Fl (Plus A w w') w' 6 encS v' (storeV m addr n x) ∧ Keep No w w' := by
  obtain ⟨av, cv, rfl, _, _⟩ := h.shape
  have hft := fun (W : World) (hk : Keep No w W) => rvfits_any (w := W) addr n 2 ha hn (by omega) (h.no hk) hok
  have hpk := fun (hz : numE m addr n 2 = 0) => @storeV_peek m addr n x hn hz
  have hne0 : numE m addr n 2 ≠ 0 → storeV m addr n x = m := fun hz => by unfold storeV; rw [if_neg hz]
  have hll := le_len n x
  have hnp := hn.pos
  have hn8 := hn.le
  have hn8z : (n : Int) ≤ 8 := by omega
  generalize numE m addr n 2 = E at *
  generalize storeV m addr n x = M at *
  have HF := Lib.hid hft
  have HPK := Lib.hid hpk
  have HNE := Lib.hid hne0
  have HOK := Lib.hid hok
  have HLL := Lib.hid hll
  have HL := Lib.hid h
  clear hft hpk hne0 hok hn hll h
  go_enter Tryz.func39, Tryz.ntmps39
  go_wp2_with fail
  have hkW1 : Keep No w (w.alloc (.cells #[.slice av m.length cv] 52)) := (Keep.refl _ _).alloc _
  have hBW1 : Blk (w.alloc (.cells #[.slice av m.length cv] 52)) w.heap.size #[.slice av m.length cv] 52 := Blk.new _ _ _
  have hzW1 : (w.alloc (.cells #[.slice av m.length cv] 52)).heap.size = w.heap.size + 1 := World.size_alloc _ _
  generalize w.alloc (.cells #[.slice av m.length cv] 52) = W1 at *
  have hkW2 : Keep No W1 (W1.alloc (.cells #[.slice none 0 0] 52)) := (Keep.refl _ _).alloc _
  have hBW2 : Blk (W1.alloc (.cells #[.slice none 0 0] 52)) W1.heap.size #[.slice none 0 0] 52 := Blk.new _ _ _
  have hzW2 : (W1.alloc (.cells #[.slice none 0 0] 52)).heap.size = W1.heap.size + 1 := World.size_alloc _ _
  generalize W1.alloc (.cells #[.slice none 0 0] 52) = W2 at *
  rw [hzW1] at hBW2 hzW2
  have b4 := hBW1.keep hkW2 fun h => h
  have b8 := hBW2
  have hkW : Keep No w W2 := hkW1.trans' hkW2
  have hz2 : W2.heap.size = w.heap.size + 2 := by omega
  clear hBW1 hBW2 hkW1 hkW2 hzW1 hzW2
  have q6 : W2.cell? ⟨w.heap.size, 0, none⟩ = some (.slice av m.length cv) := b4.cell 0
  have hcall := HF.out W2 hkW
  go_wp2_with fail
  refine hcall.mono ?_
  rintro e W3 ⟨rfl, hk3⟩
  have b8a := b8.keep hk3 fun h => h
  have b4a := b4.keep hk3 fun h => h
  have q6a : W3.cell? ⟨w.heap.size, 0, none⟩ = some (.slice av m.length cv) := b4a.cell 0
  have hk03 := hkW.trans' hk3
  have hz3 : w.heap.size + 2 ≤ W3.heap.size := by have := hk3.size; omega
  clear hcall b4 b8 q6 hkW hk3 hz2
  by_cases h0 : E = 0
  · obtain ⟨hp1, hp2⟩ := HPK.out h0
    have HP1 := Lib.hid hp1
    have HP2 := Lib.hid hp2
    subst h0
    clear hp1 hp2
    go_wp2_with fail
    go_loopw [3, 11, 12] (fun xv lv iv wr => ∃ j : Nat, xv = .int .u64 ((x / 256 ^ j : Nat) : Int) ∧ iv = .int .i64 (j : Int) ∧ j ≤ n ∧ FlO wr W3.heap.size 5 1 encB lv (le j x) ∧ Keep No W3 wr) (fun _ _ iv _ => n - (intOf iv).toNat)
    case atStart => exact ⟨0, by simp, rfl, Nat.zero_le _, FlO.nil, Keep.refl _ _⟩
    case round =>
      obtain ⟨j, rfl, rfl, hj, ho, hk⟩ := hrel
      generalize wr = wz at *
      obtain ⟨al, cl, rfl, _, _⟩ := ho.fl.shape
      have hlen := le_len j x
      rw [hlen] at ho ⊢
      have hxj : x / 256 ^ j < 18446744073709551616 := Nat.lt_of_le_of_lt (Nat.div_le_self _ _) hx
      have hsn := le_step j x
      have hdv : x / 256 ^ (j + 1) = x / 256 ^ j / 256 := by rw [Nat.pow_succ, Nat.div_div_eq_div_mul]
      rcases Nat.lt_or_ge j n with hlt | hge
      · have hltz : (j : Int) < (n : Int) := by omega
        have HSN := Lib.hid hsn
        have HDV := Lib.hid hdv
        have HLEN := Lib.hid hlen
        clear hsn hdv hlen hx
        generalize x / 256 ^ j = X at *
        have hmod : (X : Int).tmod 256 = ((X % 256 : Nat) : Int) := by rw [Int.tmod_eq_emod_of_nonneg (by omega)]; omega
        have hdiv : (X : Int).tdiv 256 = ((X / 256 : Nat) : Int) := by rw [Int.tdiv_eq_ediv_of_nonneg (by omega)]; rfl
        have hby : ((UInt8.ofNat (X % 256)).toNat : Int) = ((X % 256 : Nat) : Int) := by simp
        have hr256 : ((X % 256 : Nat) : Int) ≤ 255 := by omega
        have hq256 : ((X / 256 : Nat) : Int) ≤ 18446744073709551615 := by omega
        have HBY := Lib.hid hby
        clear hby hxj
        generalize X / 256 = X2 at *
        generalize X % 256 = r at *
        go_wp2_with (at_builtin; refine wl_append rfl _ _ _ _ rfl _ _ rfl rfl ?_)
        have hbv : Value.int .u8 (r : Int) = bv (UInt8.ofNat r) := congrArg (Value.int .u8) HBY.out.symm
        rw [hbv]
        refine rg_push (w := wz) (cs := #[bv (UInt8.ofNat r)]) (enc := encB) (x := UInt8.ofNat r) (l := le j x) (base := W3.heap.size) _ 1 Tryz.underlying24 o_info rfl (by decide) rfl rfl (by intro u hu; simp only [encB, List.mem_singleton] at hu; subst hu; rfl) ho (by rw [HLEN.out]; omega) (by decide) hk.size ?_
        intro lv2 w4 ho4 hk4 _
        have hk4' : Keep No W3 w4 := hk.own ho hk4
        rw [← HSN.out] at ho4
        obtain ⟨a4, c4, rfl, _, _⟩ := ho4.fl.shape
        clear hbv
        go_wp2_with fail
        go_roundw
        case rel => exact ⟨j + 1, by rw [HDV.out], by go_num, hlt, ho4, hk4'⟩
        case measure => simp [intOf]; omega
      · obtain rfl : j = n := Nat.le_antisymm hj hge
        have hb := encB_bts ho
        have hk3z := hk03.trans' hk
        have hB8 := b8a.keep hk fun h => h
        have hB4 := b4a.keep hk fun h => h
        have q6z : wz.cell? ⟨w.heap.size, 0, none⟩ = some (.slice av m.length cv) := hB4.cell 0
        have hpo := rvpoke_any (w := wz) true addr (le j x) ha (by rw [hlen]; omega) (HL.out.no hk3z) (fun k hk' => by have := hA k hk'; have := hk3z.size; omega) HOK.out hb (fun k hk' => hk'.2)
        rw [HP1.out, if_pos rfl, HP2.out] at hpo
        clear hb hsn hdv hlen hxj q6a
        go_wp2_with fail
        refine hpo.mono ?_
        rintro e w5 ⟨v5, rfl, hf5, hk5⟩
        have hone : v5.oneCell' = true := by obtain ⟨_, _, rfl, _, _⟩ := hf5.shape; rfl
        have hB85 := hB8.keep hk5 fun h => h
        have hk35 := hk3z.trans' hk5
        clear hpo
        go_wp2_with (with_reducible refine wl_stAgg rfl _ _ _ rfl _ _ rfl rfl ?_)
        refine rg_stAgg hB85 (by kernel_rfl) (by rfl) (by simpa using hone) ?_
        intro w7 hBz hkz hsz
        go_wp2_with fail
        refine ret_blk_tmp rfl rfl hBz Tryz.underlying52 rfl (by kernel_rfl) rfl ?_
        have hwz := hk.size
        exact ⟨_, rfl, (hf5.keep hkz fun k _ hk' e => by
          have e2 : k = w.heap.size + 1 := e
          rcases hk' with h1 | h1
          · have := hA k h1; omega
          · have := h1.1; omega).mono fun k hkz' hk' => by
            rcases hk' with h1 | h1
            · exact .inl h1
            · exact .inr ⟨by have := h1.1; have := hk3z.size; omega, hkz'⟩, hk35.trans hkz fun k hj e => absurd hj (by have e2 : k = w.heap.size + 1 := e; omega)⟩
  · have hne : ((E : Int) == 0) = false := by simpa using h0
    have hM := HNE.out h0
    subst hM
    clear h0
    go_wp2_with (with_reducible refine wl_stAgg rfl _ _ _ rfl _ _ rfl rfl ?_)
    refine rg_stAgg b8a (by kernel_rfl) (by rfl) (by simp [Value.oneCell']) ?_
    intro wz hBz hkz hsz
    go_wp2_with fail
    refine ret_blk_tmp rfl rfl hBz Tryz.underlying52 rfl (by kernel_rfl) rfl ?_
    exact ⟨_, rfl, ((HL.out.no hk03).keep hkz fun j _ ha e => by have := hA j ha; have e2 : j = w.heap.size + 1 := e; omega).mono fun _ _ ha => .inl ha, hk03.trans hkz fun j hj e => absurd hj (by have e2 : j = w.heap.size + 1 := e; omega)⟩
end
end Go.Proofs.YtaoillfofiehpaaGreatDoor
namespace Go.Proofs.YtaoillfofiehpaaGreatDoor
open Go.RowKit Go.Dm Go.Dm.Vm Go.Dm.Cp Go.Maps
theorem results_cell3 {fn : Func} {p u q : Tmp} {ty ty2 ty3 : TypeId} (h : fn.results = #[.cell p ty, .cell u ty2, .cell q ty3]) (tmps : Array Value) (P : Program) (w : World) :
    (results fn tmps).run P w = ((asAddr (tmps.getD p undef)).run P w).andThen fun a w₁ => ((loadVar ty a).run P w₁).andThen fun v w₂ => ((asAddr (tmps.getD u undef)).run P w₂).andThen fun a2 w3 => ((loadVar ty2 a2).run P w3).andThen fun v2 w4 => ((asAddr (tmps.getD q undef)).run P w4).andThen fun a3 w5 => ((loadVar ty3 a3).run P w5).andThen fun v3 w6 => .ok (.tuple #[v, v2, v3]) w6 := by
  simp only [results, h]
  simp [Sem.run_bind, Result.andThen]
theorem ret_blk3 {P : Program} {w : World} {fn : Func} {R : Ending → World → Prop} {a : Act} {p u q : Tmp} {ty ty2 ty3 t t2 t3 : TypeId} {g g2 g3 : Nat} {cs cs2 cs3 : Array Value} {d d2 d3 : TypeDesc} (h : fn.results = #[.cell p ty, .cell u ty2, .cell q ty3]) (hp : a.tmps.getD p undef = .pointer (some ⟨g, 0, none⟩)) (hp2 : a.tmps.getD u undef = .pointer (some ⟨g2, 0, none⟩)) (hp3 : a.tmps.getD q undef = .pointer (some ⟨g3, 0, none⟩))
    (hB : Blk w g cs t) (hB2 : Blk w g2 cs2 t2) (hB3 : Blk w g3 cs3 t3) (hu : P.underlying ty = some d) (hd : (match d with | .struct _ | .array _ _ => true | _ => false) = true) (hi : (P.info? ty).map (·.size) = some cs.size)
    (hu2 : P.underlying ty2 = some d2) (hd2 : (match d2 with | .struct _ | .array _ _ => true | _ => false) = true) (hi2 : (P.info? ty2).map (·.size) = some cs2.size)
    (hu3 : P.underlying ty3 = some d3) (hd3 : (match d3 with | .struct _ | .array _ _ => true | _ => false) = true) (hi3 : (P.info? ty3).map (·.size) = some cs3.size) (hdf : a.defers = []) (hR : R (.returned (.tuple #[.agg cs, .agg cs2, .agg cs3])) w) : bodyPost P fn R .ret a w :=
  bodyPost_ret (by rw [results_cell3 h, hp, hp2, hp3]; simp [asAddr, run_loadVar_row w g t ty cs _ d hB hu hd hi, run_loadVar_row w g2 t2 ty2 cs2 _ d2 hB2 hu2 hd2 hi2, run_loadVar_row w g3 t3 ty3 cs3 _ d3 hB3 hu3 hd3 hi3, Result.andThen]) hdf hR
theorem wid_wd {k : Nat} (h : k < 4) : Wd (wid k) := by
  have : k = 0 ∨ k = 1 ∨ k = 2 ∨ k = 3 := by omega
  rcases this with rfl | rfl | rfl | rfl
  · exact .inl rfl
  · exact .inr (.inl rfl)
  · exact .inr (.inr (.inl rfl))
  · exact .inr (.inr (.inr rfl))
theorem wid_cell {k : Nat} (h : k < 4) : (#[.int .i64 1, .int .i64 2, .int .i64 4, .int .i64 8] : Array Value)[k]? = some (.int .i64 ((wid k : Nat) : Int)) := by
  have : k = 0 ∨ k = 1 ∨ k = 2 ∨ k = 3 := by omega
  rcases this with rfl | rfl | rfl | rfl <;> rfl
/-- the five blocks that the call begins with -/
structure RB (w W : World) (cs : Array Value) (v : Value) : Prop where
  b2 : Blk W w.heap.size cs 57
  b3 : Blk W (w.heap.size + 1) #[v] 52
  b4 : Blk W (w.heap.size + 1 + 1) #[.int .u64 0, .int .u64 0, .int .u64 0, .int .u64 0, .int .u64 0, .int .u64 0, .int .u64 0, .int .u64 0, .int .u64 0, .int .u64 0, .int .u64 0, .int .u64 0, .int .u64 0, .int .u64 0, .int .u64 0, .int .u64 0, .int .u64 0, .int .u64 0, .int .u64 0, .int .u64 0, .int .u64 0, .int .u64 0, .int .u64 0, .int .u64 0, .int .u64 0, .int .u64 0, .int .u64 0, .int .u64 0, .int .u64 0, .int .u64 0, .int .u64 0, .int .u64 0, .int .u64 0, .int .u64 0] 57
  b5 : Blk W (w.heap.size + 1 + 1 + 1) #[.slice none 0 0] 52
  b6 : Blk W (w.heap.size + 1 + 1 + 1 + 1) #[.int .i64 0, .int .i64 0, .int .u64 0] 59
  kw : Keep No w W
theorem RB.keep {w W W' : World} {cs : Array Value} {v : Value} {S : Nat → Prop} (h : RB w W cs v) (hk : Keep S W W') (hS : ∀ j, S j → w.heap.size + 1 + 1 + 1 + 1 < j) : RB w W' cs v where
  b2 := h.b2.keep hk fun e => by have := hS _ e; omega
  b3 := h.b3.keep hk fun e => by have := hS _ e; omega
  b4 := h.b4.keep hk fun e => by have := hS _ e; omega
  b5 := h.b5.keep hk fun e => by have := hS _ e; omega
  b6 := h.b6.keep hk fun e => by have := hS _ e; omega
  kw := h.kw.trans hk fun j hj e => by have := hS _ e; omega
theorem RB.no {w W W' : World} {cs : Array Value} {v : Value} (h : RB w W cs v) (hk : Keep No W W') : RB w W' cs v := h.keep hk fun _ h => h.elim
section
variable {A : Nat → Prop} {w : World} {m : V} {v : Value}
set_option maxRecDepth 100000 in
set_option maxHeartbeats 8000000 in
theorem r14step_fault (s : St) (hs : StOk s) (ho : Ok m) (h : Fl A w 6 encS v m) (hA : ∀ k, A k → k < w.heap.size) (hf : fetchE m s.pc = 0 → decE (fetchX m s.pc) ≠ 0) :
    Calls Tryz.prog 20 #[.agg (cellsS s), .agg #[v]] w fun e w' => ∃ v', e = .returned (.tuple #[.agg (cellsS (stepM s m).1), .agg #[v'], encO3 (stepM s m).2.2]) ∧ Fl (Plus A w w') w' 6 encS v' (stepM s m).2.1 ∧ Keep No w w' := by
  have HFF := Lib.hid hf
  clear hf
  obtain ⟨av, cv, rfl, _, _⟩ := h.shape
  have hfe := fun (W : World) (hk : Keep No w W) => rvfetch_any (w := W) s.pc hs.pc (h.no hk) ho
  have htm : stepM s m = if fetchE m s.pc = 0 then if decE (fetchX m s.pc) = 0 then doM s m (decI (fetchX m s.pc)) else (s, m, ⟨3, 42, s.pc⟩) else (s, m, ⟨3, fetchE m s.pc, s.pc⟩) := rfl
  have hxl := fetchX_lt m s.pc
  generalize stepM s m = TM at *
  generalize fetchX m s.pc = X at *
  generalize fetchE m s.pc = E at *
  have hsz := cellsS_size hs
  have hss := stR_sz hs
  have hone := cellsS_one s
  have hpc := cellsS_pc hs
  unfold ru at hpc
  obtain ⟨cs, hcs⟩ : ∃ cs, cs = cellsS s := ⟨_, rfl⟩
  have HCS := Lib.hid hcs
  rw [← hcs] at hsz hss hone hpc ⊢
  have g32 : cs[32]'(by omega) = .int .u64 (s.pc : Int) := by
    have := Array.getElem?_eq_getElem (xs := cs) (i := 32) (by omega)
    rw [hpc] at this
    exact (Option.some.inj this).symm
  have HPC := Lib.hid hpc
  have HSZ := Lib.hid hss
  have HONE := Lib.hid hone
  have hF := Lib.hid h
  have hAX := Lib.hid hA
  have HTM := Lib.hid htm
  have HFE := Lib.hid hfe
  have HXL := Lib.hid hxl
  clear hcs h hA htm hfe hss hone hxl hpc
  go_enter Tryz.func20, Tryz.ntmps20
  go_wp2_with fail
  have hkW1 : Keep No w (w.alloc (.cells cs 57)) := (Keep.refl _ _).alloc _
  have hBW1 : Blk (w.alloc (.cells cs 57)) w.heap.size cs 57 := Blk.new _ _ _
  have hzW1 : (w.alloc (.cells cs 57)).heap.size = w.heap.size + 1 := World.size_alloc _ _
  generalize w.alloc (.cells cs 57) = W1 at *
  have hkW2 : Keep No W1 (W1.alloc (.cells #[.slice av m.length cv] 52)) := (Keep.refl _ _).alloc _
  have hBW2 : Blk (W1.alloc (.cells #[.slice av m.length cv] 52)) W1.heap.size #[.slice av m.length cv] 52 := Blk.new _ _ _
  have hzW2 : (W1.alloc (.cells #[.slice av m.length cv] 52)).heap.size = W1.heap.size + 1 := World.size_alloc _ _
  generalize W1.alloc (.cells #[.slice av m.length cv] 52) = W2 at *
  have hkW3 : Keep No W2 (W2.alloc (.cells #[.int .u64 0, .int .u64 0, .int .u64 0, .int .u64 0, .int .u64 0, .int .u64 0, .int .u64 0, .int .u64 0, .int .u64 0, .int .u64 0, .int .u64 0, .int .u64 0, .int .u64 0, .int .u64 0, .int .u64 0, .int .u64 0, .int .u64 0, .int .u64 0, .int .u64 0, .int .u64 0, .int .u64 0, .int .u64 0, .int .u64 0, .int .u64 0, .int .u64 0, .int .u64 0, .int .u64 0, .int .u64 0, .int .u64 0, .int .u64 0, .int .u64 0, .int .u64 0, .int .u64 0, .int .u64 0] 57)) := (Keep.refl _ _).alloc _
  have hBW3 : Blk (W2.alloc (.cells #[.int .u64 0, .int .u64 0, .int .u64 0, .int .u64 0, .int .u64 0, .int .u64 0, .int .u64 0, .int .u64 0, .int .u64 0, .int .u64 0, .int .u64 0, .int .u64 0, .int .u64 0, .int .u64 0, .int .u64 0, .int .u64 0, .int .u64 0, .int .u64 0, .int .u64 0, .int .u64 0, .int .u64 0, .int .u64 0, .int .u64 0, .int .u64 0, .int .u64 0, .int .u64 0, .int .u64 0, .int .u64 0, .int .u64 0, .int .u64 0, .int .u64 0, .int .u64 0, .int .u64 0, .int .u64 0] 57)) W2.heap.size #[.int .u64 0, .int .u64 0, .int .u64 0, .int .u64 0, .int .u64 0, .int .u64 0, .int .u64 0, .int .u64 0, .int .u64 0, .int .u64 0, .int .u64 0, .int .u64 0, .int .u64 0, .int .u64 0, .int .u64 0, .int .u64 0, .int .u64 0, .int .u64 0, .int .u64 0, .int .u64 0, .int .u64 0, .int .u64 0, .int .u64 0, .int .u64 0, .int .u64 0, .int .u64 0, .int .u64 0, .int .u64 0, .int .u64 0, .int .u64 0, .int .u64 0, .int .u64 0, .int .u64 0, .int .u64 0] 57 := Blk.new _ _ _
  have hzW3 : (W2.alloc (.cells #[.int .u64 0, .int .u64 0, .int .u64 0, .int .u64 0, .int .u64 0, .int .u64 0, .int .u64 0, .int .u64 0, .int .u64 0, .int .u64 0, .int .u64 0, .int .u64 0, .int .u64 0, .int .u64 0, .int .u64 0, .int .u64 0, .int .u64 0, .int .u64 0, .int .u64 0, .int .u64 0, .int .u64 0, .int .u64 0, .int .u64 0, .int .u64 0, .int .u64 0, .int .u64 0, .int .u64 0, .int .u64 0, .int .u64 0, .int .u64 0, .int .u64 0, .int .u64 0, .int .u64 0, .int .u64 0] 57)).heap.size = W2.heap.size + 1 := World.size_alloc _ _
  generalize W2.alloc (.cells #[.int .u64 0, .int .u64 0, .int .u64 0, .int .u64 0, .int .u64 0, .int .u64 0, .int .u64 0, .int .u64 0, .int .u64 0, .int .u64 0, .int .u64 0, .int .u64 0, .int .u64 0, .int .u64 0, .int .u64 0, .int .u64 0, .int .u64 0, .int .u64 0, .int .u64 0, .int .u64 0, .int .u64 0, .int .u64 0, .int .u64 0, .int .u64 0, .int .u64 0, .int .u64 0, .int .u64 0, .int .u64 0, .int .u64 0, .int .u64 0, .int .u64 0, .int .u64 0, .int .u64 0, .int .u64 0] 57) = W3 at *
  have hkW4 : Keep No W3 (W3.alloc (.cells #[.slice none 0 0] 52)) := (Keep.refl _ _).alloc _
  have hBW4 : Blk (W3.alloc (.cells #[.slice none 0 0] 52)) W3.heap.size #[.slice none 0 0] 52 := Blk.new _ _ _
  have hzW4 : (W3.alloc (.cells #[.slice none 0 0] 52)).heap.size = W3.heap.size + 1 := World.size_alloc _ _
  generalize W3.alloc (.cells #[.slice none 0 0] 52) = W4 at *
  have hkW5 : Keep No W4 (W4.alloc (.cells #[.int .i64 0, .int .i64 0, .int .u64 0] 59)) := (Keep.refl _ _).alloc _
  have hBW5 : Blk (W4.alloc (.cells #[.int .i64 0, .int .i64 0, .int .u64 0] 59)) W4.heap.size #[.int .i64 0, .int .i64 0, .int .u64 0] 59 := Blk.new _ _ _
  have hzW5 : (W4.alloc (.cells #[.int .i64 0, .int .i64 0, .int .u64 0] 59)).heap.size = W4.heap.size + 1 := World.size_alloc _ _
  generalize W4.alloc (.cells #[.int .i64 0, .int .i64 0, .int .u64 0] 59) = W5 at *
  rw [hzW1] at hBW2 hzW2
  rw [hzW2] at hBW3 hzW3
  rw [hzW3] at hBW4 hzW4
  rw [hzW4] at hBW5 hzW5
  have hB : RB w W5 cs (.slice av m.length cv) :=
    ⟨(((hBW1.keep hkW2 fun h => h).keep hkW3 fun h => h).keep hkW4 fun h => h).keep hkW5 fun h => h, ((hBW2.keep hkW3 fun h => h).keep hkW4 fun h => h).keep hkW5 fun h => h, (hBW3.keep hkW4 fun h => h).keep hkW5 fun h => h, hBW4.keep hkW5 fun h => h, hBW5, (((hkW1.trans' hkW2).trans' hkW3).trans' hkW4).trans' hkW5⟩
  have hcall := HFE.out W5 hB.kw
  clear hkW1 hkW2 hkW3 hkW4 hkW5 hBW1 hBW2 hBW3 hBW4 hBW5 hzW1 hzW2 hzW3 hzW4 g32
  go_wp2_with fail
  refine hcall.mono ?_
  rintro e w6 ⟨rfl, hk6⟩
  have hB6 := hB.no hk6
  clear hcall hk6 hB
  by_cases hE : E = 0
  · subst hE
    rw [if_pos rfl] at HTM
    have hdc := r12dec_any (w := w6) X HXL.out
    have hdi := fun h => dec_inok HXL.out h
    have hd42 : decE X ≠ 0 → decE X = 42 := fun h => by
      revert h
      unfold decE
      dsimp only
      split
      · intro h; exact absurd rfl h
      · intro _; rfl
    generalize decI X = I at *
    generalize decE X = D at *
    have HDI := Lib.hid hdi
    have HD42 := Lib.hid hd42
    clear hdi hd42
    have hD : D ≠ 0 := HFF.out rfl
    rw [if_neg hD] at HTM hdc
    obtain rfl := HD42.out hD
    have hz0 : zeroIR = .agg #[.int .i64 0, .int .i64 0, .int .i64 0, .int .i64 0, .int .i64 0] := rfl
    rw [hz0] at hdc
    clear hD hz0 HDI HD42
    go_wp2_with fail
    refine hdc.mono ?_
    rintro e w7 ⟨rfl, hk7⟩
    have hB7 := hB6.no hk7
    clear hdc hk7 hB6
    go_wp2_with (with_reducible refine wl_stAgg rfl _ _ _ rfl _ _ rfl rfl ?_)
    have hkW8 : Keep No w7 (w7.alloc (.cells #[.int .i64 0, .int .i64 0, .int .i64 0, .int .i64 0, .int .i64 0] 30)) := (Keep.refl _ _).alloc _
    have hBW8 : Blk (w7.alloc (.cells #[.int .i64 0, .int .i64 0, .int .i64 0, .int .i64 0, .int .i64 0] 30)) w7.heap.size #[.int .i64 0, .int .i64 0, .int .i64 0, .int .i64 0, .int .i64 0] 30 := Blk.new _ _ _
    have hzW8 : (w7.alloc (.cells #[.int .i64 0, .int .i64 0, .int .i64 0, .int .i64 0, .int .i64 0] 30)).heap.size = w7.heap.size + 1 := World.size_alloc _ _
    generalize w7.alloc (.cells #[.int .i64 0, .int .i64 0, .int .i64 0, .int .i64 0, .int .i64 0] 30) = W8 at *
    refine rg_stAgg hBW8 (by kernel_rfl) (by rfl) (by simp [Value.oneCell']) ?_
    intro w8 b9 hk78 hz78
    have hB8 := (hB7.no hkW8).keep hk78 fun j e => by have e2 : j = w7.heap.size := e; have := hB7.b6.lt; omega
    clear hkW8 hBW8 hk78 hz78 hB7 hzW8
    have hkd := (Keep.refl No w8).drew
    have hb4 := (hB8).b4.keep hkd fun h => h
    have hb5 := (hB8).b5.keep hkd fun h => h
    have hb6 := (hB8).b6.keep hkd fun h => h
    have hb2 := (hB8).b2.keep hkd fun h => h
    have hkwd := (hB8).kw.trans' hkd
    have hsb := (hB8.b2).keep hkd fun h => h
    have hmb := (hB8.b3).keep hkd fun h => h
    go_wp2_with fail
    refine wp_region_sig (fun w' => Blk w' (w.heap.size) (cs) 57 ∧ Blk w' (w.heap.size + 1) #[.slice av m.length cv] 52 ∧ w'.cell? ⟨w.heap.size, 32, none⟩ = some (.int .u64 (s.pc : Int))) (fun j => decide (j ≤ 99)) [(0, true), (1, true), (2, true), (3, true), (4, true), (5, true), (6, false), (7, false), (8, false)] (by kernel_rfl) (by kernel_rfl) (by intro c a d v w h; cases d <;> exact h) ⟨hsb, hmb, (hb2.cell 32).trans HPC.out⟩ ?_
    apply sig_still (o := ⟨some 44, _, _, _, _, _⟩) rfl rfl
    · intro w' hS
      exact run_ldoC _ _ rfl (w.heap.size) 0 rfl (run_loadVar_row w' (w.heap.size) 57 57 _ _ _ hS.1 Tryz.underlying57 rfl (HSZ.out))
    go_frame
    apply sig_still (o := ⟨some 45, _, _, _, _, _⟩) rfl rfl
    · intro w' hS
      exact run_ldoC _ _ rfl (w.heap.size + 1) 0 rfl (run_loadVar_row w' (w.heap.size + 1) 52 52 _ _ _ hS.2.1 Tryz.underlying52 rfl (by kernel_rfl))
    go_frame
    apply sig_still (o := ⟨some 46, _, _, _, _, _⟩) rfl rfl
    · intro w' hS
      obtain ⟨q1, q2, q3⟩ := hS
      first | (go_simp; done) | (go_simp; rfl) | rfl
    go_frame
    apply sig_still (o := ⟨some 47, _, _, _, _, _⟩) rfl rfl
    · intro w' hS
      obtain ⟨q1, q2, q3⟩ := hS
      first | (go_simp; done) | (go_simp; rfl) | rfl
    go_frame
    apply sig_still (o := ⟨some 48, _, _, _, _, _⟩) rfl rfl
    · intro w' hS
      obtain ⟨q1, q2, q3⟩ := hS
      first | (go_simp; done) | (go_simp; rfl) | rfl
    go_frame
    apply sig_still (o := ⟨some 49, _, _, _, _, _⟩) rfl rfl
    · intro w' hS
      obtain ⟨q1, q2, q3⟩ := hS
      first | (go_simp; done) | (go_simp; rfl) | rfl
    go_frame
    refine sig_eff (o := ⟨none, _, _, _, _, _⟩) rfl rfl (fun K hKe => ?_)
    refine wo_stAgg (.tmp 4) (.tmp 44) 57 rfl _ _ rfl rfl ?_
    refine rg_stAgg hb4 (HSZ.out) (by rw [hsz]; rfl) (HONE.out) ?_
    intro wa hBa hka hza
    have hsa := hsb.keep hka fun e => by have e2 : w.heap.size = w.heap.size + 1 + 1 := e; omega
    have hma := hmb.keep hka fun e => by have e2 : w.heap.size + 1 = w.heap.size + 1 + 1 := e; omega
    have h2a := hb2.keep hka fun e => by have e2 : w.heap.size = w.heap.size + 1 + 1 := e; omega
    have h5a := hb5.keep hka fun e => by have e2 : w.heap.size + 1 + 1 + 1 = w.heap.size + 1 + 1 := e; omega
    have h6a := hb6.keep hka fun e => by have e2 : w.heap.size + 1 + 1 + 1 + 1 = w.heap.size + 1 + 1 := e; omega
    have hKa : Keep No w wa := hkwd.trans hka fun j hj e => by have e2 : j = w.heap.size + 1 + 1 := e; omega
    refine hKe _ _ ⟨fun _ => ⟨hsa, hma, (h2a.cell 32).trans HPC.out⟩, ?_⟩
    refine sig_eff (o := ⟨none, _, _, _, _, _⟩) rfl rfl (fun K hKe => ?_)
    refine wo_stAgg (.tmp 5) (.tmp 45) 52 rfl _ _ rfl rfl ?_
    refine rg_stAgg h5a (by kernel_rfl) (by rfl) (by simp [Value.oneCell']) ?_
    intro wb hBb hkb hzb
    have hsb' := hsa.keep hkb fun e => by have e2 : w.heap.size = w.heap.size + 1 + 1 + 1 := e; omega
    have hmb' := hma.keep hkb fun e => by have e2 : w.heap.size + 1 = w.heap.size + 1 + 1 + 1 := e; omega
    have h2b := h2a.keep hkb fun e => by have e2 : w.heap.size = w.heap.size + 1 + 1 + 1 := e; omega
    have h6b := h6a.keep hkb fun e => by have e2 : w.heap.size + 1 + 1 + 1 + 1 = w.heap.size + 1 + 1 + 1 := e; omega
    have hKb : Keep No w wb := hKa.trans hkb fun j hj e => by have e2 : j = w.heap.size + 1 + 1 + 1 := e; omega
    refine hKe _ _ ⟨fun _ => ⟨hsb', hmb', (h2b.cell 32).trans HPC.out⟩, ?_⟩
    refine sig_eff (o := ⟨none, _, _, _, _, _⟩) rfl rfl (fun K hKe => ?_)
    refine wo_stAgg (.tmp 6) (.tmp 49) 59 rfl _ _ rfl rfl ?_
    refine rg_stAgg h6b (by kernel_rfl) (by rfl) (by simp [Value.oneCell']) ?_
    intro wc hBc hkc hzc
    have hsc := hsb'.keep hkc fun e => by have e2 : w.heap.size = w.heap.size + 1 + 1 + 1 + 1 := e; omega
    have hmc := hmb'.keep hkc fun e => by have e2 : w.heap.size + 1 = w.heap.size + 1 + 1 + 1 + 1 := e; omega
    have h2c := h2b.keep hkc fun e => by have e2 : w.heap.size = w.heap.size + 1 + 1 + 1 + 1 := e; omega
    have hKE : Keep No w wc := hKb.trans hkc fun j hj e => by have e2 : j = w.heap.size + 1 + 1 + 1 + 1 := e; omega
    refine hKe _ _ ⟨fun _ => ⟨hsc, hmc, (h2c.cell 32).trans HPC.out⟩, sig_nil ?_⟩
    go_wp2_with fail
    refine ret_blk3 rfl rfl rfl rfl ((hBa.keep hkb fun e => by have e2 : w.heap.size + 1 + 1 = w.heap.size + 1 + 1 + 1 := e; omega).keep hkc fun e => by have e2 : w.heap.size + 1 + 1 = w.heap.size + 1 + 1 + 1 + 1 := e; omega) (hBb.keep hkc fun e => by have e2 : w.heap.size + 1 + 1 + 1 = w.heap.size + 1 + 1 + 1 + 1 := e; omega) hBc Tryz.underlying57 rfl (HSZ.out) Tryz.underlying52 rfl (by kernel_rfl) Tryz.underlying59 rfl (by kernel_rfl) rfl ?_
    have hTM := HTM.out
    have hcs := HCS.out
    subst hcs
    cases hTM
    exact ⟨_, rfl, (hF.out.no hKE).mono fun j hj ha => .inl ha, hKE⟩
  · rw [if_neg hE] at HTM
    have hE0 : ((E : Int) == 0) = false := by simpa using hE
    clear hE
    have hkd := (Keep.refl No w6).drew
    have hb4 := (hB6).b4.keep hkd fun h => h
    have hb5 := (hB6).b5.keep hkd fun h => h
    have hb6 := (hB6).b6.keep hkd fun h => h
    have hb2 := (hB6).b2.keep hkd fun h => h
    have hkwd := (hB6).kw.trans' hkd
    have hsb := (hB6.b2).keep hkd fun h => h
    have hmb := (hB6.b3).keep hkd fun h => h
    go_wp2_with fail
    refine wp_region_sig (fun w' => Blk w' (w.heap.size) (cs) 57 ∧ Blk w' (w.heap.size + 1) #[.slice av m.length cv] 52 ∧ w'.cell? ⟨w.heap.size, 32, none⟩ = some (.int .u64 (s.pc : Int))) (fun j => decide (j ≤ 99)) [(0, true), (1, true), (2, true), (3, true), (4, true), (5, true), (6, false), (7, false), (8, false)] (by kernel_rfl) (by kernel_rfl) (by intro c a d v w h; cases d <;> exact h) ⟨hsb, hmb, (hb2.cell 32).trans HPC.out⟩ ?_
    apply sig_still (o := ⟨some 31, _, _, _, _, _⟩) rfl rfl
    · intro w' hS
      exact run_ldoC _ _ rfl (w.heap.size) 0 rfl (run_loadVar_row w' (w.heap.size) 57 57 _ _ _ hS.1 Tryz.underlying57 rfl (HSZ.out))
    go_frame
    apply sig_still (o := ⟨some 32, _, _, _, _, _⟩) rfl rfl
    · intro w' hS
      exact run_ldoC _ _ rfl (w.heap.size + 1) 0 rfl (run_loadVar_row w' (w.heap.size + 1) 52 52 _ _ _ hS.2.1 Tryz.underlying52 rfl (by kernel_rfl))
    go_frame
    apply sig_still (o := ⟨some 33, _, _, _, _, _⟩) rfl rfl
    · intro w' hS
      obtain ⟨q1, q2, q3⟩ := hS
      first | (go_simp; done) | (go_simp; rfl) | rfl
    go_frame
    apply sig_still (o := ⟨some 34, _, _, _, _, _⟩) rfl rfl
    · intro w' hS
      obtain ⟨q1, q2, q3⟩ := hS
      first | (go_simp; done) | (go_simp; rfl) | rfl
    go_frame
    apply sig_still (o := ⟨some 35, _, _, _, _, _⟩) rfl rfl
    · intro w' hS
      obtain ⟨q1, q2, q3⟩ := hS
      first | (go_simp; done) | (go_simp; rfl) | rfl
    go_frame
    apply sig_still (o := ⟨some 36, _, _, _, _, _⟩) rfl rfl
    · intro w' hS
      obtain ⟨q1, q2, q3⟩ := hS
      first | (go_simp; done) | (go_simp; rfl) | rfl
    go_frame
    refine sig_eff (o := ⟨none, _, _, _, _, _⟩) rfl rfl (fun K hKe => ?_)
    refine wo_stAgg (.tmp 4) (.tmp 31) 57 rfl _ _ rfl rfl ?_
    refine rg_stAgg hb4 (HSZ.out) (by rw [hsz]; rfl) (HONE.out) ?_
    intro wa hBa hka hza
    have hsa := hsb.keep hka fun e => by have e2 : w.heap.size = w.heap.size + 1 + 1 := e; omega
    have hma := hmb.keep hka fun e => by have e2 : w.heap.size + 1 = w.heap.size + 1 + 1 := e; omega
    have h2a := hb2.keep hka fun e => by have e2 : w.heap.size = w.heap.size + 1 + 1 := e; omega
    have h5a := hb5.keep hka fun e => by have e2 : w.heap.size + 1 + 1 + 1 = w.heap.size + 1 + 1 := e; omega
    have h6a := hb6.keep hka fun e => by have e2 : w.heap.size + 1 + 1 + 1 + 1 = w.heap.size + 1 + 1 := e; omega
    have hKa : Keep No w wa := hkwd.trans hka fun j hj e => by have e2 : j = w.heap.size + 1 + 1 := e; omega
    refine hKe _ _ ⟨fun _ => ⟨hsa, hma, (h2a.cell 32).trans HPC.out⟩, ?_⟩
    refine sig_eff (o := ⟨none, _, _, _, _, _⟩) rfl rfl (fun K hKe => ?_)
    refine wo_stAgg (.tmp 5) (.tmp 32) 52 rfl _ _ rfl rfl ?_
    refine rg_stAgg h5a (by kernel_rfl) (by rfl) (by simp [Value.oneCell']) ?_
    intro wb hBb hkb hzb
    have hsb' := hsa.keep hkb fun e => by have e2 : w.heap.size = w.heap.size + 1 + 1 + 1 := e; omega
    have hmb' := hma.keep hkb fun e => by have e2 : w.heap.size + 1 = w.heap.size + 1 + 1 + 1 := e; omega
    have h2b := h2a.keep hkb fun e => by have e2 : w.heap.size = w.heap.size + 1 + 1 + 1 := e; omega
    have h6b := h6a.keep hkb fun e => by have e2 : w.heap.size + 1 + 1 + 1 + 1 = w.heap.size + 1 + 1 + 1 := e; omega
    have hKb : Keep No w wb := hKa.trans hkb fun j hj e => by have e2 : j = w.heap.size + 1 + 1 + 1 := e; omega
    refine hKe _ _ ⟨fun _ => ⟨hsb', hmb', (h2b.cell 32).trans HPC.out⟩, ?_⟩
    refine sig_eff (o := ⟨none, _, _, _, _, _⟩) rfl rfl (fun K hKe => ?_)
    refine wo_stAgg (.tmp 6) (.tmp 36) 59 rfl _ _ rfl rfl ?_
    refine rg_stAgg h6b (by kernel_rfl) (by rfl) (by simp [Value.oneCell']) ?_
    intro wc hBc hkc hzc
    have hsc := hsb'.keep hkc fun e => by have e2 : w.heap.size = w.heap.size + 1 + 1 + 1 + 1 := e; omega
    have hmc := hmb'.keep hkc fun e => by have e2 : w.heap.size + 1 = w.heap.size + 1 + 1 + 1 + 1 := e; omega
    have h2c := h2b.keep hkc fun e => by have e2 : w.heap.size = w.heap.size + 1 + 1 + 1 + 1 := e; omega
    have hKE : Keep No w wc := hKb.trans hkc fun j hj e => by have e2 : j = w.heap.size + 1 + 1 + 1 + 1 := e; omega
    refine hKe _ _ ⟨fun _ => ⟨hsc, hmc, (h2c.cell 32).trans HPC.out⟩, sig_nil ?_⟩
    go_wp2_with fail
    refine ret_blk3 rfl rfl rfl rfl ((hBa.keep hkb fun e => by have e2 : w.heap.size + 1 + 1 = w.heap.size + 1 + 1 + 1 := e; omega).keep hkc fun e => by have e2 : w.heap.size + 1 + 1 = w.heap.size + 1 + 1 + 1 + 1 := e; omega) (hBb.keep hkc fun e => by have e2 : w.heap.size + 1 + 1 + 1 = w.heap.size + 1 + 1 + 1 + 1 := e; omega) hBc Tryz.underlying57 rfl (HSZ.out) Tryz.underlying52 rfl (by kernel_rfl) Tryz.underlying59 rfl (by kernel_rfl) rfl ?_
    have hTM := HTM.out
    have hcs := HCS.out
    subst hcs
    cases hTM
    exact ⟨_, rfl, (hF.out.no hKE).mono fun j hj ha => .inl ha, hKE⟩
end
end Go.Proofs.YtaoillfofiehpaaGreatDoor
