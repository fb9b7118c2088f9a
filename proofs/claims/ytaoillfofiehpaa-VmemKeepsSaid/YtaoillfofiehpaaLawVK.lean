/- VmemKeeps: walked. No condition. -/
import Derived.Test.YtaoillfofiehpaaVmL
import Derived.Test.YtaoillfofiehpaaVmH
namespace Go.Dm.Vm
open Go Go.Proofs.Ytaoillfofiehpaa Go.Dm.Oc
def kpM : V := mapV [] 512 768 6 [] 0
theorem kp_map : mapE [] 512 768 6 = 0 := by decide
theorem kp_list : kpM = [⟨512, 6, false, [], 0, noughts⟩, ⟨768, 6, false, [], 0, noughts⟩, ⟨1024, 6, false, [], 0, noughts⟩] := rfl
theorem kp_full : Full kpM 512 1280 6 := by
  intro x h1 h2 h3
  have : x = 512 ∨ x = 768 ∨ x = 1024 := by omega
  rw [kp_list]
  rcases this with rfl | rfl | rfl
  · exact ⟨_, rfl, rfl⟩
  · exact ⟨_, rfl, rfl⟩
  · exact ⟨_, rfl, rfl⟩
theorem kp_zero (y : Nat) : byteAt kpM y = 0 := by
  unfold byteAt
  have hz : ∀ i, noughts.getD i 0 = 0 := fun i => by
    unfold noughts
    rw [List.getD_eq_getElem?_getD, List.getElem?_replicate]
    split <;> rfl
  cases h : pageAt kpM (pageOf y) with
  | none => rfl
  | some p =>
    have hm := (get_mem h).1
    rw [kp_list] at hm
    simp only [List.mem_cons, List.not_mem_nil, or_false] at hm
    rcases hm with rfl | rfl | rfl <;> exact hz _
theorem kp_len : kpM.length = 3 := rfl
theorem writeB_len (m : V) (a : Nat) (b : List UInt8) : (writeB m a b).length = m.length := by
  induction b generalizing m a with
  | nil => rfl
  | cons c r ih => show (writeB (setB m a c) (a + 1) r).length = _; rw [ih]; unfold setB; rw [List.length_map]
theorem updN_len (g : Pg → Pg) (m : V) (a k : Nat) : (updN g m a k).length = m.length := by
  induction k with
  | zero => rfl
  | succ k ih => unfold updN upd; rw [List.length_map, ih]
theorem store_len (m : V) (a : Nat) (n : Int) (x : Nat) : (storeV m a n x).length = m.length := by
  unfold storeV
  split
  · rw [updN_len, writeB_len]
  · rfl
theorem keeps_plain (ho : Ok kpM) (a n x y : Nat) (hn : n = 1 ∨ n = 2 ∨ n = 4 ∨ n = 8) (h1 : 512 ≤ a) (h2 : a + n ≤ 1280) :
    numE kpM a n 2 = 0 ∧ numE (storeV kpM a n x) a n 2 = 0 ∧ loadE (storeV kpM a n x) a n = 0 ∧ loadX (storeV kpM a n x) a n = x % 256 ^ n ∧ loadE (storeV (storeV kpM a n x) a n y) a n = 0 ∧ loadX (storeV (storeV kpM a n x) a n y) a n = y % 256 ^ n ∧
    peekE (storeV kpM a n x) 512 768 = 0 ∧ (peekB (storeV kpM a n x) 512 768).length = 768 ∧ (∀ k, k < 768 → (512 + k < a ∨ a + n ≤ 512 + k) → (peekB (storeV kpM a n x) 512 768)[k]? = some 0) ∧ (storeV kpM a n x).length = 3 := by
  have hw : (n : Int) = 1 ∨ (n : Int) = 2 ∨ (n : Int) = 4 ∨ (n : Int) = 8 := by omega
  have hF := kp_full
  have hF1 : Full (storeV kpM a n x) 512 1280 6 := hF.store _ _ _
  have hF2 : Full (storeV (storeV kpM a n x) a n y) 512 1280 6 := hF1.store _ _ _
  have ht : (1280 : Nat) ≤ top := by unfold top; omega
  have e1 := hF.num (what := 2) (n := n) (a := a) (by decide) hw h1 (by simpa using h2) ht (by decide)
  have e2 := hF1.num (what := 2) (n := n) (a := a) (by decide) hw h1 (by simpa using h2) ht (by decide)
  have l1 := hF1.num (what := 4) (n := n) (a := a) (by decide) hw h1 (by simpa using h2) ht (by decide)
  have l2 := hF2.num (what := 4) (n := n) (a := a) (by decide) hw h1 (by simpa using h2) ht (by decide)
  have hh : heldE (storeV kpM a n x) 512 768 = 0 := hF1.held (by decide) (Nat.le_refl _) (by omega) (by omega) ht (by omega)
  have hpk : peekB (storeV kpM a n x) 512 768 = readB (storeV kpM a n x) 512 768 := by unfold peekB; rw [if_neg (by decide), if_pos hh]
  refine ⟨e1, e2, l1, load_store ho e1 l1, l2, load_store (store_ok ho _ _ _) e2 l2, ?_, by rw [hpk, readB_len], fun k hk hout => ?_, by rw [store_len, kp_len]⟩
  · unfold peekE; rw [if_neg (by decide)]; exact hh
  · rw [hpk, read_store ho e1, List.getElem?_map, List.getElem?_range hk]
    simp only [Option.map_some, Int.toNat_natCast]
    rw [if_neg (by omega), kp_zero]
end Go.Dm.Vm
namespace Go.Proofs.Ytaoillfofiehpaa
open Go.RowKit Go.Dm Go.Dm.Vm Go.Maps Go.Dm.Oc Go.WideMaps Go.WideElems
section
set_option maxRecDepth 100000 in
set_option maxHeartbeats 8000000 in
theorem vmemkeeps_any (at_ : Nat) (which : Int) (x y : Nat) (ha : at_ < 18446744073709551616) (hx : x < 18446744073709551616) (hy : y < 18446744073709551616) (w : World) :
    Calls Try.prog 5 #[.int .u64 (at_ : Int), .int .i64 which, .int .u64 (x : Int), .int .u64 (y : Int)] w fun e w' => e = .returned (.bool true) ∧ Keep No w w' := by
  have hmk := mask_eq which 3 (by decide)
  have hmr : (mask which 3 : Nat) ≤ 3 := mask_le _ _
  generalize mask which 3 = j at *
  have hrem : (at_ : Int).tmod 760 = ((at_ % 760 : Nat) : Int) := by rw [IntWalk.rem_in _ _ (by omega)]; omega
  have hr760 : at_ % 760 < 760 := Nat.mod_lt _ (by decide)
  generalize at_ % 760 = r at *
  go_enter Try.func5, Try.ntmps5
  go_wp2_with (first | (at_builtin; refine wl_append rfl _ _ _ _ rfl _ _ rfl rfl ?_) | (at_make; refine wl_make rfl _ _ _ rfl _ _ rfl rfl ?_) | (at_mapUpdate; refine wl_mapUpdate rfl _ _ _ _ rfl _ _ _ rfl rfl rfl ?_) | (at_lookup; refine wl_lookup rfl _ _ _ _ rfl _ _ rfl rfl ?_) | (at_delete; refine wl_delete rfl _ _ _ _ rfl _ _ rfl rfl ?_) | (with_reducible refine wl_len rfl _ _ rfl _ rfl ?_) | (with_reducible refine wl_range rfl _ _ rfl _ rfl ?_) | (with_reducible refine wl_next rfl _ rfl _ rfl ?_) | (with_reducible refine wl_copy rfl _ _ _ _ rfl _ _ rfl rfl ?_) | (with_reducible refine wl_max rfl _ _ _ _ rfl _ _ rfl rfl ?_) | (with_reducible refine wl_min rfl _ _ _ _ rfl _ _ rfl rfl ?_))
  refine (awake13_any _).mono ?_
  rintro e w1 ⟨rfl, hK1⟩
  go_wp2_with (first | (at_builtin; refine wl_append rfl _ _ _ _ rfl _ _ rfl rfl ?_) | (at_make; refine wl_make rfl _ _ _ rfl _ _ rfl rfl ?_) | (at_mapUpdate; refine wl_mapUpdate rfl _ _ _ _ rfl _ _ _ rfl rfl rfl ?_) | (at_lookup; refine wl_lookup rfl _ _ _ _ rfl _ _ rfl rfl ?_) | (at_delete; refine wl_delete rfl _ _ _ _ rfl _ _ rfl rfl ?_) | (with_reducible refine wl_len rfl _ _ rfl _ rfl ?_) | (with_reducible refine wl_range rfl _ _ rfl _ rfl ?_) | (with_reducible refine wl_next rfl _ rfl _ rfl ?_) | (with_reducible refine wl_copy rfl _ _ _ _ rfl _ _ rfl rfl ?_) | (with_reducible refine wl_max rfl _ _ _ _ rfl _ _ rfl rfl ?_) | (with_reducible refine wl_min rfl _ _ _ _ rfl _ _ rfl rfl ?_))
  refine (vnew_any _).mono ?_
  rintro e w2 ⟨mb, d, f, rfl, hS, hk2⟩
  have hK2 := hK1.trans' hk2
  unfold ptrTo
  go_wp2_with (first | (at_builtin; refine wl_append rfl _ _ _ _ rfl _ _ rfl rfl ?_) | (at_make; refine wl_make rfl _ _ _ rfl _ _ rfl rfl ?_) | (at_mapUpdate; refine wl_mapUpdate rfl _ _ _ _ rfl _ _ _ rfl rfl rfl ?_) | (at_lookup; refine wl_lookup rfl _ _ _ _ rfl _ _ rfl rfl ?_) | (at_delete; refine wl_delete rfl _ _ _ _ rfl _ _ rfl rfl ?_) | (with_reducible refine wl_len rfl _ _ rfl _ rfl ?_) | (with_reducible refine wl_range rfl _ _ rfl _ rfl ?_) | (with_reducible refine wl_next rfl _ rfl _ rfl ?_) | (with_reducible refine wl_copy rfl _ _ _ _ rfl _ _ rfl rfl ?_) | (with_reducible refine wl_max rfl _ _ _ _ rfl _ _ rfl rfl ?_) | (with_reducible refine wl_min rfl _ _ _ _ rfl _ _ rfl rfl ?_))
  refine (vmap_any 512 768 0 6 [] (by omega) (by omega) (by omega) (by unfold maxLen; simp) hS (fun k hk => hk.2)).mono ?_
  rintro e w3 ⟨rfl, ⟨f3, hS3⟩, hk3⟩
  rw [kp_map]
  have hS3' : SRep (fun k => w1.heap.size ≤ k ∧ k < w3.heap.size) w3 d kpM mb f3 := hS3.mono fun k hk ha => by
    rcases ha with ha | ha
    · exact ⟨ha.1, hk⟩
    · exact ⟨Nat.le_trans hk2.size ha.1, hk⟩
  have hK3 : Keep No w1 w3 := hk2.trans hk3 fun j hj ha => absurd ha.1 (Nat.not_le.2 hj)
  clear hS hS3 hk2 hk3 hK2
  have hS4 : SRep (fun k => w1.heap.size ≤ k ∧ k < w3.heap.size) (w3.alloc (.cells #[.int .i64 1, .int .i64 2, .int .i64 4, .int .i64 8] 3)) d kpM mb f3 := hS3'.no (fun k hk => hk.2) ((Keep.refl _ _).alloc _)
  have hK4 : Keep No w1 (w3.alloc (.cells #[.int .i64 1, .int .i64 2, .int .i64 4, .int .i64 8] 3)) := hK3.alloc _
  have hz4 : (w3.alloc (.cells #[.int .i64 1, .int .i64 2, .int .i64 4, .int .i64 8] 3)).heap.size = w3.heap.size + 1 := World.size_alloc _ _
  have HS4 := Lib.hid hS4
  have HK4 := Lib.hid hK4
  have HZ4 := Lib.hid hz4
  have hok : Ok kpM := hS3'.ok
  clear hS4 hK4 hz4 hS3' hK3
  obtain ⟨a, hadr⟩ : ∃ a, a = 512 + r := ⟨_, rfl⟩
  have hsum : (512 : Int) + (r : Int) = (a : Int) := by omega
  have ha1 : 512 ≤ a := by omega
  have ha2 : a + 8 ≤ 1280 := by omega
  have haz : (a : Int) < 1280 := by omega
  clear hadr hr760 ha
  have hj4 : j = 0 ∨ j = 1 ∨ j = 2 ∨ j = 3 := by omega
  rcases hj4 with rfl | rfl | rfl | rfl
  · skip
    have HMX : Hid ((x : Int) % 256 = ((x % 256 ^ 1 : Nat) : Int) ∧ bits .and .u64 (x : Int) 255 = ((x % 256 ^ 1 : Nat) : Int)) := Lib.hid ⟨by omega, by have h := u64_and_nat x 255 hx (by decide); rw [show x &&& 255 = x % 256 ^ 1 from Nat.and_two_pow_sub_one_eq_mod x 8] at h; exact h⟩
    have HMY : Hid ((y : Int) % 256 = ((y % 256 ^ 1 : Nat) : Int) ∧ bits .and .u64 (y : Int) 255 = ((y % 256 ^ 1 : Nat) : Int)) := Lib.hid ⟨by omega, by have h := u64_and_nat y 255 hy (by decide); rw [show y &&& 255 = y % 256 ^ 1 from Nat.and_two_pow_sub_one_eq_mod y 8] at h; exact h⟩
    have hm : bits .and .i64 which 3 = 0 := hmk
    obtain ⟨p1, p2, p3, p4, p5, p6, p7, p8, p9, p10⟩ := keeps_plain hok a 1 x y (by omega) ha1 (by omega)
    clear hmk
    go_wp2_with (first | (at_builtin; refine wl_append rfl _ _ _ _ rfl _ _ rfl rfl ?_) | (at_make; refine wl_make rfl _ _ _ rfl _ _ rfl rfl ?_) | (at_mapUpdate; refine wl_mapUpdate rfl _ _ _ _ rfl _ _ _ rfl rfl rfl ?_) | (at_lookup; refine wl_lookup rfl _ _ _ _ rfl _ _ rfl rfl ?_) | (at_delete; refine wl_delete rfl _ _ _ _ rfl _ _ rfl rfl ?_) | (with_reducible refine wl_len rfl _ _ rfl _ rfl ?_) | (with_reducible refine wl_range rfl _ _ rfl _ rfl ?_) | (with_reducible refine wl_next rfl _ rfl _ rfl ?_) | (with_reducible refine wl_copy rfl _ _ _ _ rfl _ _ rfl rfl ?_) | (with_reducible refine wl_max rfl _ _ _ _ rfl _ _ rfl rfl ?_) | (with_reducible refine wl_min rfl _ _ _ _ rfl _ _ rfl rfl ?_))
    have hS4 := HS4.out
    have hK4 := HK4.out
    have hz4 := HZ4.out
    generalize w3.alloc (.cells #[.int .i64 1, .int .i64 2, .int .i64 4, .int .i64 8] 3) = w4 at *
    have hA4 : ∀ k, (w1.heap.size ≤ k ∧ k < w3.heap.size) → k < w4.heap.size := fun k hk => by omega
    refine (vstore_any a ((1 : Nat) : Int) x (by omega) hx (by omega) (by omega) hS4 hA4).mono ?_
    rintro e w5 ⟨rfl, hS5, hk5⟩
    rw [p1]
    have hk5' := hK4.trans hk5 (fun j hj ha => absurd ha.1 (Nat.not_le.2 hj))
    have hA5 : ∀ k, (w1.heap.size ≤ k ∧ k < w3.heap.size) → k < w5.heap.size := fun k hk => Nat.lt_of_lt_of_le (hA4 k hk) hk5.size
    clear hS4 hK4 hz4 hA4 hk5 HS4 HK4 HZ4 hok
    generalize storeV kpM a ((1 : Nat) : Int) x = M1 at *
    go_wp2_with (first | (at_builtin; refine wl_append rfl _ _ _ _ rfl _ _ rfl rfl ?_) | (at_make; refine wl_make rfl _ _ _ rfl _ _ rfl rfl ?_) | (at_mapUpdate; refine wl_mapUpdate rfl _ _ _ _ rfl _ _ _ rfl rfl rfl ?_) | (at_lookup; refine wl_lookup rfl _ _ _ _ rfl _ _ rfl rfl ?_) | (at_delete; refine wl_delete rfl _ _ _ _ rfl _ _ rfl rfl ?_) | (with_reducible refine wl_len rfl _ _ rfl _ rfl ?_) | (with_reducible refine wl_range rfl _ _ rfl _ rfl ?_) | (with_reducible refine wl_next rfl _ rfl _ rfl ?_) | (with_reducible refine wl_copy rfl _ _ _ _ rfl _ _ rfl rfl ?_) | (with_reducible refine wl_max rfl _ _ _ _ rfl _ _ rfl rfl ?_) | (with_reducible refine wl_min rfl _ _ _ _ rfl _ _ rfl rfl ?_))
    refine (vcopy_any hS5 hA5).mono ?_
    rintro e w6 ⟨dc, mbc, fc, rfl, hC6, hk6⟩
    have hS6 := hS5.no hA5 hk6
    have hA6 : ∀ k, (w1.heap.size ≤ k ∧ k < w3.heap.size) → k < w6.heap.size := fun k hk => Nat.lt_of_lt_of_le (hA5 k hk) hk6.size
    have hk6' := hk5'.trans' hk6
    unfold ptrTo
    go_wp2_with (first | (at_builtin; refine wl_append rfl _ _ _ _ rfl _ _ rfl rfl ?_) | (at_make; refine wl_make rfl _ _ _ rfl _ _ rfl rfl ?_) | (at_mapUpdate; refine wl_mapUpdate rfl _ _ _ _ rfl _ _ _ rfl rfl rfl ?_) | (at_lookup; refine wl_lookup rfl _ _ _ _ rfl _ _ rfl rfl ?_) | (at_delete; refine wl_delete rfl _ _ _ _ rfl _ _ rfl rfl ?_) | (with_reducible refine wl_len rfl _ _ rfl _ rfl ?_) | (with_reducible refine wl_range rfl _ _ rfl _ rfl ?_) | (with_reducible refine wl_next rfl _ rfl _ rfl ?_) | (with_reducible refine wl_copy rfl _ _ _ _ rfl _ _ rfl rfl ?_) | (with_reducible refine wl_max rfl _ _ _ _ rfl _ _ rfl rfl ?_) | (with_reducible refine wl_min rfl _ _ _ _ rfl _ _ rfl rfl ?_))
    refine (vstore_any a ((1 : Nat) : Int) y (by omega) hy (by omega) (by omega) hC6 (fun k hk => hk.2)).mono ?_
    rintro e w7 ⟨rfl, hC7, hk7⟩
    rw [p2]
    have hw15 : w1.heap.size ≤ w5.heap.size := hk5'.size
    have hk7' : Keep No w1 w7 := hk6'.trans hk7 (fun j hj ha => absurd ha.1 (Nat.not_le.2 (Nat.lt_of_lt_of_le hj hw15)))
    have hS7 := hS6.keep hk7 (fun k hk hc => absurd hc.1 (Nat.not_le.2 (hA5 k hk))) hA6
    have hA7 : ∀ k, (w1.heap.size ≤ k ∧ k < w3.heap.size) → k < w7.heap.size := fun k hk => Nat.lt_of_lt_of_le (hA6 k hk) hk7.size
    have hAc7 : ∀ k, (w5.heap.size ≤ k ∧ k < w6.heap.size) → k < w7.heap.size := fun k hk => Nat.lt_of_lt_of_le hk.2 hk7.size
    clear hS5 hA5 hk5' hS6 hA6 hk6 hk6' hC6 hk7
    generalize storeV M1 a ((1 : Nat) : Int) y = M2 at *
    generalize x % 256 ^ 1 = xm at *
    generalize y % 256 ^ 1 = ym at *
    go_wp2_with (first | (at_builtin; refine wl_append rfl _ _ _ _ rfl _ _ rfl rfl ?_) | (at_make; refine wl_make rfl _ _ _ rfl _ _ rfl rfl ?_) | (at_mapUpdate; refine wl_mapUpdate rfl _ _ _ _ rfl _ _ _ rfl rfl rfl ?_) | (at_lookup; refine wl_lookup rfl _ _ _ _ rfl _ _ rfl rfl ?_) | (at_delete; refine wl_delete rfl _ _ _ _ rfl _ _ rfl rfl ?_) | (with_reducible refine wl_len rfl _ _ rfl _ rfl ?_) | (with_reducible refine wl_range rfl _ _ rfl _ rfl ?_) | (with_reducible refine wl_next rfl _ rfl _ rfl ?_) | (with_reducible refine wl_copy rfl _ _ _ _ rfl _ _ rfl rfl ?_) | (with_reducible refine wl_max rfl _ _ _ _ rfl _ _ rfl rfl ?_) | (with_reducible refine wl_min rfl _ _ _ _ rfl _ _ rfl rfl ?_))
    refine (vload_any a ((1 : Nat) : Int) (by omega) (by omega) (by omega) hS7 hA7).mono ?_
    rintro e w8 ⟨rfl, hk8⟩
    rw [p3, p4]
    have hS8 := hS7.no hA7 hk8
    have hA8 : ∀ k, (w1.heap.size ≤ k ∧ k < w3.heap.size) → k < w8.heap.size := fun k hk => Nat.lt_of_lt_of_le (hA7 k hk) hk8.size
    have hC8 := hC7.no hAc7 hk8
    have hk8' := hk7'.trans' hk8
    have hAc8 : ∀ k, (w5.heap.size ≤ k ∧ k < w6.heap.size) → k < w8.heap.size := fun k hk => Nat.lt_of_lt_of_le (hAc7 k hk) hk8.size
    go_wp2_with (first | (at_builtin; refine wl_append rfl _ _ _ _ rfl _ _ rfl rfl ?_) | (at_make; refine wl_make rfl _ _ _ rfl _ _ rfl rfl ?_) | (at_mapUpdate; refine wl_mapUpdate rfl _ _ _ _ rfl _ _ _ rfl rfl rfl ?_) | (at_lookup; refine wl_lookup rfl _ _ _ _ rfl _ _ rfl rfl ?_) | (at_delete; refine wl_delete rfl _ _ _ _ rfl _ _ rfl rfl ?_) | (with_reducible refine wl_len rfl _ _ rfl _ rfl ?_) | (with_reducible refine wl_range rfl _ _ rfl _ rfl ?_) | (with_reducible refine wl_next rfl _ rfl _ rfl ?_) | (with_reducible refine wl_copy rfl _ _ _ _ rfl _ _ rfl rfl ?_) | (with_reducible refine wl_max rfl _ _ _ _ rfl _ _ rfl rfl ?_) | (with_reducible refine wl_min rfl _ _ _ _ rfl _ _ rfl rfl ?_))
    refine (vload_any a ((1 : Nat) : Int) (by omega) (by omega) (by omega) hC8 hAc8).mono ?_
    rintro e w9 ⟨rfl, hk9⟩
    rw [p5, p6]
    have hS9 := hS8.no hA8 hk9
    have hA9 : ∀ k, (w1.heap.size ≤ k ∧ k < w3.heap.size) → k < w9.heap.size := fun k hk => Nat.lt_of_lt_of_le (hA8 k hk) hk9.size
    have hk9' := hk8'.trans' hk9
    clear hS7 hA7 hC7 hAc7 hk8 hk7' hS8 hA8 hC8 hAc8 hk8' hk9
    obtain ⟨hmask, hmask2⟩ := HMX.out
    obtain ⟨hmasky, hmasky2⟩ := HMY.out
    go_wp2_with (first | (at_builtin; refine wl_append rfl _ _ _ _ rfl _ _ rfl rfl ?_) | (at_make; refine wl_make rfl _ _ _ rfl _ _ rfl rfl ?_) | (at_mapUpdate; refine wl_mapUpdate rfl _ _ _ _ rfl _ _ _ rfl rfl rfl ?_) | (at_lookup; refine wl_lookup rfl _ _ _ _ rfl _ _ rfl rfl ?_) | (at_delete; refine wl_delete rfl _ _ _ _ rfl _ _ rfl rfl ?_) | (with_reducible refine wl_len rfl _ _ rfl _ rfl ?_) | (with_reducible refine wl_range rfl _ _ rfl _ rfl ?_) | (with_reducible refine wl_next rfl _ rfl _ rfl ?_) | (with_reducible refine wl_copy rfl _ _ _ _ rfl _ _ rfl rfl ?_) | (with_reducible refine wl_max rfl _ _ _ _ rfl _ _ rfl rfl ?_) | (with_reducible refine wl_min rfl _ _ _ _ rfl _ _ rfl rfl ?_))
    refine (vpeek_any 512 768 (by omega) (by omega) hS9 hA9).mono ?_
    rintro e w10 ⟨bv10, rfl, ho, hk10⟩
    rw [p7]
    rw [p8] at ho
    generalize peekB M1 512 768 = B at *
    obtain ⟨g0, cap, rfl, hg0⟩ : ∃ g0 cap, bv10 = .slice (some ⟨g0, 0, none⟩) 768 cap ∧ w9.heap.size ≤ g0 := by
      rcases ho.2 with ⟨_, e0⟩ | ⟨g, cap, cur, rfl, hb, _⟩
      · omega
      · exact ⟨g, cap, rfl, hb⟩
    go_wp2_with (first | (at_builtin; refine wl_append rfl _ _ _ _ rfl _ _ rfl rfl ?_) | (at_make; refine wl_make rfl _ _ _ rfl _ _ rfl rfl ?_) | (at_mapUpdate; refine wl_mapUpdate rfl _ _ _ _ rfl _ _ _ rfl rfl rfl ?_) | (at_lookup; refine wl_lookup rfl _ _ _ _ rfl _ _ rfl rfl ?_) | (at_delete; refine wl_delete rfl _ _ _ _ rfl _ _ rfl rfl ?_) | (with_reducible refine wl_len rfl _ _ rfl _ rfl ?_) | (with_reducible refine wl_range rfl _ _ rfl _ rfl ?_) | (with_reducible refine wl_next rfl _ rfl _ rfl ?_) | (with_reducible refine wl_copy rfl _ _ _ _ rfl _ _ rfl rfl ?_) | (with_reducible refine wl_max rfl _ _ _ _ rfl _ _ rfl rfl ?_) | (with_reducible refine wl_min rfl _ _ _ _ rfl _ _ rfl rfl ?_))
    clear p1 p2 p5 p6 p7 hmask hmasky hmask2 hmasky2 HMX HMY hm hrem hsum
    go_loopw [22] (fun kv wr => ∃ (k : Nat) (Bk : List UInt8), kv = .int .u64 (k : Int) ∧ k ≤ 768 ∧ Bk.length = 768 ∧ (∀ i, k ≤ i → Bk[i]? = B[i]?) ∧ wr.ownsRow w9.heap.size 5 1 (.slice (some ⟨g0, 0, none⟩) 768 cap) 768 (Bk.map bv) ∧ Keep No w9 wr) (fun kv _ => 768 - (intOf kv).toNat)
    case atStart => exact ⟨0, B, rfl, Nat.zero_le _, p8, fun _ _ => rfl, ho, hk10⟩
    case round =>
      clear ho hk10
      obtain ⟨k, Bk, rfl, hk, hBl, hBe, ho, hkr⟩ := hrel
      rcases Nat.lt_or_ge k 768 with hlt | hge
      · have hkz : (k : Int) < 768 := by omega
        have hBk : Bk[k]? = B[k]? := hBe k (Nat.le_refl _)
        have hkl : k < Bk.length := by omega
        have hc1 : wr.cell? ⟨g0, k, none⟩ = some (bv Bk[k]) := by
          rw [ho.cellAt k (by omega), List.getElem?_map, List.getElem?_eq_getElem hkl]; rfl
        have hfz : wr.frozen? ⟨g0, k, none⟩ = false := ho.frozenAt _
        have ho2 := (ho.stored k (bv 1)).1
        rw [← List.map_set] at ho2
        have hk2 : Keep No w9 (wr.setCell ⟨g0, k, none⟩ (bv 1)) := hkr.new hg0 _
        have hBl2 : (Bk.set k 1).length = 768 := by rw [List.length_set]; exact hBl
        have hBe2 : ∀ i, k + 1 ≤ i → (Bk.set k 1)[i]? = B[i]? := fun i hi => by rw [List.getElem?_set_ne (by omega)]; exact hBe i (by omega)
        have hout : (512 + k < a ∨ a + 1 ≤ 512 + k) → Bk[k] = 0 := fun h => by
          have h1 := p9 k hlt h
          rw [← hBk, List.getElem?_eq_getElem hkl] at h1
          exact Option.some.inj h1
        have hc3 : (512 + k < a ∨ (a ≤ 512 + k ∧ a + 1 ≤ 512 + k)) ∨ (a ≤ 512 + k ∧ 512 + k < a + 1) := by omega
        unfold bv at hc1 ho2 hk2
        generalize Bk[k] = z at *
        clear hBe hBk ho hkr
        have hone : ((1 : UInt8).toNat : Int) = 1 := rfl
        rw [hone] at ho2 hk2
        obtain ⟨q, hq⟩ : ∃ q, q = 512 + k := ⟨_, rfl⟩
        have hqz : (512 : Int) + (k : Int) = (q : Int) := by omega
        rw [← hq] at hout hc3
        have hqb : (q : Int) < 2000 := by omega
        clear hq
        rcases hc3 with (hc | ⟨hc, hc'⟩) | ⟨hc, hc'⟩
        · have hz := hout (.inl hc)
          subst hz
          have i1 : (q : Int) < (a : Int) := by omega
          clear hout
          go_wp2_with (first | (at_builtin; refine wl_append rfl _ _ _ _ rfl _ _ rfl rfl ?_) | (at_make; refine wl_make rfl _ _ _ rfl _ _ rfl rfl ?_) | (at_mapUpdate; refine wl_mapUpdate rfl _ _ _ _ rfl _ _ _ rfl rfl rfl ?_) | (at_lookup; refine wl_lookup rfl _ _ _ _ rfl _ _ rfl rfl ?_) | (at_delete; refine wl_delete rfl _ _ _ _ rfl _ _ rfl rfl ?_) | (with_reducible refine wl_len rfl _ _ rfl _ rfl ?_) | (with_reducible refine wl_range rfl _ _ rfl _ rfl ?_) | (with_reducible refine wl_next rfl _ rfl _ rfl ?_) | (with_reducible refine wl_copy rfl _ _ _ _ rfl _ _ rfl rfl ?_) | (with_reducible refine wl_max rfl _ _ _ _ rfl _ _ rfl rfl ?_) | (with_reducible refine wl_min rfl _ _ _ _ rfl _ _ rfl rfl ?_))
          go_roundw
          case rel => exact ⟨k + 1, _, by go_num, hlt, hBl2, hBe2, ho2, hk2⟩
          case measure => simp [intOf]; omega
        · have hz := hout (.inr hc')
          subst hz
          have i1 : (a : Int) ≤ (q : Int) := by omega
          have i2 : (a : Int) + 1 ≤ (q : Int) := by omega
          clear hout
          go_wp2_with (first | (at_builtin; refine wl_append rfl _ _ _ _ rfl _ _ rfl rfl ?_) | (at_make; refine wl_make rfl _ _ _ rfl _ _ rfl rfl ?_) | (at_mapUpdate; refine wl_mapUpdate rfl _ _ _ _ rfl _ _ _ rfl rfl rfl ?_) | (at_lookup; refine wl_lookup rfl _ _ _ _ rfl _ _ rfl rfl ?_) | (at_delete; refine wl_delete rfl _ _ _ _ rfl _ _ rfl rfl ?_) | (with_reducible refine wl_len rfl _ _ rfl _ rfl ?_) | (with_reducible refine wl_range rfl _ _ rfl _ rfl ?_) | (with_reducible refine wl_next rfl _ rfl _ rfl ?_) | (with_reducible refine wl_copy rfl _ _ _ _ rfl _ _ rfl rfl ?_) | (with_reducible refine wl_max rfl _ _ _ _ rfl _ _ rfl rfl ?_) | (with_reducible refine wl_min rfl _ _ _ _ rfl _ _ rfl rfl ?_))
          go_roundw
          case rel => exact ⟨k + 1, _, by go_num, hlt, hBl2, hBe2, ho2, hk2⟩
          case measure => simp [intOf]; omega
        · have i1 : (a : Int) ≤ (q : Int) := by omega
          have i2 : (q : Int) < (a : Int) + 1 := by omega
          clear hout
          go_wp2_with (first | (at_builtin; refine wl_append rfl _ _ _ _ rfl _ _ rfl rfl ?_) | (at_make; refine wl_make rfl _ _ _ rfl _ _ rfl rfl ?_) | (at_mapUpdate; refine wl_mapUpdate rfl _ _ _ _ rfl _ _ _ rfl rfl rfl ?_) | (at_lookup; refine wl_lookup rfl _ _ _ _ rfl _ _ rfl rfl ?_) | (at_delete; refine wl_delete rfl _ _ _ _ rfl _ _ rfl rfl ?_) | (with_reducible refine wl_len rfl _ _ rfl _ rfl ?_) | (with_reducible refine wl_range rfl _ _ rfl _ rfl ?_) | (with_reducible refine wl_next rfl _ rfl _ rfl ?_) | (with_reducible refine wl_copy rfl _ _ _ _ rfl _ _ rfl rfl ?_) | (with_reducible refine wl_max rfl _ _ _ _ rfl _ _ rfl rfl ?_) | (with_reducible refine wl_min rfl _ _ _ _ rfl _ _ rfl rfl ?_))
          go_roundw
          case rel => exact ⟨k + 1, _, by go_num, hlt, hBl2, hBe2, ho2, hk2⟩
          case measure => simp [intOf]; omega
      · obtain rfl : k = 768 := Nat.le_antisymm hk hge
        have hS10 := hS9.no hA9 hkr
        have hA10 : ∀ k, (w1.heap.size ≤ k ∧ k < w3.heap.size) → k < wr.heap.size := fun k hk => Nat.lt_of_lt_of_le (hA9 k hk) hkr.size
        have hkk := hk9'.trans' hkr
        clear ho hBe hS9 hA9
        go_wp2_with (first | (at_builtin; refine wl_append rfl _ _ _ _ rfl _ _ rfl rfl ?_) | (at_make; refine wl_make rfl _ _ _ rfl _ _ rfl rfl ?_) | (at_mapUpdate; refine wl_mapUpdate rfl _ _ _ _ rfl _ _ _ rfl rfl rfl ?_) | (at_lookup; refine wl_lookup rfl _ _ _ _ rfl _ _ rfl rfl ?_) | (at_delete; refine wl_delete rfl _ _ _ _ rfl _ _ rfl rfl ?_) | (with_reducible refine wl_len rfl _ _ rfl _ rfl ?_) | (with_reducible refine wl_range rfl _ _ rfl _ rfl ?_) | (with_reducible refine wl_next rfl _ rfl _ rfl ?_) | (with_reducible refine wl_copy rfl _ _ _ _ rfl _ _ rfl rfl ?_) | (with_reducible refine wl_max rfl _ _ _ _ rfl _ _ rfl rfl ?_) | (with_reducible refine wl_min rfl _ _ _ _ rfl _ _ rfl rfl ?_))
        refine (vpages_any hS10 hA10 (by rw [p10]; omega)).mono ?_
        rintro e w11 ⟨v, g, rfl, hP, hk11⟩
        obtain ⟨av, cv, rfl, _, _⟩ := hP.row.fl.shape
        rw [p10] at hP ⊢
        have hS11 := hS10.no hA10 hk11
        have hA11 : ∀ k, (w1.heap.size ≤ k ∧ k < w3.heap.size) → k < w11.heap.size := fun k hk => Nat.lt_of_lt_of_le (hA10 k hk) hk11.size
        have hkk11 := hkk.trans' hk11
        have hrow := hP.row
        have hpg : ∀ p ∈ M1, wr.heap.size ≤ g p.addr ∧ ∃ C, Blk w11 (g p.addr) C 67 ∧ C.size = 260 := fun p hp => ⟨(hP.pg p hp).1, _, (hP.pg p hp).2, pgC_size (hS11.ok.pg p hp).bl⟩
        clear hP
        generalize wr = wz at *
        go_wp2_with (first | (at_builtin; refine wl_append rfl _ _ _ _ rfl _ _ rfl rfl ?_) | (at_make; refine wl_make rfl _ _ _ rfl _ _ rfl rfl ?_) | (at_mapUpdate; refine wl_mapUpdate rfl _ _ _ _ rfl _ _ _ rfl rfl rfl ?_) | (at_lookup; refine wl_lookup rfl _ _ _ _ rfl _ _ rfl rfl ?_) | (at_delete; refine wl_delete rfl _ _ _ _ rfl _ _ rfl rfl ?_) | (with_reducible refine wl_len rfl _ _ rfl _ rfl ?_) | (with_reducible refine wl_range rfl _ _ rfl _ rfl ?_) | (with_reducible refine wl_next rfl _ rfl _ rfl ?_) | (with_reducible refine wl_copy rfl _ _ _ _ rfl _ _ rfl rfl ?_) | (with_reducible refine wl_max rfl _ _ _ _ rfl _ _ rfl rfl ?_) | (with_reducible refine wl_min rfl _ _ _ _ rfl _ _ rfl rfl ?_))
        go_loopw [24] (fun iv wr => ∃ i : Nat, iv = .int .i64 i ∧ i ≤ 3 ∧ FlO wr wz.heap.size 27 6 (encP g) (.slice av 3 cv) M1 ∧ (∀ p ∈ M1, wz.heap.size ≤ g p.addr ∧ ∃ C, Blk wr (g p.addr) C 67 ∧ C.size = 260) ∧ Keep No wz wr) (fun iv _ => 3 - (intOf iv).toNat)
        case atStart => exact ⟨0, rfl, Nat.zero_le _, hrow, hpg, hk11⟩
        case round =>
          clear hrow hpg hk11 hS11 hA11 hkk11
          obtain ⟨i, rfl, hi, hrow, hpg, hkq⟩ := hrel
          rcases Nat.lt_or_ge i 3 with hlt | hge
          · have hil : i < M1.length := by omega
            obtain ⟨g1, off1, cap1, e1, _, hg1, _, _, hc⟩ := hrow.fl.at (encP_len g) hil
            have hav : av = some ⟨g1, off1, none⟩ := (Value.slice.inj e1).1
            subst hav
            have hb5 : wr.cell? ⟨g1, off1 + i * 6 + 5, none⟩ = some (.slice (some ⟨g M1[i].addr, 4, none⟩) 256 256) := hc 5 _ rfl
            obtain ⟨hgb, C, hB, hCs⟩ := hpg M1[i] (List.getElem_mem hil)
            have hc4 : wr.cell? ⟨g M1[i].addr, 4, none⟩ = some C[4] := by rw [hB.cell]; exact Array.getElem?_eq_getElem (by omega)
            have hf4 : wr.frozen? ⟨g M1[i].addr, 4, none⟩ = false := hB.frozen 4
            have hkS : Keep (fun j => j = g M1[i].addr) wr (wr.setCell ⟨g M1[i].addr, 4, none⟩ (.int .u8 9)) := (Keep.refl (fun j => j = g M1[i].addr) wr).setCell (p := ⟨g M1[i].addr, 4, none⟩) (fun _ => rfl) _
            have hpg2 : ∀ p ∈ M1, wz.heap.size ≤ g p.addr ∧ ∃ C, Blk (wr.setCell ⟨g M1[i].addr, 4, none⟩ (.int .u8 9)) (g p.addr) C 67 ∧ C.size = 260 := fun p hp => by
              obtain ⟨h1, C', hB', hC'⟩ := hpg p hp
              refine ⟨h1, ?_⟩
              by_cases e : g p.addr = g M1[i].addr
              · rw [e]
                exact ⟨_, hB.set (i := 4) (.int .u8 9), by rw [Array.size_setIfInBounds]; exact hCs⟩
              · exact ⟨C', hB'.keep hkS e, hC'⟩
            have hrow2 : FlO (wr.setCell ⟨g M1[i].addr, 4, none⟩ (.int .u8 9)) wz.heap.size 27 6 (encP g) (.slice (some ⟨g1, off1, none⟩) 3 cv) M1 := hrow.same fun b hb => hkS.block b (World.ownsRow.lt hrow b hb).2 fun e => by
              have e2 : b = g M1[i].addr := e
              rcases hrow.2 with ⟨e3, _⟩ | ⟨g9, cap9, cur9, e3, _, hB9, _⟩
              · cases e3
              · rw [e3] at hb
                simp only [Value.ownBlock, Option.some.injEq] at hb
                have hB' : wr.heap[b]? = some (Obj.cells C 67 (0, 0)) := by rw [e2]; exact hB
                rw [hb, hB'] at hB9
                simp at hB9
            have hk2 : Keep No wz (wr.setCell ⟨g M1[i].addr, 4, none⟩ (.int .u8 9)) := hkq.new hgb _
            clear hkS hpg hrow hB hc
            generalize g M1[i].addr = nb at *
            generalize C[4] = u4 at *
            have hiz : (i : Int) < 3 := by omega
            go_wp2_with (first | (at_builtin; refine wl_append rfl _ _ _ _ rfl _ _ rfl rfl ?_) | (at_make; refine wl_make rfl _ _ _ rfl _ _ rfl rfl ?_) | (at_mapUpdate; refine wl_mapUpdate rfl _ _ _ _ rfl _ _ _ rfl rfl rfl ?_) | (at_lookup; refine wl_lookup rfl _ _ _ _ rfl _ _ rfl rfl ?_) | (at_delete; refine wl_delete rfl _ _ _ _ rfl _ _ rfl rfl ?_) | (with_reducible refine wl_len rfl _ _ rfl _ rfl ?_) | (with_reducible refine wl_range rfl _ _ rfl _ rfl ?_) | (with_reducible refine wl_next rfl _ rfl _ rfl ?_) | (with_reducible refine wl_copy rfl _ _ _ _ rfl _ _ rfl rfl ?_) | (with_reducible refine wl_max rfl _ _ _ _ rfl _ _ rfl rfl ?_) | (with_reducible refine wl_min rfl _ _ _ _ rfl _ _ rfl rfl ?_))
            go_roundw
            case rel => exact ⟨i + 1, by go_num, hlt, hrow2, hpg2, hk2⟩
            case measure => simp [intOf]; omega
          · obtain rfl : i = 3 := Nat.le_antisymm hi hge
            have hS12 := hS10.no hA10 hkq
            have hA12 : ∀ k, (w1.heap.size ≤ k ∧ k < w3.heap.size) → k < wr.heap.size := fun k hk => Nat.lt_of_lt_of_le (hA10 k hk) hkq.size
            go_wp2_with (first | (at_builtin; refine wl_append rfl _ _ _ _ rfl _ _ rfl rfl ?_) | (at_make; refine wl_make rfl _ _ _ rfl _ _ rfl rfl ?_) | (at_mapUpdate; refine wl_mapUpdate rfl _ _ _ _ rfl _ _ _ rfl rfl rfl ?_) | (at_lookup; refine wl_lookup rfl _ _ _ _ rfl _ _ rfl rfl ?_) | (at_delete; refine wl_delete rfl _ _ _ _ rfl _ _ rfl rfl ?_) | (with_reducible refine wl_len rfl _ _ rfl _ rfl ?_) | (with_reducible refine wl_range rfl _ _ rfl _ rfl ?_) | (with_reducible refine wl_next rfl _ rfl _ rfl ?_) | (with_reducible refine wl_copy rfl _ _ _ _ rfl _ _ rfl rfl ?_) | (with_reducible refine wl_max rfl _ _ _ _ rfl _ _ rfl rfl ?_) | (with_reducible refine wl_min rfl _ _ _ _ rfl _ _ rfl rfl ?_))
            refine (vload_any a ((1 : Nat) : Int) (by omega) (by omega) (by omega) hS12 hA12).mono ?_
            rintro e w13 ⟨rfl, hk13⟩
            rw [p3, p4]
            go_wp2_with (first | (at_builtin; refine wl_append rfl _ _ _ _ rfl _ _ rfl rfl ?_) | (at_make; refine wl_make rfl _ _ _ rfl _ _ rfl rfl ?_) | (at_mapUpdate; refine wl_mapUpdate rfl _ _ _ _ rfl _ _ _ rfl rfl rfl ?_) | (at_lookup; refine wl_lookup rfl _ _ _ _ rfl _ _ rfl rfl ?_) | (at_delete; refine wl_delete rfl _ _ _ _ rfl _ _ rfl rfl ?_) | (with_reducible refine wl_len rfl _ _ rfl _ rfl ?_) | (with_reducible refine wl_range rfl _ _ rfl _ rfl ?_) | (with_reducible refine wl_next rfl _ rfl _ rfl ?_) | (with_reducible refine wl_copy rfl _ _ _ _ rfl _ _ rfl rfl ?_) | (with_reducible refine wl_max rfl _ _ _ _ rfl _ _ rfl rfl ?_) | (with_reducible refine wl_min rfl _ _ _ _ rfl _ _ rfl rfl ?_))
            go_ret
            exact ⟨rfl, hK1.trans' ((hkk.trans' hkq).trans' hk13)⟩
  · skip
    have HMX : Hid ((x : Int) % 65536 = ((x % 256 ^ 2 : Nat) : Int) ∧ bits .and .u64 (x : Int) 65535 = ((x % 256 ^ 2 : Nat) : Int)) := Lib.hid ⟨by omega, by have h := u64_and_nat x 65535 hx (by decide); rw [show x &&& 65535 = x % 256 ^ 2 from Nat.and_two_pow_sub_one_eq_mod x 16] at h; exact h⟩
    have HMY : Hid ((y : Int) % 65536 = ((y % 256 ^ 2 : Nat) : Int) ∧ bits .and .u64 (y : Int) 65535 = ((y % 256 ^ 2 : Nat) : Int)) := Lib.hid ⟨by omega, by have h := u64_and_nat y 65535 hy (by decide); rw [show y &&& 65535 = y % 256 ^ 2 from Nat.and_two_pow_sub_one_eq_mod y 16] at h; exact h⟩
    have hm : bits .and .i64 which 3 = 1 := hmk
    obtain ⟨p1, p2, p3, p4, p5, p6, p7, p8, p9, p10⟩ := keeps_plain hok a 2 x y (by omega) ha1 (by omega)
    clear hmk
    go_wp2_with (first | (at_builtin; refine wl_append rfl _ _ _ _ rfl _ _ rfl rfl ?_) | (at_make; refine wl_make rfl _ _ _ rfl _ _ rfl rfl ?_) | (at_mapUpdate; refine wl_mapUpdate rfl _ _ _ _ rfl _ _ _ rfl rfl rfl ?_) | (at_lookup; refine wl_lookup rfl _ _ _ _ rfl _ _ rfl rfl ?_) | (at_delete; refine wl_delete rfl _ _ _ _ rfl _ _ rfl rfl ?_) | (with_reducible refine wl_len rfl _ _ rfl _ rfl ?_) | (with_reducible refine wl_range rfl _ _ rfl _ rfl ?_) | (with_reducible refine wl_next rfl _ rfl _ rfl ?_) | (with_reducible refine wl_copy rfl _ _ _ _ rfl _ _ rfl rfl ?_) | (with_reducible refine wl_max rfl _ _ _ _ rfl _ _ rfl rfl ?_) | (with_reducible refine wl_min rfl _ _ _ _ rfl _ _ rfl rfl ?_))
    have hS4 := HS4.out
    have hK4 := HK4.out
    have hz4 := HZ4.out
    generalize w3.alloc (.cells #[.int .i64 1, .int .i64 2, .int .i64 4, .int .i64 8] 3) = w4 at *
    have hA4 : ∀ k, (w1.heap.size ≤ k ∧ k < w3.heap.size) → k < w4.heap.size := fun k hk => by omega
    refine (vstore_any a ((2 : Nat) : Int) x (by omega) hx (by omega) (by omega) hS4 hA4).mono ?_
    rintro e w5 ⟨rfl, hS5, hk5⟩
    rw [p1]
    have hk5' := hK4.trans hk5 (fun j hj ha => absurd ha.1 (Nat.not_le.2 hj))
    have hA5 : ∀ k, (w1.heap.size ≤ k ∧ k < w3.heap.size) → k < w5.heap.size := fun k hk => Nat.lt_of_lt_of_le (hA4 k hk) hk5.size
    clear hS4 hK4 hz4 hA4 hk5 HS4 HK4 HZ4 hok
    generalize storeV kpM a ((2 : Nat) : Int) x = M1 at *
    go_wp2_with (first | (at_builtin; refine wl_append rfl _ _ _ _ rfl _ _ rfl rfl ?_) | (at_make; refine wl_make rfl _ _ _ rfl _ _ rfl rfl ?_) | (at_mapUpdate; refine wl_mapUpdate rfl _ _ _ _ rfl _ _ _ rfl rfl rfl ?_) | (at_lookup; refine wl_lookup rfl _ _ _ _ rfl _ _ rfl rfl ?_) | (at_delete; refine wl_delete rfl _ _ _ _ rfl _ _ rfl rfl ?_) | (with_reducible refine wl_len rfl _ _ rfl _ rfl ?_) | (with_reducible refine wl_range rfl _ _ rfl _ rfl ?_) | (with_reducible refine wl_next rfl _ rfl _ rfl ?_) | (with_reducible refine wl_copy rfl _ _ _ _ rfl _ _ rfl rfl ?_) | (with_reducible refine wl_max rfl _ _ _ _ rfl _ _ rfl rfl ?_) | (with_reducible refine wl_min rfl _ _ _ _ rfl _ _ rfl rfl ?_))
    refine (vcopy_any hS5 hA5).mono ?_
    rintro e w6 ⟨dc, mbc, fc, rfl, hC6, hk6⟩
    have hS6 := hS5.no hA5 hk6
    have hA6 : ∀ k, (w1.heap.size ≤ k ∧ k < w3.heap.size) → k < w6.heap.size := fun k hk => Nat.lt_of_lt_of_le (hA5 k hk) hk6.size
    have hk6' := hk5'.trans' hk6
    unfold ptrTo
    go_wp2_with (first | (at_builtin; refine wl_append rfl _ _ _ _ rfl _ _ rfl rfl ?_) | (at_make; refine wl_make rfl _ _ _ rfl _ _ rfl rfl ?_) | (at_mapUpdate; refine wl_mapUpdate rfl _ _ _ _ rfl _ _ _ rfl rfl rfl ?_) | (at_lookup; refine wl_lookup rfl _ _ _ _ rfl _ _ rfl rfl ?_) | (at_delete; refine wl_delete rfl _ _ _ _ rfl _ _ rfl rfl ?_) | (with_reducible refine wl_len rfl _ _ rfl _ rfl ?_) | (with_reducible refine wl_range rfl _ _ rfl _ rfl ?_) | (with_reducible refine wl_next rfl _ rfl _ rfl ?_) | (with_reducible refine wl_copy rfl _ _ _ _ rfl _ _ rfl rfl ?_) | (with_reducible refine wl_max rfl _ _ _ _ rfl _ _ rfl rfl ?_) | (with_reducible refine wl_min rfl _ _ _ _ rfl _ _ rfl rfl ?_))
    refine (vstore_any a ((2 : Nat) : Int) y (by omega) hy (by omega) (by omega) hC6 (fun k hk => hk.2)).mono ?_
    rintro e w7 ⟨rfl, hC7, hk7⟩
    rw [p2]
    have hw15 : w1.heap.size ≤ w5.heap.size := hk5'.size
    have hk7' : Keep No w1 w7 := hk6'.trans hk7 (fun j hj ha => absurd ha.1 (Nat.not_le.2 (Nat.lt_of_lt_of_le hj hw15)))
    have hS7 := hS6.keep hk7 (fun k hk hc => absurd hc.1 (Nat.not_le.2 (hA5 k hk))) hA6
    have hA7 : ∀ k, (w1.heap.size ≤ k ∧ k < w3.heap.size) → k < w7.heap.size := fun k hk => Nat.lt_of_lt_of_le (hA6 k hk) hk7.size
    have hAc7 : ∀ k, (w5.heap.size ≤ k ∧ k < w6.heap.size) → k < w7.heap.size := fun k hk => Nat.lt_of_lt_of_le hk.2 hk7.size
    clear hS5 hA5 hk5' hS6 hA6 hk6 hk6' hC6 hk7
    generalize storeV M1 a ((2 : Nat) : Int) y = M2 at *
    generalize x % 256 ^ 2 = xm at *
    generalize y % 256 ^ 2 = ym at *
    go_wp2_with (first | (at_builtin; refine wl_append rfl _ _ _ _ rfl _ _ rfl rfl ?_) | (at_make; refine wl_make rfl _ _ _ rfl _ _ rfl rfl ?_) | (at_mapUpdate; refine wl_mapUpdate rfl _ _ _ _ rfl _ _ _ rfl rfl rfl ?_) | (at_lookup; refine wl_lookup rfl _ _ _ _ rfl _ _ rfl rfl ?_) | (at_delete; refine wl_delete rfl _ _ _ _ rfl _ _ rfl rfl ?_) | (with_reducible refine wl_len rfl _ _ rfl _ rfl ?_) | (with_reducible refine wl_range rfl _ _ rfl _ rfl ?_) | (with_reducible refine wl_next rfl _ rfl _ rfl ?_) | (with_reducible refine wl_copy rfl _ _ _ _ rfl _ _ rfl rfl ?_) | (with_reducible refine wl_max rfl _ _ _ _ rfl _ _ rfl rfl ?_) | (with_reducible refine wl_min rfl _ _ _ _ rfl _ _ rfl rfl ?_))
    refine (vload_any a ((2 : Nat) : Int) (by omega) (by omega) (by omega) hS7 hA7).mono ?_
    rintro e w8 ⟨rfl, hk8⟩
    rw [p3, p4]
    have hS8 := hS7.no hA7 hk8
    have hA8 : ∀ k, (w1.heap.size ≤ k ∧ k < w3.heap.size) → k < w8.heap.size := fun k hk => Nat.lt_of_lt_of_le (hA7 k hk) hk8.size
    have hC8 := hC7.no hAc7 hk8
    have hk8' := hk7'.trans' hk8
    have hAc8 : ∀ k, (w5.heap.size ≤ k ∧ k < w6.heap.size) → k < w8.heap.size := fun k hk => Nat.lt_of_lt_of_le (hAc7 k hk) hk8.size
    go_wp2_with (first | (at_builtin; refine wl_append rfl _ _ _ _ rfl _ _ rfl rfl ?_) | (at_make; refine wl_make rfl _ _ _ rfl _ _ rfl rfl ?_) | (at_mapUpdate; refine wl_mapUpdate rfl _ _ _ _ rfl _ _ _ rfl rfl rfl ?_) | (at_lookup; refine wl_lookup rfl _ _ _ _ rfl _ _ rfl rfl ?_) | (at_delete; refine wl_delete rfl _ _ _ _ rfl _ _ rfl rfl ?_) | (with_reducible refine wl_len rfl _ _ rfl _ rfl ?_) | (with_reducible refine wl_range rfl _ _ rfl _ rfl ?_) | (with_reducible refine wl_next rfl _ rfl _ rfl ?_) | (with_reducible refine wl_copy rfl _ _ _ _ rfl _ _ rfl rfl ?_) | (with_reducible refine wl_max rfl _ _ _ _ rfl _ _ rfl rfl ?_) | (with_reducible refine wl_min rfl _ _ _ _ rfl _ _ rfl rfl ?_))
    refine (vload_any a ((2 : Nat) : Int) (by omega) (by omega) (by omega) hC8 hAc8).mono ?_
    rintro e w9 ⟨rfl, hk9⟩
    rw [p5, p6]
    have hS9 := hS8.no hA8 hk9
    have hA9 : ∀ k, (w1.heap.size ≤ k ∧ k < w3.heap.size) → k < w9.heap.size := fun k hk => Nat.lt_of_lt_of_le (hA8 k hk) hk9.size
    have hk9' := hk8'.trans' hk9
    clear hS7 hA7 hC7 hAc7 hk8 hk7' hS8 hA8 hC8 hAc8 hk8' hk9
    obtain ⟨hmask, hmask2⟩ := HMX.out
    obtain ⟨hmasky, hmasky2⟩ := HMY.out
    go_wp2_with (first | (at_builtin; refine wl_append rfl _ _ _ _ rfl _ _ rfl rfl ?_) | (at_make; refine wl_make rfl _ _ _ rfl _ _ rfl rfl ?_) | (at_mapUpdate; refine wl_mapUpdate rfl _ _ _ _ rfl _ _ _ rfl rfl rfl ?_) | (at_lookup; refine wl_lookup rfl _ _ _ _ rfl _ _ rfl rfl ?_) | (at_delete; refine wl_delete rfl _ _ _ _ rfl _ _ rfl rfl ?_) | (with_reducible refine wl_len rfl _ _ rfl _ rfl ?_) | (with_reducible refine wl_range rfl _ _ rfl _ rfl ?_) | (with_reducible refine wl_next rfl _ rfl _ rfl ?_) | (with_reducible refine wl_copy rfl _ _ _ _ rfl _ _ rfl rfl ?_) | (with_reducible refine wl_max rfl _ _ _ _ rfl _ _ rfl rfl ?_) | (with_reducible refine wl_min rfl _ _ _ _ rfl _ _ rfl rfl ?_))
    refine (vpeek_any 512 768 (by omega) (by omega) hS9 hA9).mono ?_
    rintro e w10 ⟨bv10, rfl, ho, hk10⟩
    rw [p7]
    rw [p8] at ho
    generalize peekB M1 512 768 = B at *
    obtain ⟨g0, cap, rfl, hg0⟩ : ∃ g0 cap, bv10 = .slice (some ⟨g0, 0, none⟩) 768 cap ∧ w9.heap.size ≤ g0 := by
      rcases ho.2 with ⟨_, e0⟩ | ⟨g, cap, cur, rfl, hb, _⟩
      · omega
      · exact ⟨g, cap, rfl, hb⟩
    go_wp2_with (first | (at_builtin; refine wl_append rfl _ _ _ _ rfl _ _ rfl rfl ?_) | (at_make; refine wl_make rfl _ _ _ rfl _ _ rfl rfl ?_) | (at_mapUpdate; refine wl_mapUpdate rfl _ _ _ _ rfl _ _ _ rfl rfl rfl ?_) | (at_lookup; refine wl_lookup rfl _ _ _ _ rfl _ _ rfl rfl ?_) | (at_delete; refine wl_delete rfl _ _ _ _ rfl _ _ rfl rfl ?_) | (with_reducible refine wl_len rfl _ _ rfl _ rfl ?_) | (with_reducible refine wl_range rfl _ _ rfl _ rfl ?_) | (with_reducible refine wl_next rfl _ rfl _ rfl ?_) | (with_reducible refine wl_copy rfl _ _ _ _ rfl _ _ rfl rfl ?_) | (with_reducible refine wl_max rfl _ _ _ _ rfl _ _ rfl rfl ?_) | (with_reducible refine wl_min rfl _ _ _ _ rfl _ _ rfl rfl ?_))
    clear p1 p2 p5 p6 p7 hmask hmasky hmask2 hmasky2 HMX HMY hm hrem hsum
    go_loopw [22] (fun kv wr => ∃ (k : Nat) (Bk : List UInt8), kv = .int .u64 (k : Int) ∧ k ≤ 768 ∧ Bk.length = 768 ∧ (∀ i, k ≤ i → Bk[i]? = B[i]?) ∧ wr.ownsRow w9.heap.size 5 1 (.slice (some ⟨g0, 0, none⟩) 768 cap) 768 (Bk.map bv) ∧ Keep No w9 wr) (fun kv _ => 768 - (intOf kv).toNat)
    case atStart => exact ⟨0, B, rfl, Nat.zero_le _, p8, fun _ _ => rfl, ho, hk10⟩
    case round =>
      clear ho hk10
      obtain ⟨k, Bk, rfl, hk, hBl, hBe, ho, hkr⟩ := hrel
      rcases Nat.lt_or_ge k 768 with hlt | hge
      · have hkz : (k : Int) < 768 := by omega
        have hBk : Bk[k]? = B[k]? := hBe k (Nat.le_refl _)
        have hkl : k < Bk.length := by omega
        have hc1 : wr.cell? ⟨g0, k, none⟩ = some (bv Bk[k]) := by
          rw [ho.cellAt k (by omega), List.getElem?_map, List.getElem?_eq_getElem hkl]; rfl
        have hfz : wr.frozen? ⟨g0, k, none⟩ = false := ho.frozenAt _
        have ho2 := (ho.stored k (bv 1)).1
        rw [← List.map_set] at ho2
        have hk2 : Keep No w9 (wr.setCell ⟨g0, k, none⟩ (bv 1)) := hkr.new hg0 _
        have hBl2 : (Bk.set k 1).length = 768 := by rw [List.length_set]; exact hBl
        have hBe2 : ∀ i, k + 1 ≤ i → (Bk.set k 1)[i]? = B[i]? := fun i hi => by rw [List.getElem?_set_ne (by omega)]; exact hBe i (by omega)
        have hout : (512 + k < a ∨ a + 2 ≤ 512 + k) → Bk[k] = 0 := fun h => by
          have h1 := p9 k hlt h
          rw [← hBk, List.getElem?_eq_getElem hkl] at h1
          exact Option.some.inj h1
        have hc3 : (512 + k < a ∨ (a ≤ 512 + k ∧ a + 2 ≤ 512 + k)) ∨ (a ≤ 512 + k ∧ 512 + k < a + 2) := by omega
        unfold bv at hc1 ho2 hk2
        generalize Bk[k] = z at *
        clear hBe hBk ho hkr
        have hone : ((1 : UInt8).toNat : Int) = 1 := rfl
        rw [hone] at ho2 hk2
        obtain ⟨q, hq⟩ : ∃ q, q = 512 + k := ⟨_, rfl⟩
        have hqz : (512 : Int) + (k : Int) = (q : Int) := by omega
        rw [← hq] at hout hc3
        have hqb : (q : Int) < 2000 := by omega
        clear hq
        rcases hc3 with (hc | ⟨hc, hc'⟩) | ⟨hc, hc'⟩
        · have hz := hout (.inl hc)
          subst hz
          have i1 : (q : Int) < (a : Int) := by omega
          clear hout
          go_wp2_with (first | (at_builtin; refine wl_append rfl _ _ _ _ rfl _ _ rfl rfl ?_) | (at_make; refine wl_make rfl _ _ _ rfl _ _ rfl rfl ?_) | (at_mapUpdate; refine wl_mapUpdate rfl _ _ _ _ rfl _ _ _ rfl rfl rfl ?_) | (at_lookup; refine wl_lookup rfl _ _ _ _ rfl _ _ rfl rfl ?_) | (at_delete; refine wl_delete rfl _ _ _ _ rfl _ _ rfl rfl ?_) | (with_reducible refine wl_len rfl _ _ rfl _ rfl ?_) | (with_reducible refine wl_range rfl _ _ rfl _ rfl ?_) | (with_reducible refine wl_next rfl _ rfl _ rfl ?_) | (with_reducible refine wl_copy rfl _ _ _ _ rfl _ _ rfl rfl ?_) | (with_reducible refine wl_max rfl _ _ _ _ rfl _ _ rfl rfl ?_) | (with_reducible refine wl_min rfl _ _ _ _ rfl _ _ rfl rfl ?_))
          go_roundw
          case rel => exact ⟨k + 1, _, by go_num, hlt, hBl2, hBe2, ho2, hk2⟩
          case measure => simp [intOf]; omega
        · have hz := hout (.inr hc')
          subst hz
          have i1 : (a : Int) ≤ (q : Int) := by omega
          have i2 : (a : Int) + 2 ≤ (q : Int) := by omega
          clear hout
          go_wp2_with (first | (at_builtin; refine wl_append rfl _ _ _ _ rfl _ _ rfl rfl ?_) | (at_make; refine wl_make rfl _ _ _ rfl _ _ rfl rfl ?_) | (at_mapUpdate; refine wl_mapUpdate rfl _ _ _ _ rfl _ _ _ rfl rfl rfl ?_) | (at_lookup; refine wl_lookup rfl _ _ _ _ rfl _ _ rfl rfl ?_) | (at_delete; refine wl_delete rfl _ _ _ _ rfl _ _ rfl rfl ?_) | (with_reducible refine wl_len rfl _ _ rfl _ rfl ?_) | (with_reducible refine wl_range rfl _ _ rfl _ rfl ?_) | (with_reducible refine wl_next rfl _ rfl _ rfl ?_) | (with_reducible refine wl_copy rfl _ _ _ _ rfl _ _ rfl rfl ?_) | (with_reducible refine wl_max rfl _ _ _ _ rfl _ _ rfl rfl ?_) | (with_reducible refine wl_min rfl _ _ _ _ rfl _ _ rfl rfl ?_))
          go_roundw
          case rel => exact ⟨k + 1, _, by go_num, hlt, hBl2, hBe2, ho2, hk2⟩
          case measure => simp [intOf]; omega
        · have i1 : (a : Int) ≤ (q : Int) := by omega
          have i2 : (q : Int) < (a : Int) + 2 := by omega
          clear hout
          go_wp2_with (first | (at_builtin; refine wl_append rfl _ _ _ _ rfl _ _ rfl rfl ?_) | (at_make; refine wl_make rfl _ _ _ rfl _ _ rfl rfl ?_) | (at_mapUpdate; refine wl_mapUpdate rfl _ _ _ _ rfl _ _ _ rfl rfl rfl ?_) | (at_lookup; refine wl_lookup rfl _ _ _ _ rfl _ _ rfl rfl ?_) | (at_delete; refine wl_delete rfl _ _ _ _ rfl _ _ rfl rfl ?_) | (with_reducible refine wl_len rfl _ _ rfl _ rfl ?_) | (with_reducible refine wl_range rfl _ _ rfl _ rfl ?_) | (with_reducible refine wl_next rfl _ rfl _ rfl ?_) | (with_reducible refine wl_copy rfl _ _ _ _ rfl _ _ rfl rfl ?_) | (with_reducible refine wl_max rfl _ _ _ _ rfl _ _ rfl rfl ?_) | (with_reducible refine wl_min rfl _ _ _ _ rfl _ _ rfl rfl ?_))
          go_roundw
          case rel => exact ⟨k + 1, _, by go_num, hlt, hBl2, hBe2, ho2, hk2⟩
          case measure => simp [intOf]; omega
      · obtain rfl : k = 768 := Nat.le_antisymm hk hge
        have hS10 := hS9.no hA9 hkr
        have hA10 : ∀ k, (w1.heap.size ≤ k ∧ k < w3.heap.size) → k < wr.heap.size := fun k hk => Nat.lt_of_lt_of_le (hA9 k hk) hkr.size
        have hkk := hk9'.trans' hkr
        clear ho hBe hS9 hA9
        go_wp2_with (first | (at_builtin; refine wl_append rfl _ _ _ _ rfl _ _ rfl rfl ?_) | (at_make; refine wl_make rfl _ _ _ rfl _ _ rfl rfl ?_) | (at_mapUpdate; refine wl_mapUpdate rfl _ _ _ _ rfl _ _ _ rfl rfl rfl ?_) | (at_lookup; refine wl_lookup rfl _ _ _ _ rfl _ _ rfl rfl ?_) | (at_delete; refine wl_delete rfl _ _ _ _ rfl _ _ rfl rfl ?_) | (with_reducible refine wl_len rfl _ _ rfl _ rfl ?_) | (with_reducible refine wl_range rfl _ _ rfl _ rfl ?_) | (with_reducible refine wl_next rfl _ rfl _ rfl ?_) | (with_reducible refine wl_copy rfl _ _ _ _ rfl _ _ rfl rfl ?_) | (with_reducible refine wl_max rfl _ _ _ _ rfl _ _ rfl rfl ?_) | (with_reducible refine wl_min rfl _ _ _ _ rfl _ _ rfl rfl ?_))
        refine (vpages_any hS10 hA10 (by rw [p10]; omega)).mono ?_
        rintro e w11 ⟨v, g, rfl, hP, hk11⟩
        obtain ⟨av, cv, rfl, _, _⟩ := hP.row.fl.shape
        rw [p10] at hP ⊢
        have hS11 := hS10.no hA10 hk11
        have hA11 : ∀ k, (w1.heap.size ≤ k ∧ k < w3.heap.size) → k < w11.heap.size := fun k hk => Nat.lt_of_lt_of_le (hA10 k hk) hk11.size
        have hkk11 := hkk.trans' hk11
        have hrow := hP.row
        have hpg : ∀ p ∈ M1, wr.heap.size ≤ g p.addr ∧ ∃ C, Blk w11 (g p.addr) C 67 ∧ C.size = 260 := fun p hp => ⟨(hP.pg p hp).1, _, (hP.pg p hp).2, pgC_size (hS11.ok.pg p hp).bl⟩
        clear hP
        generalize wr = wz at *
        go_wp2_with (first | (at_builtin; refine wl_append rfl _ _ _ _ rfl _ _ rfl rfl ?_) | (at_make; refine wl_make rfl _ _ _ rfl _ _ rfl rfl ?_) | (at_mapUpdate; refine wl_mapUpdate rfl _ _ _ _ rfl _ _ _ rfl rfl rfl ?_) | (at_lookup; refine wl_lookup rfl _ _ _ _ rfl _ _ rfl rfl ?_) | (at_delete; refine wl_delete rfl _ _ _ _ rfl _ _ rfl rfl ?_) | (with_reducible refine wl_len rfl _ _ rfl _ rfl ?_) | (with_reducible refine wl_range rfl _ _ rfl _ rfl ?_) | (with_reducible refine wl_next rfl _ rfl _ rfl ?_) | (with_reducible refine wl_copy rfl _ _ _ _ rfl _ _ rfl rfl ?_) | (with_reducible refine wl_max rfl _ _ _ _ rfl _ _ rfl rfl ?_) | (with_reducible refine wl_min rfl _ _ _ _ rfl _ _ rfl rfl ?_))
        go_loopw [24] (fun iv wr => ∃ i : Nat, iv = .int .i64 i ∧ i ≤ 3 ∧ FlO wr wz.heap.size 27 6 (encP g) (.slice av 3 cv) M1 ∧ (∀ p ∈ M1, wz.heap.size ≤ g p.addr ∧ ∃ C, Blk wr (g p.addr) C 67 ∧ C.size = 260) ∧ Keep No wz wr) (fun iv _ => 3 - (intOf iv).toNat)
        case atStart => exact ⟨0, rfl, Nat.zero_le _, hrow, hpg, hk11⟩
        case round =>
          clear hrow hpg hk11 hS11 hA11 hkk11
          obtain ⟨i, rfl, hi, hrow, hpg, hkq⟩ := hrel
          rcases Nat.lt_or_ge i 3 with hlt | hge
          · have hil : i < M1.length := by omega
            obtain ⟨g1, off1, cap1, e1, _, hg1, _, _, hc⟩ := hrow.fl.at (encP_len g) hil
            have hav : av = some ⟨g1, off1, none⟩ := (Value.slice.inj e1).1
            subst hav
            have hb5 : wr.cell? ⟨g1, off1 + i * 6 + 5, none⟩ = some (.slice (some ⟨g M1[i].addr, 4, none⟩) 256 256) := hc 5 _ rfl
            obtain ⟨hgb, C, hB, hCs⟩ := hpg M1[i] (List.getElem_mem hil)
            have hc4 : wr.cell? ⟨g M1[i].addr, 4, none⟩ = some C[4] := by rw [hB.cell]; exact Array.getElem?_eq_getElem (by omega)
            have hf4 : wr.frozen? ⟨g M1[i].addr, 4, none⟩ = false := hB.frozen 4
            have hkS : Keep (fun j => j = g M1[i].addr) wr (wr.setCell ⟨g M1[i].addr, 4, none⟩ (.int .u8 9)) := (Keep.refl (fun j => j = g M1[i].addr) wr).setCell (p := ⟨g M1[i].addr, 4, none⟩) (fun _ => rfl) _
            have hpg2 : ∀ p ∈ M1, wz.heap.size ≤ g p.addr ∧ ∃ C, Blk (wr.setCell ⟨g M1[i].addr, 4, none⟩ (.int .u8 9)) (g p.addr) C 67 ∧ C.size = 260 := fun p hp => by
              obtain ⟨h1, C', hB', hC'⟩ := hpg p hp
              refine ⟨h1, ?_⟩
              by_cases e : g p.addr = g M1[i].addr
              · rw [e]
                exact ⟨_, hB.set (i := 4) (.int .u8 9), by rw [Array.size_setIfInBounds]; exact hCs⟩
              · exact ⟨C', hB'.keep hkS e, hC'⟩
            have hrow2 : FlO (wr.setCell ⟨g M1[i].addr, 4, none⟩ (.int .u8 9)) wz.heap.size 27 6 (encP g) (.slice (some ⟨g1, off1, none⟩) 3 cv) M1 := hrow.same fun b hb => hkS.block b (World.ownsRow.lt hrow b hb).2 fun e => by
              have e2 : b = g M1[i].addr := e
              rcases hrow.2 with ⟨e3, _⟩ | ⟨g9, cap9, cur9, e3, _, hB9, _⟩
              · cases e3
              · rw [e3] at hb
                simp only [Value.ownBlock, Option.some.injEq] at hb
                have hB' : wr.heap[b]? = some (Obj.cells C 67 (0, 0)) := by rw [e2]; exact hB
                rw [hb, hB'] at hB9
                simp at hB9
            have hk2 : Keep No wz (wr.setCell ⟨g M1[i].addr, 4, none⟩ (.int .u8 9)) := hkq.new hgb _
            clear hkS hpg hrow hB hc
            generalize g M1[i].addr = nb at *
            generalize C[4] = u4 at *
            have hiz : (i : Int) < 3 := by omega
            go_wp2_with (first | (at_builtin; refine wl_append rfl _ _ _ _ rfl _ _ rfl rfl ?_) | (at_make; refine wl_make rfl _ _ _ rfl _ _ rfl rfl ?_) | (at_mapUpdate; refine wl_mapUpdate rfl _ _ _ _ rfl _ _ _ rfl rfl rfl ?_) | (at_lookup; refine wl_lookup rfl _ _ _ _ rfl _ _ rfl rfl ?_) | (at_delete; refine wl_delete rfl _ _ _ _ rfl _ _ rfl rfl ?_) | (with_reducible refine wl_len rfl _ _ rfl _ rfl ?_) | (with_reducible refine wl_range rfl _ _ rfl _ rfl ?_) | (with_reducible refine wl_next rfl _ rfl _ rfl ?_) | (with_reducible refine wl_copy rfl _ _ _ _ rfl _ _ rfl rfl ?_) | (with_reducible refine wl_max rfl _ _ _ _ rfl _ _ rfl rfl ?_) | (with_reducible refine wl_min rfl _ _ _ _ rfl _ _ rfl rfl ?_))
            go_roundw
            case rel => exact ⟨i + 1, by go_num, hlt, hrow2, hpg2, hk2⟩
            case measure => simp [intOf]; omega
          · obtain rfl : i = 3 := Nat.le_antisymm hi hge
            have hS12 := hS10.no hA10 hkq
            have hA12 : ∀ k, (w1.heap.size ≤ k ∧ k < w3.heap.size) → k < wr.heap.size := fun k hk => Nat.lt_of_lt_of_le (hA10 k hk) hkq.size
            go_wp2_with (first | (at_builtin; refine wl_append rfl _ _ _ _ rfl _ _ rfl rfl ?_) | (at_make; refine wl_make rfl _ _ _ rfl _ _ rfl rfl ?_) | (at_mapUpdate; refine wl_mapUpdate rfl _ _ _ _ rfl _ _ _ rfl rfl rfl ?_) | (at_lookup; refine wl_lookup rfl _ _ _ _ rfl _ _ rfl rfl ?_) | (at_delete; refine wl_delete rfl _ _ _ _ rfl _ _ rfl rfl ?_) | (with_reducible refine wl_len rfl _ _ rfl _ rfl ?_) | (with_reducible refine wl_range rfl _ _ rfl _ rfl ?_) | (with_reducible refine wl_next rfl _ rfl _ rfl ?_) | (with_reducible refine wl_copy rfl _ _ _ _ rfl _ _ rfl rfl ?_) | (with_reducible refine wl_max rfl _ _ _ _ rfl _ _ rfl rfl ?_) | (with_reducible refine wl_min rfl _ _ _ _ rfl _ _ rfl rfl ?_))
            refine (vload_any a ((2 : Nat) : Int) (by omega) (by omega) (by omega) hS12 hA12).mono ?_
            rintro e w13 ⟨rfl, hk13⟩
            rw [p3, p4]
            go_wp2_with (first | (at_builtin; refine wl_append rfl _ _ _ _ rfl _ _ rfl rfl ?_) | (at_make; refine wl_make rfl _ _ _ rfl _ _ rfl rfl ?_) | (at_mapUpdate; refine wl_mapUpdate rfl _ _ _ _ rfl _ _ _ rfl rfl rfl ?_) | (at_lookup; refine wl_lookup rfl _ _ _ _ rfl _ _ rfl rfl ?_) | (at_delete; refine wl_delete rfl _ _ _ _ rfl _ _ rfl rfl ?_) | (with_reducible refine wl_len rfl _ _ rfl _ rfl ?_) | (with_reducible refine wl_range rfl _ _ rfl _ rfl ?_) | (with_reducible refine wl_next rfl _ rfl _ rfl ?_) | (with_reducible refine wl_copy rfl _ _ _ _ rfl _ _ rfl rfl ?_) | (with_reducible refine wl_max rfl _ _ _ _ rfl _ _ rfl rfl ?_) | (with_reducible refine wl_min rfl _ _ _ _ rfl _ _ rfl rfl ?_))
            go_ret
            exact ⟨rfl, hK1.trans' ((hkk.trans' hkq).trans' hk13)⟩
  · skip
    have HMX : Hid ((x : Int) % 4294967296 = ((x % 256 ^ 4 : Nat) : Int) ∧ bits .and .u64 (x : Int) 4294967295 = ((x % 256 ^ 4 : Nat) : Int)) := Lib.hid ⟨by omega, by have h := u64_and_nat x 4294967295 hx (by decide); rw [show x &&& 4294967295 = x % 256 ^ 4 from Nat.and_two_pow_sub_one_eq_mod x 32] at h; exact h⟩
    have HMY : Hid ((y : Int) % 4294967296 = ((y % 256 ^ 4 : Nat) : Int) ∧ bits .and .u64 (y : Int) 4294967295 = ((y % 256 ^ 4 : Nat) : Int)) := Lib.hid ⟨by omega, by have h := u64_and_nat y 4294967295 hy (by decide); rw [show y &&& 4294967295 = y % 256 ^ 4 from Nat.and_two_pow_sub_one_eq_mod y 32] at h; exact h⟩
    have hm : bits .and .i64 which 3 = 2 := hmk
    obtain ⟨p1, p2, p3, p4, p5, p6, p7, p8, p9, p10⟩ := keeps_plain hok a 4 x y (by omega) ha1 (by omega)
    clear hmk
    go_wp2_with (first | (at_builtin; refine wl_append rfl _ _ _ _ rfl _ _ rfl rfl ?_) | (at_make; refine wl_make rfl _ _ _ rfl _ _ rfl rfl ?_) | (at_mapUpdate; refine wl_mapUpdate rfl _ _ _ _ rfl _ _ _ rfl rfl rfl ?_) | (at_lookup; refine wl_lookup rfl _ _ _ _ rfl _ _ rfl rfl ?_) | (at_delete; refine wl_delete rfl _ _ _ _ rfl _ _ rfl rfl ?_) | (with_reducible refine wl_len rfl _ _ rfl _ rfl ?_) | (with_reducible refine wl_range rfl _ _ rfl _ rfl ?_) | (with_reducible refine wl_next rfl _ rfl _ rfl ?_) | (with_reducible refine wl_copy rfl _ _ _ _ rfl _ _ rfl rfl ?_) | (with_reducible refine wl_max rfl _ _ _ _ rfl _ _ rfl rfl ?_) | (with_reducible refine wl_min rfl _ _ _ _ rfl _ _ rfl rfl ?_))
    have hS4 := HS4.out
    have hK4 := HK4.out
    have hz4 := HZ4.out
    generalize w3.alloc (.cells #[.int .i64 1, .int .i64 2, .int .i64 4, .int .i64 8] 3) = w4 at *
    have hA4 : ∀ k, (w1.heap.size ≤ k ∧ k < w3.heap.size) → k < w4.heap.size := fun k hk => by omega
    refine (vstore_any a ((4 : Nat) : Int) x (by omega) hx (by omega) (by omega) hS4 hA4).mono ?_
    rintro e w5 ⟨rfl, hS5, hk5⟩
    rw [p1]
    have hk5' := hK4.trans hk5 (fun j hj ha => absurd ha.1 (Nat.not_le.2 hj))
    have hA5 : ∀ k, (w1.heap.size ≤ k ∧ k < w3.heap.size) → k < w5.heap.size := fun k hk => Nat.lt_of_lt_of_le (hA4 k hk) hk5.size
    clear hS4 hK4 hz4 hA4 hk5 HS4 HK4 HZ4 hok
    generalize storeV kpM a ((4 : Nat) : Int) x = M1 at *
    go_wp2_with (first | (at_builtin; refine wl_append rfl _ _ _ _ rfl _ _ rfl rfl ?_) | (at_make; refine wl_make rfl _ _ _ rfl _ _ rfl rfl ?_) | (at_mapUpdate; refine wl_mapUpdate rfl _ _ _ _ rfl _ _ _ rfl rfl rfl ?_) | (at_lookup; refine wl_lookup rfl _ _ _ _ rfl _ _ rfl rfl ?_) | (at_delete; refine wl_delete rfl _ _ _ _ rfl _ _ rfl rfl ?_) | (with_reducible refine wl_len rfl _ _ rfl _ rfl ?_) | (with_reducible refine wl_range rfl _ _ rfl _ rfl ?_) | (with_reducible refine wl_next rfl _ rfl _ rfl ?_) | (with_reducible refine wl_copy rfl _ _ _ _ rfl _ _ rfl rfl ?_) | (with_reducible refine wl_max rfl _ _ _ _ rfl _ _ rfl rfl ?_) | (with_reducible refine wl_min rfl _ _ _ _ rfl _ _ rfl rfl ?_))
    refine (vcopy_any hS5 hA5).mono ?_
    rintro e w6 ⟨dc, mbc, fc, rfl, hC6, hk6⟩
    have hS6 := hS5.no hA5 hk6
    have hA6 : ∀ k, (w1.heap.size ≤ k ∧ k < w3.heap.size) → k < w6.heap.size := fun k hk => Nat.lt_of_lt_of_le (hA5 k hk) hk6.size
    have hk6' := hk5'.trans' hk6
    unfold ptrTo
    go_wp2_with (first | (at_builtin; refine wl_append rfl _ _ _ _ rfl _ _ rfl rfl ?_) | (at_make; refine wl_make rfl _ _ _ rfl _ _ rfl rfl ?_) | (at_mapUpdate; refine wl_mapUpdate rfl _ _ _ _ rfl _ _ _ rfl rfl rfl ?_) | (at_lookup; refine wl_lookup rfl _ _ _ _ rfl _ _ rfl rfl ?_) | (at_delete; refine wl_delete rfl _ _ _ _ rfl _ _ rfl rfl ?_) | (with_reducible refine wl_len rfl _ _ rfl _ rfl ?_) | (with_reducible refine wl_range rfl _ _ rfl _ rfl ?_) | (with_reducible refine wl_next rfl _ rfl _ rfl ?_) | (with_reducible refine wl_copy rfl _ _ _ _ rfl _ _ rfl rfl ?_) | (with_reducible refine wl_max rfl _ _ _ _ rfl _ _ rfl rfl ?_) | (with_reducible refine wl_min rfl _ _ _ _ rfl _ _ rfl rfl ?_))
    refine (vstore_any a ((4 : Nat) : Int) y (by omega) hy (by omega) (by omega) hC6 (fun k hk => hk.2)).mono ?_
    rintro e w7 ⟨rfl, hC7, hk7⟩
    rw [p2]
    have hw15 : w1.heap.size ≤ w5.heap.size := hk5'.size
    have hk7' : Keep No w1 w7 := hk6'.trans hk7 (fun j hj ha => absurd ha.1 (Nat.not_le.2 (Nat.lt_of_lt_of_le hj hw15)))
    have hS7 := hS6.keep hk7 (fun k hk hc => absurd hc.1 (Nat.not_le.2 (hA5 k hk))) hA6
    have hA7 : ∀ k, (w1.heap.size ≤ k ∧ k < w3.heap.size) → k < w7.heap.size := fun k hk => Nat.lt_of_lt_of_le (hA6 k hk) hk7.size
    have hAc7 : ∀ k, (w5.heap.size ≤ k ∧ k < w6.heap.size) → k < w7.heap.size := fun k hk => Nat.lt_of_lt_of_le hk.2 hk7.size
    clear hS5 hA5 hk5' hS6 hA6 hk6 hk6' hC6 hk7
    generalize storeV M1 a ((4 : Nat) : Int) y = M2 at *
    generalize x % 256 ^ 4 = xm at *
    generalize y % 256 ^ 4 = ym at *
    go_wp2_with (first | (at_builtin; refine wl_append rfl _ _ _ _ rfl _ _ rfl rfl ?_) | (at_make; refine wl_make rfl _ _ _ rfl _ _ rfl rfl ?_) | (at_mapUpdate; refine wl_mapUpdate rfl _ _ _ _ rfl _ _ _ rfl rfl rfl ?_) | (at_lookup; refine wl_lookup rfl _ _ _ _ rfl _ _ rfl rfl ?_) | (at_delete; refine wl_delete rfl _ _ _ _ rfl _ _ rfl rfl ?_) | (with_reducible refine wl_len rfl _ _ rfl _ rfl ?_) | (with_reducible refine wl_range rfl _ _ rfl _ rfl ?_) | (with_reducible refine wl_next rfl _ rfl _ rfl ?_) | (with_reducible refine wl_copy rfl _ _ _ _ rfl _ _ rfl rfl ?_) | (with_reducible refine wl_max rfl _ _ _ _ rfl _ _ rfl rfl ?_) | (with_reducible refine wl_min rfl _ _ _ _ rfl _ _ rfl rfl ?_))
    refine (vload_any a ((4 : Nat) : Int) (by omega) (by omega) (by omega) hS7 hA7).mono ?_
    rintro e w8 ⟨rfl, hk8⟩
    rw [p3, p4]
    have hS8 := hS7.no hA7 hk8
    have hA8 : ∀ k, (w1.heap.size ≤ k ∧ k < w3.heap.size) → k < w8.heap.size := fun k hk => Nat.lt_of_lt_of_le (hA7 k hk) hk8.size
    have hC8 := hC7.no hAc7 hk8
    have hk8' := hk7'.trans' hk8
    have hAc8 : ∀ k, (w5.heap.size ≤ k ∧ k < w6.heap.size) → k < w8.heap.size := fun k hk => Nat.lt_of_lt_of_le (hAc7 k hk) hk8.size
    go_wp2_with (first | (at_builtin; refine wl_append rfl _ _ _ _ rfl _ _ rfl rfl ?_) | (at_make; refine wl_make rfl _ _ _ rfl _ _ rfl rfl ?_) | (at_mapUpdate; refine wl_mapUpdate rfl _ _ _ _ rfl _ _ _ rfl rfl rfl ?_) | (at_lookup; refine wl_lookup rfl _ _ _ _ rfl _ _ rfl rfl ?_) | (at_delete; refine wl_delete rfl _ _ _ _ rfl _ _ rfl rfl ?_) | (with_reducible refine wl_len rfl _ _ rfl _ rfl ?_) | (with_reducible refine wl_range rfl _ _ rfl _ rfl ?_) | (with_reducible refine wl_next rfl _ rfl _ rfl ?_) | (with_reducible refine wl_copy rfl _ _ _ _ rfl _ _ rfl rfl ?_) | (with_reducible refine wl_max rfl _ _ _ _ rfl _ _ rfl rfl ?_) | (with_reducible refine wl_min rfl _ _ _ _ rfl _ _ rfl rfl ?_))
    refine (vload_any a ((4 : Nat) : Int) (by omega) (by omega) (by omega) hC8 hAc8).mono ?_
    rintro e w9 ⟨rfl, hk9⟩
    rw [p5, p6]
    have hS9 := hS8.no hA8 hk9
    have hA9 : ∀ k, (w1.heap.size ≤ k ∧ k < w3.heap.size) → k < w9.heap.size := fun k hk => Nat.lt_of_lt_of_le (hA8 k hk) hk9.size
    have hk9' := hk8'.trans' hk9
    clear hS7 hA7 hC7 hAc7 hk8 hk7' hS8 hA8 hC8 hAc8 hk8' hk9
    obtain ⟨hmask, hmask2⟩ := HMX.out
    obtain ⟨hmasky, hmasky2⟩ := HMY.out
    go_wp2_with (first | (at_builtin; refine wl_append rfl _ _ _ _ rfl _ _ rfl rfl ?_) | (at_make; refine wl_make rfl _ _ _ rfl _ _ rfl rfl ?_) | (at_mapUpdate; refine wl_mapUpdate rfl _ _ _ _ rfl _ _ _ rfl rfl rfl ?_) | (at_lookup; refine wl_lookup rfl _ _ _ _ rfl _ _ rfl rfl ?_) | (at_delete; refine wl_delete rfl _ _ _ _ rfl _ _ rfl rfl ?_) | (with_reducible refine wl_len rfl _ _ rfl _ rfl ?_) | (with_reducible refine wl_range rfl _ _ rfl _ rfl ?_) | (with_reducible refine wl_next rfl _ rfl _ rfl ?_) | (with_reducible refine wl_copy rfl _ _ _ _ rfl _ _ rfl rfl ?_) | (with_reducible refine wl_max rfl _ _ _ _ rfl _ _ rfl rfl ?_) | (with_reducible refine wl_min rfl _ _ _ _ rfl _ _ rfl rfl ?_))
    refine (vpeek_any 512 768 (by omega) (by omega) hS9 hA9).mono ?_
    rintro e w10 ⟨bv10, rfl, ho, hk10⟩
    rw [p7]
    rw [p8] at ho
    generalize peekB M1 512 768 = B at *
    obtain ⟨g0, cap, rfl, hg0⟩ : ∃ g0 cap, bv10 = .slice (some ⟨g0, 0, none⟩) 768 cap ∧ w9.heap.size ≤ g0 := by
      rcases ho.2 with ⟨_, e0⟩ | ⟨g, cap, cur, rfl, hb, _⟩
      · omega
      · exact ⟨g, cap, rfl, hb⟩
    go_wp2_with (first | (at_builtin; refine wl_append rfl _ _ _ _ rfl _ _ rfl rfl ?_) | (at_make; refine wl_make rfl _ _ _ rfl _ _ rfl rfl ?_) | (at_mapUpdate; refine wl_mapUpdate rfl _ _ _ _ rfl _ _ _ rfl rfl rfl ?_) | (at_lookup; refine wl_lookup rfl _ _ _ _ rfl _ _ rfl rfl ?_) | (at_delete; refine wl_delete rfl _ _ _ _ rfl _ _ rfl rfl ?_) | (with_reducible refine wl_len rfl _ _ rfl _ rfl ?_) | (with_reducible refine wl_range rfl _ _ rfl _ rfl ?_) | (with_reducible refine wl_next rfl _ rfl _ rfl ?_) | (with_reducible refine wl_copy rfl _ _ _ _ rfl _ _ rfl rfl ?_) | (with_reducible refine wl_max rfl _ _ _ _ rfl _ _ rfl rfl ?_) | (with_reducible refine wl_min rfl _ _ _ _ rfl _ _ rfl rfl ?_))
    clear p1 p2 p5 p6 p7 hmask hmasky hmask2 hmasky2 HMX HMY hm hrem hsum
    go_loopw [22] (fun kv wr => ∃ (k : Nat) (Bk : List UInt8), kv = .int .u64 (k : Int) ∧ k ≤ 768 ∧ Bk.length = 768 ∧ (∀ i, k ≤ i → Bk[i]? = B[i]?) ∧ wr.ownsRow w9.heap.size 5 1 (.slice (some ⟨g0, 0, none⟩) 768 cap) 768 (Bk.map bv) ∧ Keep No w9 wr) (fun kv _ => 768 - (intOf kv).toNat)
    case atStart => exact ⟨0, B, rfl, Nat.zero_le _, p8, fun _ _ => rfl, ho, hk10⟩
    case round =>
      clear ho hk10
      obtain ⟨k, Bk, rfl, hk, hBl, hBe, ho, hkr⟩ := hrel
      rcases Nat.lt_or_ge k 768 with hlt | hge
      · have hkz : (k : Int) < 768 := by omega
        have hBk : Bk[k]? = B[k]? := hBe k (Nat.le_refl _)
        have hkl : k < Bk.length := by omega
        have hc1 : wr.cell? ⟨g0, k, none⟩ = some (bv Bk[k]) := by
          rw [ho.cellAt k (by omega), List.getElem?_map, List.getElem?_eq_getElem hkl]; rfl
        have hfz : wr.frozen? ⟨g0, k, none⟩ = false := ho.frozenAt _
        have ho2 := (ho.stored k (bv 1)).1
        rw [← List.map_set] at ho2
        have hk2 : Keep No w9 (wr.setCell ⟨g0, k, none⟩ (bv 1)) := hkr.new hg0 _
        have hBl2 : (Bk.set k 1).length = 768 := by rw [List.length_set]; exact hBl
        have hBe2 : ∀ i, k + 1 ≤ i → (Bk.set k 1)[i]? = B[i]? := fun i hi => by rw [List.getElem?_set_ne (by omega)]; exact hBe i (by omega)
        have hout : (512 + k < a ∨ a + 4 ≤ 512 + k) → Bk[k] = 0 := fun h => by
          have h1 := p9 k hlt h
          rw [← hBk, List.getElem?_eq_getElem hkl] at h1
          exact Option.some.inj h1
        have hc3 : (512 + k < a ∨ (a ≤ 512 + k ∧ a + 4 ≤ 512 + k)) ∨ (a ≤ 512 + k ∧ 512 + k < a + 4) := by omega
        unfold bv at hc1 ho2 hk2
        generalize Bk[k] = z at *
        clear hBe hBk ho hkr
        have hone : ((1 : UInt8).toNat : Int) = 1 := rfl
        rw [hone] at ho2 hk2
        obtain ⟨q, hq⟩ : ∃ q, q = 512 + k := ⟨_, rfl⟩
        have hqz : (512 : Int) + (k : Int) = (q : Int) := by omega
        rw [← hq] at hout hc3
        have hqb : (q : Int) < 2000 := by omega
        clear hq
        rcases hc3 with (hc | ⟨hc, hc'⟩) | ⟨hc, hc'⟩
        · have hz := hout (.inl hc)
          subst hz
          have i1 : (q : Int) < (a : Int) := by omega
          clear hout
          go_wp2_with (first | (at_builtin; refine wl_append rfl _ _ _ _ rfl _ _ rfl rfl ?_) | (at_make; refine wl_make rfl _ _ _ rfl _ _ rfl rfl ?_) | (at_mapUpdate; refine wl_mapUpdate rfl _ _ _ _ rfl _ _ _ rfl rfl rfl ?_) | (at_lookup; refine wl_lookup rfl _ _ _ _ rfl _ _ rfl rfl ?_) | (at_delete; refine wl_delete rfl _ _ _ _ rfl _ _ rfl rfl ?_) | (with_reducible refine wl_len rfl _ _ rfl _ rfl ?_) | (with_reducible refine wl_range rfl _ _ rfl _ rfl ?_) | (with_reducible refine wl_next rfl _ rfl _ rfl ?_) | (with_reducible refine wl_copy rfl _ _ _ _ rfl _ _ rfl rfl ?_) | (with_reducible refine wl_max rfl _ _ _ _ rfl _ _ rfl rfl ?_) | (with_reducible refine wl_min rfl _ _ _ _ rfl _ _ rfl rfl ?_))
          go_roundw
          case rel => exact ⟨k + 1, _, by go_num, hlt, hBl2, hBe2, ho2, hk2⟩
          case measure => simp [intOf]; omega
        · have hz := hout (.inr hc')
          subst hz
          have i1 : (a : Int) ≤ (q : Int) := by omega
          have i2 : (a : Int) + 4 ≤ (q : Int) := by omega
          clear hout
          go_wp2_with (first | (at_builtin; refine wl_append rfl _ _ _ _ rfl _ _ rfl rfl ?_) | (at_make; refine wl_make rfl _ _ _ rfl _ _ rfl rfl ?_) | (at_mapUpdate; refine wl_mapUpdate rfl _ _ _ _ rfl _ _ _ rfl rfl rfl ?_) | (at_lookup; refine wl_lookup rfl _ _ _ _ rfl _ _ rfl rfl ?_) | (at_delete; refine wl_delete rfl _ _ _ _ rfl _ _ rfl rfl ?_) | (with_reducible refine wl_len rfl _ _ rfl _ rfl ?_) | (with_reducible refine wl_range rfl _ _ rfl _ rfl ?_) | (with_reducible refine wl_next rfl _ rfl _ rfl ?_) | (with_reducible refine wl_copy rfl _ _ _ _ rfl _ _ rfl rfl ?_) | (with_reducible refine wl_max rfl _ _ _ _ rfl _ _ rfl rfl ?_) | (with_reducible refine wl_min rfl _ _ _ _ rfl _ _ rfl rfl ?_))
          go_roundw
          case rel => exact ⟨k + 1, _, by go_num, hlt, hBl2, hBe2, ho2, hk2⟩
          case measure => simp [intOf]; omega
        · have i1 : (a : Int) ≤ (q : Int) := by omega
          have i2 : (q : Int) < (a : Int) + 4 := by omega
          clear hout
          go_wp2_with (first | (at_builtin; refine wl_append rfl _ _ _ _ rfl _ _ rfl rfl ?_) | (at_make; refine wl_make rfl _ _ _ rfl _ _ rfl rfl ?_) | (at_mapUpdate; refine wl_mapUpdate rfl _ _ _ _ rfl _ _ _ rfl rfl rfl ?_) | (at_lookup; refine wl_lookup rfl _ _ _ _ rfl _ _ rfl rfl ?_) | (at_delete; refine wl_delete rfl _ _ _ _ rfl _ _ rfl rfl ?_) | (with_reducible refine wl_len rfl _ _ rfl _ rfl ?_) | (with_reducible refine wl_range rfl _ _ rfl _ rfl ?_) | (with_reducible refine wl_next rfl _ rfl _ rfl ?_) | (with_reducible refine wl_copy rfl _ _ _ _ rfl _ _ rfl rfl ?_) | (with_reducible refine wl_max rfl _ _ _ _ rfl _ _ rfl rfl ?_) | (with_reducible refine wl_min rfl _ _ _ _ rfl _ _ rfl rfl ?_))
          go_roundw
          case rel => exact ⟨k + 1, _, by go_num, hlt, hBl2, hBe2, ho2, hk2⟩
          case measure => simp [intOf]; omega
      · obtain rfl : k = 768 := Nat.le_antisymm hk hge
        have hS10 := hS9.no hA9 hkr
        have hA10 : ∀ k, (w1.heap.size ≤ k ∧ k < w3.heap.size) → k < wr.heap.size := fun k hk => Nat.lt_of_lt_of_le (hA9 k hk) hkr.size
        have hkk := hk9'.trans' hkr
        clear ho hBe hS9 hA9
        go_wp2_with (first | (at_builtin; refine wl_append rfl _ _ _ _ rfl _ _ rfl rfl ?_) | (at_make; refine wl_make rfl _ _ _ rfl _ _ rfl rfl ?_) | (at_mapUpdate; refine wl_mapUpdate rfl _ _ _ _ rfl _ _ _ rfl rfl rfl ?_) | (at_lookup; refine wl_lookup rfl _ _ _ _ rfl _ _ rfl rfl ?_) | (at_delete; refine wl_delete rfl _ _ _ _ rfl _ _ rfl rfl ?_) | (with_reducible refine wl_len rfl _ _ rfl _ rfl ?_) | (with_reducible refine wl_range rfl _ _ rfl _ rfl ?_) | (with_reducible refine wl_next rfl _ rfl _ rfl ?_) | (with_reducible refine wl_copy rfl _ _ _ _ rfl _ _ rfl rfl ?_) | (with_reducible refine wl_max rfl _ _ _ _ rfl _ _ rfl rfl ?_) | (with_reducible refine wl_min rfl _ _ _ _ rfl _ _ rfl rfl ?_))
        refine (vpages_any hS10 hA10 (by rw [p10]; omega)).mono ?_
        rintro e w11 ⟨v, g, rfl, hP, hk11⟩
        obtain ⟨av, cv, rfl, _, _⟩ := hP.row.fl.shape
        rw [p10] at hP ⊢
        have hS11 := hS10.no hA10 hk11
        have hA11 : ∀ k, (w1.heap.size ≤ k ∧ k < w3.heap.size) → k < w11.heap.size := fun k hk => Nat.lt_of_lt_of_le (hA10 k hk) hk11.size
        have hkk11 := hkk.trans' hk11
        have hrow := hP.row
        have hpg : ∀ p ∈ M1, wr.heap.size ≤ g p.addr ∧ ∃ C, Blk w11 (g p.addr) C 67 ∧ C.size = 260 := fun p hp => ⟨(hP.pg p hp).1, _, (hP.pg p hp).2, pgC_size (hS11.ok.pg p hp).bl⟩
        clear hP
        generalize wr = wz at *
        go_wp2_with (first | (at_builtin; refine wl_append rfl _ _ _ _ rfl _ _ rfl rfl ?_) | (at_make; refine wl_make rfl _ _ _ rfl _ _ rfl rfl ?_) | (at_mapUpdate; refine wl_mapUpdate rfl _ _ _ _ rfl _ _ _ rfl rfl rfl ?_) | (at_lookup; refine wl_lookup rfl _ _ _ _ rfl _ _ rfl rfl ?_) | (at_delete; refine wl_delete rfl _ _ _ _ rfl _ _ rfl rfl ?_) | (with_reducible refine wl_len rfl _ _ rfl _ rfl ?_) | (with_reducible refine wl_range rfl _ _ rfl _ rfl ?_) | (with_reducible refine wl_next rfl _ rfl _ rfl ?_) | (with_reducible refine wl_copy rfl _ _ _ _ rfl _ _ rfl rfl ?_) | (with_reducible refine wl_max rfl _ _ _ _ rfl _ _ rfl rfl ?_) | (with_reducible refine wl_min rfl _ _ _ _ rfl _ _ rfl rfl ?_))
        go_loopw [24] (fun iv wr => ∃ i : Nat, iv = .int .i64 i ∧ i ≤ 3 ∧ FlO wr wz.heap.size 27 6 (encP g) (.slice av 3 cv) M1 ∧ (∀ p ∈ M1, wz.heap.size ≤ g p.addr ∧ ∃ C, Blk wr (g p.addr) C 67 ∧ C.size = 260) ∧ Keep No wz wr) (fun iv _ => 3 - (intOf iv).toNat)
        case atStart => exact ⟨0, rfl, Nat.zero_le _, hrow, hpg, hk11⟩
        case round =>
          clear hrow hpg hk11 hS11 hA11 hkk11
          obtain ⟨i, rfl, hi, hrow, hpg, hkq⟩ := hrel
          rcases Nat.lt_or_ge i 3 with hlt | hge
          · have hil : i < M1.length := by omega
            obtain ⟨g1, off1, cap1, e1, _, hg1, _, _, hc⟩ := hrow.fl.at (encP_len g) hil
            have hav : av = some ⟨g1, off1, none⟩ := (Value.slice.inj e1).1
            subst hav
            have hb5 : wr.cell? ⟨g1, off1 + i * 6 + 5, none⟩ = some (.slice (some ⟨g M1[i].addr, 4, none⟩) 256 256) := hc 5 _ rfl
            obtain ⟨hgb, C, hB, hCs⟩ := hpg M1[i] (List.getElem_mem hil)
            have hc4 : wr.cell? ⟨g M1[i].addr, 4, none⟩ = some C[4] := by rw [hB.cell]; exact Array.getElem?_eq_getElem (by omega)
            have hf4 : wr.frozen? ⟨g M1[i].addr, 4, none⟩ = false := hB.frozen 4
            have hkS : Keep (fun j => j = g M1[i].addr) wr (wr.setCell ⟨g M1[i].addr, 4, none⟩ (.int .u8 9)) := (Keep.refl (fun j => j = g M1[i].addr) wr).setCell (p := ⟨g M1[i].addr, 4, none⟩) (fun _ => rfl) _
            have hpg2 : ∀ p ∈ M1, wz.heap.size ≤ g p.addr ∧ ∃ C, Blk (wr.setCell ⟨g M1[i].addr, 4, none⟩ (.int .u8 9)) (g p.addr) C 67 ∧ C.size = 260 := fun p hp => by
              obtain ⟨h1, C', hB', hC'⟩ := hpg p hp
              refine ⟨h1, ?_⟩
              by_cases e : g p.addr = g M1[i].addr
              · rw [e]
                exact ⟨_, hB.set (i := 4) (.int .u8 9), by rw [Array.size_setIfInBounds]; exact hCs⟩
              · exact ⟨C', hB'.keep hkS e, hC'⟩
            have hrow2 : FlO (wr.setCell ⟨g M1[i].addr, 4, none⟩ (.int .u8 9)) wz.heap.size 27 6 (encP g) (.slice (some ⟨g1, off1, none⟩) 3 cv) M1 := hrow.same fun b hb => hkS.block b (World.ownsRow.lt hrow b hb).2 fun e => by
              have e2 : b = g M1[i].addr := e
              rcases hrow.2 with ⟨e3, _⟩ | ⟨g9, cap9, cur9, e3, _, hB9, _⟩
              · cases e3
              · rw [e3] at hb
                simp only [Value.ownBlock, Option.some.injEq] at hb
                have hB' : wr.heap[b]? = some (Obj.cells C 67 (0, 0)) := by rw [e2]; exact hB
                rw [hb, hB'] at hB9
                simp at hB9
            have hk2 : Keep No wz (wr.setCell ⟨g M1[i].addr, 4, none⟩ (.int .u8 9)) := hkq.new hgb _
            clear hkS hpg hrow hB hc
            generalize g M1[i].addr = nb at *
            generalize C[4] = u4 at *
            have hiz : (i : Int) < 3 := by omega
            go_wp2_with (first | (at_builtin; refine wl_append rfl _ _ _ _ rfl _ _ rfl rfl ?_) | (at_make; refine wl_make rfl _ _ _ rfl _ _ rfl rfl ?_) | (at_mapUpdate; refine wl_mapUpdate rfl _ _ _ _ rfl _ _ _ rfl rfl rfl ?_) | (at_lookup; refine wl_lookup rfl _ _ _ _ rfl _ _ rfl rfl ?_) | (at_delete; refine wl_delete rfl _ _ _ _ rfl _ _ rfl rfl ?_) | (with_reducible refine wl_len rfl _ _ rfl _ rfl ?_) | (with_reducible refine wl_range rfl _ _ rfl _ rfl ?_) | (with_reducible refine wl_next rfl _ rfl _ rfl ?_) | (with_reducible refine wl_copy rfl _ _ _ _ rfl _ _ rfl rfl ?_) | (with_reducible refine wl_max rfl _ _ _ _ rfl _ _ rfl rfl ?_) | (with_reducible refine wl_min rfl _ _ _ _ rfl _ _ rfl rfl ?_))
            go_roundw
            case rel => exact ⟨i + 1, by go_num, hlt, hrow2, hpg2, hk2⟩
            case measure => simp [intOf]; omega
          · obtain rfl : i = 3 := Nat.le_antisymm hi hge
            have hS12 := hS10.no hA10 hkq
            have hA12 : ∀ k, (w1.heap.size ≤ k ∧ k < w3.heap.size) → k < wr.heap.size := fun k hk => Nat.lt_of_lt_of_le (hA10 k hk) hkq.size
            go_wp2_with (first | (at_builtin; refine wl_append rfl _ _ _ _ rfl _ _ rfl rfl ?_) | (at_make; refine wl_make rfl _ _ _ rfl _ _ rfl rfl ?_) | (at_mapUpdate; refine wl_mapUpdate rfl _ _ _ _ rfl _ _ _ rfl rfl rfl ?_) | (at_lookup; refine wl_lookup rfl _ _ _ _ rfl _ _ rfl rfl ?_) | (at_delete; refine wl_delete rfl _ _ _ _ rfl _ _ rfl rfl ?_) | (with_reducible refine wl_len rfl _ _ rfl _ rfl ?_) | (with_reducible refine wl_range rfl _ _ rfl _ rfl ?_) | (with_reducible refine wl_next rfl _ rfl _ rfl ?_) | (with_reducible refine wl_copy rfl _ _ _ _ rfl _ _ rfl rfl ?_) | (with_reducible refine wl_max rfl _ _ _ _ rfl _ _ rfl rfl ?_) | (with_reducible refine wl_min rfl _ _ _ _ rfl _ _ rfl rfl ?_))
            refine (vload_any a ((4 : Nat) : Int) (by omega) (by omega) (by omega) hS12 hA12).mono ?_
            rintro e w13 ⟨rfl, hk13⟩
            rw [p3, p4]
            go_wp2_with (first | (at_builtin; refine wl_append rfl _ _ _ _ rfl _ _ rfl rfl ?_) | (at_make; refine wl_make rfl _ _ _ rfl _ _ rfl rfl ?_) | (at_mapUpdate; refine wl_mapUpdate rfl _ _ _ _ rfl _ _ _ rfl rfl rfl ?_) | (at_lookup; refine wl_lookup rfl _ _ _ _ rfl _ _ rfl rfl ?_) | (at_delete; refine wl_delete rfl _ _ _ _ rfl _ _ rfl rfl ?_) | (with_reducible refine wl_len rfl _ _ rfl _ rfl ?_) | (with_reducible refine wl_range rfl _ _ rfl _ rfl ?_) | (with_reducible refine wl_next rfl _ rfl _ rfl ?_) | (with_reducible refine wl_copy rfl _ _ _ _ rfl _ _ rfl rfl ?_) | (with_reducible refine wl_max rfl _ _ _ _ rfl _ _ rfl rfl ?_) | (with_reducible refine wl_min rfl _ _ _ _ rfl _ _ rfl rfl ?_))
            go_ret
            exact ⟨rfl, hK1.trans' ((hkk.trans' hkq).trans' hk13)⟩
  · skip
    have HMX : Hid ((x : Int) = ((x % 256 ^ 8 : Nat) : Int) ∧ True) := Lib.hid ⟨by rw [Nat.mod_eq_of_lt (by omega)], trivial⟩
    have HMY : Hid ((y : Int) = ((y % 256 ^ 8 : Nat) : Int) ∧ True) := Lib.hid ⟨by rw [Nat.mod_eq_of_lt (by omega)], trivial⟩
    have hm : bits .and .i64 which 3 = 3 := hmk
    obtain ⟨p1, p2, p3, p4, p5, p6, p7, p8, p9, p10⟩ := keeps_plain hok a 8 x y (by omega) ha1 (by omega)
    clear hmk
    go_wp2_with (first | (at_builtin; refine wl_append rfl _ _ _ _ rfl _ _ rfl rfl ?_) | (at_make; refine wl_make rfl _ _ _ rfl _ _ rfl rfl ?_) | (at_mapUpdate; refine wl_mapUpdate rfl _ _ _ _ rfl _ _ _ rfl rfl rfl ?_) | (at_lookup; refine wl_lookup rfl _ _ _ _ rfl _ _ rfl rfl ?_) | (at_delete; refine wl_delete rfl _ _ _ _ rfl _ _ rfl rfl ?_) | (with_reducible refine wl_len rfl _ _ rfl _ rfl ?_) | (with_reducible refine wl_range rfl _ _ rfl _ rfl ?_) | (with_reducible refine wl_next rfl _ rfl _ rfl ?_) | (with_reducible refine wl_copy rfl _ _ _ _ rfl _ _ rfl rfl ?_) | (with_reducible refine wl_max rfl _ _ _ _ rfl _ _ rfl rfl ?_) | (with_reducible refine wl_min rfl _ _ _ _ rfl _ _ rfl rfl ?_))
    have hS4 := HS4.out
    have hK4 := HK4.out
    have hz4 := HZ4.out
    generalize w3.alloc (.cells #[.int .i64 1, .int .i64 2, .int .i64 4, .int .i64 8] 3) = w4 at *
    have hA4 : ∀ k, (w1.heap.size ≤ k ∧ k < w3.heap.size) → k < w4.heap.size := fun k hk => by omega
    refine (vstore_any a ((8 : Nat) : Int) x (by omega) hx (by omega) (by omega) hS4 hA4).mono ?_
    rintro e w5 ⟨rfl, hS5, hk5⟩
    rw [p1]
    have hk5' := hK4.trans hk5 (fun j hj ha => absurd ha.1 (Nat.not_le.2 hj))
    have hA5 : ∀ k, (w1.heap.size ≤ k ∧ k < w3.heap.size) → k < w5.heap.size := fun k hk => Nat.lt_of_lt_of_le (hA4 k hk) hk5.size
    clear hS4 hK4 hz4 hA4 hk5 HS4 HK4 HZ4 hok
    generalize storeV kpM a ((8 : Nat) : Int) x = M1 at *
    go_wp2_with (first | (at_builtin; refine wl_append rfl _ _ _ _ rfl _ _ rfl rfl ?_) | (at_make; refine wl_make rfl _ _ _ rfl _ _ rfl rfl ?_) | (at_mapUpdate; refine wl_mapUpdate rfl _ _ _ _ rfl _ _ _ rfl rfl rfl ?_) | (at_lookup; refine wl_lookup rfl _ _ _ _ rfl _ _ rfl rfl ?_) | (at_delete; refine wl_delete rfl _ _ _ _ rfl _ _ rfl rfl ?_) | (with_reducible refine wl_len rfl _ _ rfl _ rfl ?_) | (with_reducible refine wl_range rfl _ _ rfl _ rfl ?_) | (with_reducible refine wl_next rfl _ rfl _ rfl ?_) | (with_reducible refine wl_copy rfl _ _ _ _ rfl _ _ rfl rfl ?_) | (with_reducible refine wl_max rfl _ _ _ _ rfl _ _ rfl rfl ?_) | (with_reducible refine wl_min rfl _ _ _ _ rfl _ _ rfl rfl ?_))
    refine (vcopy_any hS5 hA5).mono ?_
    rintro e w6 ⟨dc, mbc, fc, rfl, hC6, hk6⟩
    have hS6 := hS5.no hA5 hk6
    have hA6 : ∀ k, (w1.heap.size ≤ k ∧ k < w3.heap.size) → k < w6.heap.size := fun k hk => Nat.lt_of_lt_of_le (hA5 k hk) hk6.size
    have hk6' := hk5'.trans' hk6
    unfold ptrTo
    go_wp2_with (first | (at_builtin; refine wl_append rfl _ _ _ _ rfl _ _ rfl rfl ?_) | (at_make; refine wl_make rfl _ _ _ rfl _ _ rfl rfl ?_) | (at_mapUpdate; refine wl_mapUpdate rfl _ _ _ _ rfl _ _ _ rfl rfl rfl ?_) | (at_lookup; refine wl_lookup rfl _ _ _ _ rfl _ _ rfl rfl ?_) | (at_delete; refine wl_delete rfl _ _ _ _ rfl _ _ rfl rfl ?_) | (with_reducible refine wl_len rfl _ _ rfl _ rfl ?_) | (with_reducible refine wl_range rfl _ _ rfl _ rfl ?_) | (with_reducible refine wl_next rfl _ rfl _ rfl ?_) | (with_reducible refine wl_copy rfl _ _ _ _ rfl _ _ rfl rfl ?_) | (with_reducible refine wl_max rfl _ _ _ _ rfl _ _ rfl rfl ?_) | (with_reducible refine wl_min rfl _ _ _ _ rfl _ _ rfl rfl ?_))
    refine (vstore_any a ((8 : Nat) : Int) y (by omega) hy (by omega) (by omega) hC6 (fun k hk => hk.2)).mono ?_
    rintro e w7 ⟨rfl, hC7, hk7⟩
    rw [p2]
    have hw15 : w1.heap.size ≤ w5.heap.size := hk5'.size
    have hk7' : Keep No w1 w7 := hk6'.trans hk7 (fun j hj ha => absurd ha.1 (Nat.not_le.2 (Nat.lt_of_lt_of_le hj hw15)))
    have hS7 := hS6.keep hk7 (fun k hk hc => absurd hc.1 (Nat.not_le.2 (hA5 k hk))) hA6
    have hA7 : ∀ k, (w1.heap.size ≤ k ∧ k < w3.heap.size) → k < w7.heap.size := fun k hk => Nat.lt_of_lt_of_le (hA6 k hk) hk7.size
    have hAc7 : ∀ k, (w5.heap.size ≤ k ∧ k < w6.heap.size) → k < w7.heap.size := fun k hk => Nat.lt_of_lt_of_le hk.2 hk7.size
    clear hS5 hA5 hk5' hS6 hA6 hk6 hk6' hC6 hk7
    generalize storeV M1 a ((8 : Nat) : Int) y = M2 at *
    generalize x % 256 ^ 8 = xm at *
    generalize y % 256 ^ 8 = ym at *
    go_wp2_with (first | (at_builtin; refine wl_append rfl _ _ _ _ rfl _ _ rfl rfl ?_) | (at_make; refine wl_make rfl _ _ _ rfl _ _ rfl rfl ?_) | (at_mapUpdate; refine wl_mapUpdate rfl _ _ _ _ rfl _ _ _ rfl rfl rfl ?_) | (at_lookup; refine wl_lookup rfl _ _ _ _ rfl _ _ rfl rfl ?_) | (at_delete; refine wl_delete rfl _ _ _ _ rfl _ _ rfl rfl ?_) | (with_reducible refine wl_len rfl _ _ rfl _ rfl ?_) | (with_reducible refine wl_range rfl _ _ rfl _ rfl ?_) | (with_reducible refine wl_next rfl _ rfl _ rfl ?_) | (with_reducible refine wl_copy rfl _ _ _ _ rfl _ _ rfl rfl ?_) | (with_reducible refine wl_max rfl _ _ _ _ rfl _ _ rfl rfl ?_) | (with_reducible refine wl_min rfl _ _ _ _ rfl _ _ rfl rfl ?_))
    refine (vload_any a ((8 : Nat) : Int) (by omega) (by omega) (by omega) hS7 hA7).mono ?_
    rintro e w8 ⟨rfl, hk8⟩
    rw [p3, p4]
    have hS8 := hS7.no hA7 hk8
    have hA8 : ∀ k, (w1.heap.size ≤ k ∧ k < w3.heap.size) → k < w8.heap.size := fun k hk => Nat.lt_of_lt_of_le (hA7 k hk) hk8.size
    have hC8 := hC7.no hAc7 hk8
    have hk8' := hk7'.trans' hk8
    have hAc8 : ∀ k, (w5.heap.size ≤ k ∧ k < w6.heap.size) → k < w8.heap.size := fun k hk => Nat.lt_of_lt_of_le (hAc7 k hk) hk8.size
    go_wp2_with (first | (at_builtin; refine wl_append rfl _ _ _ _ rfl _ _ rfl rfl ?_) | (at_make; refine wl_make rfl _ _ _ rfl _ _ rfl rfl ?_) | (at_mapUpdate; refine wl_mapUpdate rfl _ _ _ _ rfl _ _ _ rfl rfl rfl ?_) | (at_lookup; refine wl_lookup rfl _ _ _ _ rfl _ _ rfl rfl ?_) | (at_delete; refine wl_delete rfl _ _ _ _ rfl _ _ rfl rfl ?_) | (with_reducible refine wl_len rfl _ _ rfl _ rfl ?_) | (with_reducible refine wl_range rfl _ _ rfl _ rfl ?_) | (with_reducible refine wl_next rfl _ rfl _ rfl ?_) | (with_reducible refine wl_copy rfl _ _ _ _ rfl _ _ rfl rfl ?_) | (with_reducible refine wl_max rfl _ _ _ _ rfl _ _ rfl rfl ?_) | (with_reducible refine wl_min rfl _ _ _ _ rfl _ _ rfl rfl ?_))
    refine (vload_any a ((8 : Nat) : Int) (by omega) (by omega) (by omega) hC8 hAc8).mono ?_
    rintro e w9 ⟨rfl, hk9⟩
    rw [p5, p6]
    have hS9 := hS8.no hA8 hk9
    have hA9 : ∀ k, (w1.heap.size ≤ k ∧ k < w3.heap.size) → k < w9.heap.size := fun k hk => Nat.lt_of_lt_of_le (hA8 k hk) hk9.size
    have hk9' := hk8'.trans' hk9
    clear hS7 hA7 hC7 hAc7 hk8 hk7' hS8 hA8 hC8 hAc8 hk8' hk9
    obtain ⟨hmask, hmask2⟩ := HMX.out
    obtain ⟨hmasky, hmasky2⟩ := HMY.out
    go_wp2_with (first | (at_builtin; refine wl_append rfl _ _ _ _ rfl _ _ rfl rfl ?_) | (at_make; refine wl_make rfl _ _ _ rfl _ _ rfl rfl ?_) | (at_mapUpdate; refine wl_mapUpdate rfl _ _ _ _ rfl _ _ _ rfl rfl rfl ?_) | (at_lookup; refine wl_lookup rfl _ _ _ _ rfl _ _ rfl rfl ?_) | (at_delete; refine wl_delete rfl _ _ _ _ rfl _ _ rfl rfl ?_) | (with_reducible refine wl_len rfl _ _ rfl _ rfl ?_) | (with_reducible refine wl_range rfl _ _ rfl _ rfl ?_) | (with_reducible refine wl_next rfl _ rfl _ rfl ?_) | (with_reducible refine wl_copy rfl _ _ _ _ rfl _ _ rfl rfl ?_) | (with_reducible refine wl_max rfl _ _ _ _ rfl _ _ rfl rfl ?_) | (with_reducible refine wl_min rfl _ _ _ _ rfl _ _ rfl rfl ?_))
    refine (vpeek_any 512 768 (by omega) (by omega) hS9 hA9).mono ?_
    rintro e w10 ⟨bv10, rfl, ho, hk10⟩
    rw [p7]
    rw [p8] at ho
    generalize peekB M1 512 768 = B at *
    obtain ⟨g0, cap, rfl, hg0⟩ : ∃ g0 cap, bv10 = .slice (some ⟨g0, 0, none⟩) 768 cap ∧ w9.heap.size ≤ g0 := by
      rcases ho.2 with ⟨_, e0⟩ | ⟨g, cap, cur, rfl, hb, _⟩
      · omega
      · exact ⟨g, cap, rfl, hb⟩
    go_wp2_with (first | (at_builtin; refine wl_append rfl _ _ _ _ rfl _ _ rfl rfl ?_) | (at_make; refine wl_make rfl _ _ _ rfl _ _ rfl rfl ?_) | (at_mapUpdate; refine wl_mapUpdate rfl _ _ _ _ rfl _ _ _ rfl rfl rfl ?_) | (at_lookup; refine wl_lookup rfl _ _ _ _ rfl _ _ rfl rfl ?_) | (at_delete; refine wl_delete rfl _ _ _ _ rfl _ _ rfl rfl ?_) | (with_reducible refine wl_len rfl _ _ rfl _ rfl ?_) | (with_reducible refine wl_range rfl _ _ rfl _ rfl ?_) | (with_reducible refine wl_next rfl _ rfl _ rfl ?_) | (with_reducible refine wl_copy rfl _ _ _ _ rfl _ _ rfl rfl ?_) | (with_reducible refine wl_max rfl _ _ _ _ rfl _ _ rfl rfl ?_) | (with_reducible refine wl_min rfl _ _ _ _ rfl _ _ rfl rfl ?_))
    clear p1 p2 p5 p6 p7 hmask hmasky hmask2 hmasky2 HMX HMY hm hrem hsum
    go_loopw [22] (fun kv wr => ∃ (k : Nat) (Bk : List UInt8), kv = .int .u64 (k : Int) ∧ k ≤ 768 ∧ Bk.length = 768 ∧ (∀ i, k ≤ i → Bk[i]? = B[i]?) ∧ wr.ownsRow w9.heap.size 5 1 (.slice (some ⟨g0, 0, none⟩) 768 cap) 768 (Bk.map bv) ∧ Keep No w9 wr) (fun kv _ => 768 - (intOf kv).toNat)
    case atStart => exact ⟨0, B, rfl, Nat.zero_le _, p8, fun _ _ => rfl, ho, hk10⟩
    case round =>
      clear ho hk10
      obtain ⟨k, Bk, rfl, hk, hBl, hBe, ho, hkr⟩ := hrel
      rcases Nat.lt_or_ge k 768 with hlt | hge
      · have hkz : (k : Int) < 768 := by omega
        have hBk : Bk[k]? = B[k]? := hBe k (Nat.le_refl _)
        have hkl : k < Bk.length := by omega
        have hc1 : wr.cell? ⟨g0, k, none⟩ = some (bv Bk[k]) := by
          rw [ho.cellAt k (by omega), List.getElem?_map, List.getElem?_eq_getElem hkl]; rfl
        have hfz : wr.frozen? ⟨g0, k, none⟩ = false := ho.frozenAt _
        have ho2 := (ho.stored k (bv 1)).1
        rw [← List.map_set] at ho2
        have hk2 : Keep No w9 (wr.setCell ⟨g0, k, none⟩ (bv 1)) := hkr.new hg0 _
        have hBl2 : (Bk.set k 1).length = 768 := by rw [List.length_set]; exact hBl
        have hBe2 : ∀ i, k + 1 ≤ i → (Bk.set k 1)[i]? = B[i]? := fun i hi => by rw [List.getElem?_set_ne (by omega)]; exact hBe i (by omega)
        have hout : (512 + k < a ∨ a + 8 ≤ 512 + k) → Bk[k] = 0 := fun h => by
          have h1 := p9 k hlt h
          rw [← hBk, List.getElem?_eq_getElem hkl] at h1
          exact Option.some.inj h1
        have hc3 : (512 + k < a ∨ (a ≤ 512 + k ∧ a + 8 ≤ 512 + k)) ∨ (a ≤ 512 + k ∧ 512 + k < a + 8) := by omega
        unfold bv at hc1 ho2 hk2
        generalize Bk[k] = z at *
        clear hBe hBk ho hkr
        have hone : ((1 : UInt8).toNat : Int) = 1 := rfl
        rw [hone] at ho2 hk2
        obtain ⟨q, hq⟩ : ∃ q, q = 512 + k := ⟨_, rfl⟩
        have hqz : (512 : Int) + (k : Int) = (q : Int) := by omega
        rw [← hq] at hout hc3
        have hqb : (q : Int) < 2000 := by omega
        clear hq
        rcases hc3 with (hc | ⟨hc, hc'⟩) | ⟨hc, hc'⟩
        · have hz := hout (.inl hc)
          subst hz
          have i1 : (q : Int) < (a : Int) := by omega
          clear hout
          go_wp2_with (first | (at_builtin; refine wl_append rfl _ _ _ _ rfl _ _ rfl rfl ?_) | (at_make; refine wl_make rfl _ _ _ rfl _ _ rfl rfl ?_) | (at_mapUpdate; refine wl_mapUpdate rfl _ _ _ _ rfl _ _ _ rfl rfl rfl ?_) | (at_lookup; refine wl_lookup rfl _ _ _ _ rfl _ _ rfl rfl ?_) | (at_delete; refine wl_delete rfl _ _ _ _ rfl _ _ rfl rfl ?_) | (with_reducible refine wl_len rfl _ _ rfl _ rfl ?_) | (with_reducible refine wl_range rfl _ _ rfl _ rfl ?_) | (with_reducible refine wl_next rfl _ rfl _ rfl ?_) | (with_reducible refine wl_copy rfl _ _ _ _ rfl _ _ rfl rfl ?_) | (with_reducible refine wl_max rfl _ _ _ _ rfl _ _ rfl rfl ?_) | (with_reducible refine wl_min rfl _ _ _ _ rfl _ _ rfl rfl ?_))
          go_roundw
          case rel => exact ⟨k + 1, _, by go_num, hlt, hBl2, hBe2, ho2, hk2⟩
          case measure => simp [intOf]; omega
        · have hz := hout (.inr hc')
          subst hz
          have i1 : (a : Int) ≤ (q : Int) := by omega
          have i2 : (a : Int) + 8 ≤ (q : Int) := by omega
          clear hout
          go_wp2_with (first | (at_builtin; refine wl_append rfl _ _ _ _ rfl _ _ rfl rfl ?_) | (at_make; refine wl_make rfl _ _ _ rfl _ _ rfl rfl ?_) | (at_mapUpdate; refine wl_mapUpdate rfl _ _ _ _ rfl _ _ _ rfl rfl rfl ?_) | (at_lookup; refine wl_lookup rfl _ _ _ _ rfl _ _ rfl rfl ?_) | (at_delete; refine wl_delete rfl _ _ _ _ rfl _ _ rfl rfl ?_) | (with_reducible refine wl_len rfl _ _ rfl _ rfl ?_) | (with_reducible refine wl_range rfl _ _ rfl _ rfl ?_) | (with_reducible refine wl_next rfl _ rfl _ rfl ?_) | (with_reducible refine wl_copy rfl _ _ _ _ rfl _ _ rfl rfl ?_) | (with_reducible refine wl_max rfl _ _ _ _ rfl _ _ rfl rfl ?_) | (with_reducible refine wl_min rfl _ _ _ _ rfl _ _ rfl rfl ?_))
          go_roundw
          case rel => exact ⟨k + 1, _, by go_num, hlt, hBl2, hBe2, ho2, hk2⟩
          case measure => simp [intOf]; omega
        · have i1 : (a : Int) ≤ (q : Int) := by omega
          have i2 : (q : Int) < (a : Int) + 8 := by omega
          clear hout
          go_wp2_with (first | (at_builtin; refine wl_append rfl _ _ _ _ rfl _ _ rfl rfl ?_) | (at_make; refine wl_make rfl _ _ _ rfl _ _ rfl rfl ?_) | (at_mapUpdate; refine wl_mapUpdate rfl _ _ _ _ rfl _ _ _ rfl rfl rfl ?_) | (at_lookup; refine wl_lookup rfl _ _ _ _ rfl _ _ rfl rfl ?_) | (at_delete; refine wl_delete rfl _ _ _ _ rfl _ _ rfl rfl ?_) | (with_reducible refine wl_len rfl _ _ rfl _ rfl ?_) | (with_reducible refine wl_range rfl _ _ rfl _ rfl ?_) | (with_reducible refine wl_next rfl _ rfl _ rfl ?_) | (with_reducible refine wl_copy rfl _ _ _ _ rfl _ _ rfl rfl ?_) | (with_reducible refine wl_max rfl _ _ _ _ rfl _ _ rfl rfl ?_) | (with_reducible refine wl_min rfl _ _ _ _ rfl _ _ rfl rfl ?_))
          go_roundw
          case rel => exact ⟨k + 1, _, by go_num, hlt, hBl2, hBe2, ho2, hk2⟩
          case measure => simp [intOf]; omega
      · obtain rfl : k = 768 := Nat.le_antisymm hk hge
        have hS10 := hS9.no hA9 hkr
        have hA10 : ∀ k, (w1.heap.size ≤ k ∧ k < w3.heap.size) → k < wr.heap.size := fun k hk => Nat.lt_of_lt_of_le (hA9 k hk) hkr.size
        have hkk := hk9'.trans' hkr
        clear ho hBe hS9 hA9
        go_wp2_with (first | (at_builtin; refine wl_append rfl _ _ _ _ rfl _ _ rfl rfl ?_) | (at_make; refine wl_make rfl _ _ _ rfl _ _ rfl rfl ?_) | (at_mapUpdate; refine wl_mapUpdate rfl _ _ _ _ rfl _ _ _ rfl rfl rfl ?_) | (at_lookup; refine wl_lookup rfl _ _ _ _ rfl _ _ rfl rfl ?_) | (at_delete; refine wl_delete rfl _ _ _ _ rfl _ _ rfl rfl ?_) | (with_reducible refine wl_len rfl _ _ rfl _ rfl ?_) | (with_reducible refine wl_range rfl _ _ rfl _ rfl ?_) | (with_reducible refine wl_next rfl _ rfl _ rfl ?_) | (with_reducible refine wl_copy rfl _ _ _ _ rfl _ _ rfl rfl ?_) | (with_reducible refine wl_max rfl _ _ _ _ rfl _ _ rfl rfl ?_) | (with_reducible refine wl_min rfl _ _ _ _ rfl _ _ rfl rfl ?_))
        refine (vpages_any hS10 hA10 (by rw [p10]; omega)).mono ?_
        rintro e w11 ⟨v, g, rfl, hP, hk11⟩
        obtain ⟨av, cv, rfl, _, _⟩ := hP.row.fl.shape
        rw [p10] at hP ⊢
        have hS11 := hS10.no hA10 hk11
        have hA11 : ∀ k, (w1.heap.size ≤ k ∧ k < w3.heap.size) → k < w11.heap.size := fun k hk => Nat.lt_of_lt_of_le (hA10 k hk) hk11.size
        have hkk11 := hkk.trans' hk11
        have hrow := hP.row
        have hpg : ∀ p ∈ M1, wr.heap.size ≤ g p.addr ∧ ∃ C, Blk w11 (g p.addr) C 67 ∧ C.size = 260 := fun p hp => ⟨(hP.pg p hp).1, _, (hP.pg p hp).2, pgC_size (hS11.ok.pg p hp).bl⟩
        clear hP
        generalize wr = wz at *
        go_wp2_with (first | (at_builtin; refine wl_append rfl _ _ _ _ rfl _ _ rfl rfl ?_) | (at_make; refine wl_make rfl _ _ _ rfl _ _ rfl rfl ?_) | (at_mapUpdate; refine wl_mapUpdate rfl _ _ _ _ rfl _ _ _ rfl rfl rfl ?_) | (at_lookup; refine wl_lookup rfl _ _ _ _ rfl _ _ rfl rfl ?_) | (at_delete; refine wl_delete rfl _ _ _ _ rfl _ _ rfl rfl ?_) | (with_reducible refine wl_len rfl _ _ rfl _ rfl ?_) | (with_reducible refine wl_range rfl _ _ rfl _ rfl ?_) | (with_reducible refine wl_next rfl _ rfl _ rfl ?_) | (with_reducible refine wl_copy rfl _ _ _ _ rfl _ _ rfl rfl ?_) | (with_reducible refine wl_max rfl _ _ _ _ rfl _ _ rfl rfl ?_) | (with_reducible refine wl_min rfl _ _ _ _ rfl _ _ rfl rfl ?_))
        go_loopw [24] (fun iv wr => ∃ i : Nat, iv = .int .i64 i ∧ i ≤ 3 ∧ FlO wr wz.heap.size 27 6 (encP g) (.slice av 3 cv) M1 ∧ (∀ p ∈ M1, wz.heap.size ≤ g p.addr ∧ ∃ C, Blk wr (g p.addr) C 67 ∧ C.size = 260) ∧ Keep No wz wr) (fun iv _ => 3 - (intOf iv).toNat)
        case atStart => exact ⟨0, rfl, Nat.zero_le _, hrow, hpg, hk11⟩
        case round =>
          clear hrow hpg hk11 hS11 hA11 hkk11
          obtain ⟨i, rfl, hi, hrow, hpg, hkq⟩ := hrel
          rcases Nat.lt_or_ge i 3 with hlt | hge
          · have hil : i < M1.length := by omega
            obtain ⟨g1, off1, cap1, e1, _, hg1, _, _, hc⟩ := hrow.fl.at (encP_len g) hil
            have hav : av = some ⟨g1, off1, none⟩ := (Value.slice.inj e1).1
            subst hav
            have hb5 : wr.cell? ⟨g1, off1 + i * 6 + 5, none⟩ = some (.slice (some ⟨g M1[i].addr, 4, none⟩) 256 256) := hc 5 _ rfl
            obtain ⟨hgb, C, hB, hCs⟩ := hpg M1[i] (List.getElem_mem hil)
            have hc4 : wr.cell? ⟨g M1[i].addr, 4, none⟩ = some C[4] := by rw [hB.cell]; exact Array.getElem?_eq_getElem (by omega)
            have hf4 : wr.frozen? ⟨g M1[i].addr, 4, none⟩ = false := hB.frozen 4
            have hkS : Keep (fun j => j = g M1[i].addr) wr (wr.setCell ⟨g M1[i].addr, 4, none⟩ (.int .u8 9)) := (Keep.refl (fun j => j = g M1[i].addr) wr).setCell (p := ⟨g M1[i].addr, 4, none⟩) (fun _ => rfl) _
            have hpg2 : ∀ p ∈ M1, wz.heap.size ≤ g p.addr ∧ ∃ C, Blk (wr.setCell ⟨g M1[i].addr, 4, none⟩ (.int .u8 9)) (g p.addr) C 67 ∧ C.size = 260 := fun p hp => by
              obtain ⟨h1, C', hB', hC'⟩ := hpg p hp
              refine ⟨h1, ?_⟩
              by_cases e : g p.addr = g M1[i].addr
              · rw [e]
                exact ⟨_, hB.set (i := 4) (.int .u8 9), by rw [Array.size_setIfInBounds]; exact hCs⟩
              · exact ⟨C', hB'.keep hkS e, hC'⟩
            have hrow2 : FlO (wr.setCell ⟨g M1[i].addr, 4, none⟩ (.int .u8 9)) wz.heap.size 27 6 (encP g) (.slice (some ⟨g1, off1, none⟩) 3 cv) M1 := hrow.same fun b hb => hkS.block b (World.ownsRow.lt hrow b hb).2 fun e => by
              have e2 : b = g M1[i].addr := e
              rcases hrow.2 with ⟨e3, _⟩ | ⟨g9, cap9, cur9, e3, _, hB9, _⟩
              · cases e3
              · rw [e3] at hb
                simp only [Value.ownBlock, Option.some.injEq] at hb
                have hB' : wr.heap[b]? = some (Obj.cells C 67 (0, 0)) := by rw [e2]; exact hB
                rw [hb, hB'] at hB9
                simp at hB9
            have hk2 : Keep No wz (wr.setCell ⟨g M1[i].addr, 4, none⟩ (.int .u8 9)) := hkq.new hgb _
            clear hkS hpg hrow hB hc
            generalize g M1[i].addr = nb at *
            generalize C[4] = u4 at *
            have hiz : (i : Int) < 3 := by omega
            go_wp2_with (first | (at_builtin; refine wl_append rfl _ _ _ _ rfl _ _ rfl rfl ?_) | (at_make; refine wl_make rfl _ _ _ rfl _ _ rfl rfl ?_) | (at_mapUpdate; refine wl_mapUpdate rfl _ _ _ _ rfl _ _ _ rfl rfl rfl ?_) | (at_lookup; refine wl_lookup rfl _ _ _ _ rfl _ _ rfl rfl ?_) | (at_delete; refine wl_delete rfl _ _ _ _ rfl _ _ rfl rfl ?_) | (with_reducible refine wl_len rfl _ _ rfl _ rfl ?_) | (with_reducible refine wl_range rfl _ _ rfl _ rfl ?_) | (with_reducible refine wl_next rfl _ rfl _ rfl ?_) | (with_reducible refine wl_copy rfl _ _ _ _ rfl _ _ rfl rfl ?_) | (with_reducible refine wl_max rfl _ _ _ _ rfl _ _ rfl rfl ?_) | (with_reducible refine wl_min rfl _ _ _ _ rfl _ _ rfl rfl ?_))
            go_roundw
            case rel => exact ⟨i + 1, by go_num, hlt, hrow2, hpg2, hk2⟩
            case measure => simp [intOf]; omega
          · obtain rfl : i = 3 := Nat.le_antisymm hi hge
            have hS12 := hS10.no hA10 hkq
            have hA12 : ∀ k, (w1.heap.size ≤ k ∧ k < w3.heap.size) → k < wr.heap.size := fun k hk => Nat.lt_of_lt_of_le (hA10 k hk) hkq.size
            go_wp2_with (first | (at_builtin; refine wl_append rfl _ _ _ _ rfl _ _ rfl rfl ?_) | (at_make; refine wl_make rfl _ _ _ rfl _ _ rfl rfl ?_) | (at_mapUpdate; refine wl_mapUpdate rfl _ _ _ _ rfl _ _ _ rfl rfl rfl ?_) | (at_lookup; refine wl_lookup rfl _ _ _ _ rfl _ _ rfl rfl ?_) | (at_delete; refine wl_delete rfl _ _ _ _ rfl _ _ rfl rfl ?_) | (with_reducible refine wl_len rfl _ _ rfl _ rfl ?_) | (with_reducible refine wl_range rfl _ _ rfl _ rfl ?_) | (with_reducible refine wl_next rfl _ rfl _ rfl ?_) | (with_reducible refine wl_copy rfl _ _ _ _ rfl _ _ rfl rfl ?_) | (with_reducible refine wl_max rfl _ _ _ _ rfl _ _ rfl rfl ?_) | (with_reducible refine wl_min rfl _ _ _ _ rfl _ _ rfl rfl ?_))
            refine (vload_any a ((8 : Nat) : Int) (by omega) (by omega) (by omega) hS12 hA12).mono ?_
            rintro e w13 ⟨rfl, hk13⟩
            rw [p3, p4]
            go_wp2_with (first | (at_builtin; refine wl_append rfl _ _ _ _ rfl _ _ rfl rfl ?_) | (at_make; refine wl_make rfl _ _ _ rfl _ _ rfl rfl ?_) | (at_mapUpdate; refine wl_mapUpdate rfl _ _ _ _ rfl _ _ _ rfl rfl rfl ?_) | (at_lookup; refine wl_lookup rfl _ _ _ _ rfl _ _ rfl rfl ?_) | (at_delete; refine wl_delete rfl _ _ _ _ rfl _ _ rfl rfl ?_) | (with_reducible refine wl_len rfl _ _ rfl _ rfl ?_) | (with_reducible refine wl_range rfl _ _ rfl _ rfl ?_) | (with_reducible refine wl_next rfl _ rfl _ rfl ?_) | (with_reducible refine wl_copy rfl _ _ _ _ rfl _ _ rfl rfl ?_) | (with_reducible refine wl_max rfl _ _ _ _ rfl _ _ rfl rfl ?_) | (with_reducible refine wl_min rfl _ _ _ _ rfl _ _ rfl rfl ?_))
            go_ret
            exact ⟨rfl, hK1.trans' ((hkk.trans' hkq).trans' hk13)⟩
end
end Go.Proofs.Ytaoillfofiehpaa
