/- DiskNames: the disk's states, no program. No condition. -/
import Derived.Test.YtkmoomgmmhmaeaaLawAwake
namespace Go.Dm.Dk
def dn1 : M := ⟨1000, [[]], [[]], [([97], 0)], [], [⟨2, 0, 0, [], [], [97]⟩], false, 0⟩
def dn2 : M := ⟨1000, [[], []], [[], []], [([97], 0), ([98], 1)], [], [⟨2, 0, 0, [], [], [97]⟩, ⟨2, 1, 0, [], [], [98]⟩], false, 0⟩
def dn3 (a : List UInt8) : M := { dn2 with is := [a, []], wait := dn2.wait ++ [⟨1, 0, 0, a, [], []⟩] }
def dn4 (a b : List UInt8) : M := { dn2 with is := [a, b], wait := (dn3 a).wait ++ [⟨1, 1, 0, b, [], []⟩] }
def dnS (a b : List UInt8) : M := { dn4 a b with L := [([98], 1), ([97], 0)], wait := (dn4 a b).wait ++ [⟨3, 0, 0, [], [97], [97]⟩] }
def dnT (a b : List UInt8) : M := { dn4 a b with L := [([98], 0)], wait := (dn4 a b).wait ++ [⟨3, 0, 0, [], [97], [98]⟩] }
def dnU (a b : List UInt8) : M := { dn4 a b with L := [], wait := (dnT a b).wait ++ [⟨4, 0, 0, [], [98], []⟩] }
theorem dn_1 : call (Dk.new 1000) 1 [97] [] 0 [] = (dn1, 0) := by kernel_rfl
theorem dn_2 : call dn1 1 [98] [] 0 [] = (dn2, 0) := by kernel_rfl
theorem laidB_nil (a : List UInt8) : laidB [] 0 a = a := by simp [laidB, splice]
theorem dn_3 (a : List UInt8) (ha : a.length ≤ 300) : call dn2 2 [97] [] 0 a = (dn3 a, 0) := by
  have hf : find dn2.L [97] = some 0 := by kernel_rfl
  have hu : used dn2 = 0 := by kernel_rfl
  have ho : own dn2 2 [97] [] 0 a = 0 := by
    simp only [own, hf, hu]
    rw [if_neg (by simp [fileLen, dn2]), if_neg (by simp [fileLen, dn2]; omega)]
  simp only [call, ho]
  simp [dn2, dn3, done, waitD, putF, laidB_nil, show find [([97], 0), ([98], 1)] [97] = some 0 from hf]
theorem dn_4 (a b : List UInt8) (ha : a.length ≤ 300) (hb : b.length ≤ 300) : call (dn3 a) 2 [98] [] 0 b = (dn4 a b, 0) := by
  have hf : find dn2.L [98] = some 1 := by kernel_rfl
  have hf2 : find (dn3 a).L [98] = some 1 := hf
  have hu : used (dn3 a) = a.length := by simp [used, dn3, dn2, fileLen]
  have ho : own (dn3 a) 2 [98] [] 0 b = 0 := by
    simp only [own, hf2, hu]
    rw [if_neg (by simp [fileLen, dn3, dn2]), if_neg (by simp [fileLen, dn3, dn2]; omega)]
  simp only [call, ho]
  simp [dn2, dn3, dn4, done, waitD, putF, laidB_nil, show find [([97], 0), ([98], 1)] [98] = some 1 from hf]
theorem dn_S (a b : List UInt8) : call (dn4 a b) 4 [97] [97] 0 [] = (dnS a b, 0) := rfl
theorem dn_T (a b : List UInt8) : call (dn4 a b) 4 [97] [98] 0 [] = (dnT a b, 0) := rfl
theorem dn_U (a b : List UInt8) : call (dnT a b) 5 [98] [] 0 [] = (dnU a b, 0) := rfl
theorem dn_V (a b : List UInt8) : call (dnU a b) 4 [98] [99] 0 [] = (dnU a b, 20) := rfl
theorem dn_W (a b : List UInt8) : call (dnU a b) 5 [98] [] 0 [] = (dnU a b, 20) := rfl
theorem dnS_e (a b : List UInt8) : readE (dnS a b) [97] = 0 := rfl
theorem dnS_b (a b : List UInt8) : readB (dnS a b) [97] = a := rfl
theorem dnS_n (a b : List UInt8) : (namesOf (dnS a b)).length = 2 := by unfold namesOf; rw [List.length_mergeSort]; rfl
theorem dnS_u (a b : List UInt8) : used (dnS a b) = a.length + b.length := by simp [used, dnS, dn4, dn2, fileLen]; omega
theorem dnT_e (a b : List UInt8) : readE (dnT a b) [98] = 0 := rfl
theorem dnT_b (a b : List UInt8) : readB (dnT a b) [98] = a := rfl
theorem dnT_f (a b : List UInt8) : readE (dnT a b) [97] = 20 := rfl
theorem dnT_u (a b : List UInt8) : used (dnT a b) = a.length := by simp [used, dnT, dn4, dn2, fileLen]
theorem dnU_n (a b : List UInt8) : (namesOf (dnU a b)).length = 0 := by unfold namesOf; rw [List.length_mergeSort]; rfl
theorem dn_s1 : Small dn1 1 300 := by have := (Small.new 1000 (by omega)).call (b := 300) 1 [97] [] 0 [] (by simp) (by simp) (by simp); rw [dn_1] at this; exact this
theorem dn_s2 : Small dn2 2 600 := by have := dn_s1.call (b := 300) 1 [98] [] 0 [] (by simp) (by simp) (by simp); rw [dn_2] at this; exact this
theorem dn_s3 (a : List UInt8) (ha : a.length ≤ 300) : Small (dn3 a) 3 900 := by have := dn_s2.call (b := 300) 2 [97] [] 0 a (by simp) (by simp) ha; rw [dn_3 a ha] at this; exact this
theorem dn_s4 (a b : List UInt8) (ha : a.length ≤ 300) (hb : b.length ≤ 300) : Small (dn4 a b) 4 1200 := by have := (dn_s3 a ha).call (b := 300) 2 [98] [] 0 b (by simp) (by simp) hb; rw [dn_4 a b ha hb] at this; exact this
theorem dn_sS (a b : List UInt8) (ha : a.length ≤ 300) (hb : b.length ≤ 300) : Small (dnS a b) 5 1500 := by have := (dn_s4 a b ha hb).call (b := 300) 4 [97] [97] 0 [] (by simp) (by simp) (by simp); rw [dn_S] at this; exact this
theorem dn_sT (a b : List UInt8) (ha : a.length ≤ 300) (hb : b.length ≤ 300) : Small (dnT a b) 5 1500 := by have := (dn_s4 a b ha hb).call (b := 300) 4 [97] [98] 0 [] (by simp) (by simp) (by simp); rw [dn_T] at this; exact this
theorem dn_sU (a b : List UInt8) (ha : a.length ≤ 300) (hb : b.length ≤ 300) : Small (dnU a b) 6 1800 := by have := (dn_sT a b ha hb).call (b := 300) 5 [98] [] 0 [] (by simp) (by simp) (by simp); rw [dn_U] at this; exact this
end Go.Dm.Dk
