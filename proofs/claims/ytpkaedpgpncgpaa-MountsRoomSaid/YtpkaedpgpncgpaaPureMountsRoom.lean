/- MountsRoom, without memory: each of the law's fifty lengths is one run of a fixed row of states, which the kernel computes step by step. -/
import Derived.Test.YtpkaedpgpncgpaaMRef
import Derived.Test.YtpkaedpgpncgpaaQx14
import Derived.Test.YtpkaedpgpncgpaaQx6
import Derived.KernelRfl
namespace Go.Proofs.Ytpkaedpgpncgpaa.Pure
open Go.RowKit Go.Proofs.Ytpkaedpgpncgpaa.Q Go.Proofs.Ytpkaedpgpncgpaa.MBegin Go.Proofs.Ytpkaedpgpncgpaa.PathF Go.Proofs.Ytpkaedpgpncgpaa.Mnt Go.Proofs.YtpkaedpgpncgpaaW.PrintWords Go.Proofs.YtpkaedpgpncgpaaW.PrintLast

def rdg (n : Nat) : UInt8 := UInt8.ofNat (48 + n % 10)
/-- the i-th part, its path, its mount, and the mounts behind i rounds -/
def rP (i : Nat) : ByteArray := ⟨#[112, rdg (i / 1000), rdg (i / 100), rdg (i / 10), rdg i]⟩
def rQ (i : Nat) : ByteArray := ⟨#[47, 112, rdg (i / 1000), rdg (i / 100), rdg (i / 10), rdg i]⟩
def rS (i : Nat) : S27 := ⟨rQ i, 1, 2, 1⟩
def St (i : Nat) : List S27 := ⟨⟨#[47]⟩, 0, 1, 0⟩ :: (List.range i).map rS
def stepR (i : Nat) : Option (Int × Int × List S27 × Int) :=
  (mounts_Begin.f (St i) (rQ i) 1).bind fun r => (mounts_Flip.f r.1 (rQ i) 1 1).bind fun q => some (r.2.2.2.2.2, r.2.2.2.1, q.1, q.2)
def moreR (i : Nat) : Option (List S27 × Int) := (mounts_Begin.f (St 31) (rQ i) 1).bind fun r => some (r.1, r.2.2.2.2.2)
def lastR (i : Nat) : Option (Int × Int × Int) := (mounts_Begin.f (St i) ⟨#[47, 112, 48, 48, 48, 48]⟩ 0).bind fun r => some (r.2.2.2.2.2, r.2.2.1, r.2.2.2.1)
theorem num_0 : cantonref01_Numbered.f 20 ⟨#[112]⟩ 0 = some (rP 0, true) := by kernel_rfl
theorem num_1 : cantonref01_Numbered.f 20 ⟨#[112]⟩ 1 = some (rP 1, true) := by kernel_rfl
theorem num_2 : cantonref01_Numbered.f 20 ⟨#[112]⟩ 2 = some (rP 2, true) := by kernel_rfl
theorem num_3 : cantonref01_Numbered.f 20 ⟨#[112]⟩ 3 = some (rP 3, true) := by kernel_rfl
theorem num_4 : cantonref01_Numbered.f 20 ⟨#[112]⟩ 4 = some (rP 4, true) := by kernel_rfl
theorem num_5 : cantonref01_Numbered.f 20 ⟨#[112]⟩ 5 = some (rP 5, true) := by kernel_rfl
theorem num_6 : cantonref01_Numbered.f 20 ⟨#[112]⟩ 6 = some (rP 6, true) := by kernel_rfl
theorem num_7 : cantonref01_Numbered.f 20 ⟨#[112]⟩ 7 = some (rP 7, true) := by kernel_rfl
theorem num_8 : cantonref01_Numbered.f 20 ⟨#[112]⟩ 8 = some (rP 8, true) := by kernel_rfl
theorem num_9 : cantonref01_Numbered.f 20 ⟨#[112]⟩ 9 = some (rP 9, true) := by kernel_rfl
theorem num_10 : cantonref01_Numbered.f 20 ⟨#[112]⟩ 10 = some (rP 10, true) := by kernel_rfl
theorem num_11 : cantonref01_Numbered.f 20 ⟨#[112]⟩ 11 = some (rP 11, true) := by kernel_rfl
theorem num_12 : cantonref01_Numbered.f 20 ⟨#[112]⟩ 12 = some (rP 12, true) := by kernel_rfl
theorem num_13 : cantonref01_Numbered.f 20 ⟨#[112]⟩ 13 = some (rP 13, true) := by kernel_rfl
theorem num_14 : cantonref01_Numbered.f 20 ⟨#[112]⟩ 14 = some (rP 14, true) := by kernel_rfl
theorem num_15 : cantonref01_Numbered.f 20 ⟨#[112]⟩ 15 = some (rP 15, true) := by kernel_rfl
theorem num_16 : cantonref01_Numbered.f 20 ⟨#[112]⟩ 16 = some (rP 16, true) := by kernel_rfl
theorem num_17 : cantonref01_Numbered.f 20 ⟨#[112]⟩ 17 = some (rP 17, true) := by kernel_rfl
theorem num_18 : cantonref01_Numbered.f 20 ⟨#[112]⟩ 18 = some (rP 18, true) := by kernel_rfl
theorem num_19 : cantonref01_Numbered.f 20 ⟨#[112]⟩ 19 = some (rP 19, true) := by kernel_rfl
theorem num_20 : cantonref01_Numbered.f 20 ⟨#[112]⟩ 20 = some (rP 20, true) := by kernel_rfl
theorem num_21 : cantonref01_Numbered.f 20 ⟨#[112]⟩ 21 = some (rP 21, true) := by kernel_rfl
theorem num_22 : cantonref01_Numbered.f 20 ⟨#[112]⟩ 22 = some (rP 22, true) := by kernel_rfl
theorem num_23 : cantonref01_Numbered.f 20 ⟨#[112]⟩ 23 = some (rP 23, true) := by kernel_rfl
theorem num_24 : cantonref01_Numbered.f 20 ⟨#[112]⟩ 24 = some (rP 24, true) := by kernel_rfl
theorem num_25 : cantonref01_Numbered.f 20 ⟨#[112]⟩ 25 = some (rP 25, true) := by kernel_rfl
theorem num_26 : cantonref01_Numbered.f 20 ⟨#[112]⟩ 26 = some (rP 26, true) := by kernel_rfl
theorem num_27 : cantonref01_Numbered.f 20 ⟨#[112]⟩ 27 = some (rP 27, true) := by kernel_rfl
theorem num_28 : cantonref01_Numbered.f 20 ⟨#[112]⟩ 28 = some (rP 28, true) := by kernel_rfl
theorem num_29 : cantonref01_Numbered.f 20 ⟨#[112]⟩ 29 = some (rP 29, true) := by kernel_rfl
theorem num_30 : cantonref01_Numbered.f 20 ⟨#[112]⟩ 30 = some (rP 30, true) := by kernel_rfl
theorem num_31 : cantonref01_Numbered.f 20 ⟨#[112]⟩ 31 = some (rP 31, true) := by kernel_rfl
theorem num_32 : cantonref01_Numbered.f 20 ⟨#[112]⟩ 32 = some (rP 32, true) := by kernel_rfl
theorem num_33 : cantonref01_Numbered.f 20 ⟨#[112]⟩ 33 = some (rP 33, true) := by kernel_rfl
theorem num_34 : cantonref01_Numbered.f 20 ⟨#[112]⟩ 34 = some (rP 34, true) := by kernel_rfl
theorem num_35 : cantonref01_Numbered.f 20 ⟨#[112]⟩ 35 = some (rP 35, true) := by kernel_rfl
theorem num_36 : cantonref01_Numbered.f 20 ⟨#[112]⟩ 36 = some (rP 36, true) := by kernel_rfl
theorem num_37 : cantonref01_Numbered.f 20 ⟨#[112]⟩ 37 = some (rP 37, true) := by kernel_rfl
theorem num_38 : cantonref01_Numbered.f 20 ⟨#[112]⟩ 38 = some (rP 38, true) := by kernel_rfl
theorem num_39 : cantonref01_Numbered.f 20 ⟨#[112]⟩ 39 = some (rP 39, true) := by kernel_rfl
theorem num_40 : cantonref01_Numbered.f 20 ⟨#[112]⟩ 40 = some (rP 40, true) := by kernel_rfl
theorem num_41 : cantonref01_Numbered.f 20 ⟨#[112]⟩ 41 = some (rP 41, true) := by kernel_rfl
theorem num_42 : cantonref01_Numbered.f 20 ⟨#[112]⟩ 42 = some (rP 42, true) := by kernel_rfl
theorem num_43 : cantonref01_Numbered.f 20 ⟨#[112]⟩ 43 = some (rP 43, true) := by kernel_rfl
theorem num_44 : cantonref01_Numbered.f 20 ⟨#[112]⟩ 44 = some (rP 44, true) := by kernel_rfl
theorem num_45 : cantonref01_Numbered.f 20 ⟨#[112]⟩ 45 = some (rP 45, true) := by kernel_rfl
theorem num_46 : cantonref01_Numbered.f 20 ⟨#[112]⟩ 46 = some (rP 46, true) := by kernel_rfl
theorem num_47 : cantonref01_Numbered.f 20 ⟨#[112]⟩ 47 = some (rP 47, true) := by kernel_rfl
theorem num_48 : cantonref01_Numbered.f 20 ⟨#[112]⟩ 48 = some (rP 48, true) := by kernel_rfl
theorem step_0 : stepR 0 = some (0, 1, St 1, 0) := by kernel_rfl
theorem step_1 : stepR 1 = some (0, 1, St 2, 0) := by kernel_rfl
theorem step_2 : stepR 2 = some (0, 1, St 3, 0) := by kernel_rfl
theorem step_3 : stepR 3 = some (0, 1, St 4, 0) := by kernel_rfl
theorem step_4 : stepR 4 = some (0, 1, St 5, 0) := by kernel_rfl
theorem step_5 : stepR 5 = some (0, 1, St 6, 0) := by kernel_rfl
theorem step_6 : stepR 6 = some (0, 1, St 7, 0) := by kernel_rfl
theorem step_7 : stepR 7 = some (0, 1, St 8, 0) := by kernel_rfl
theorem step_8 : stepR 8 = some (0, 1, St 9, 0) := by kernel_rfl
theorem step_9 : stepR 9 = some (0, 1, St 10, 0) := by kernel_rfl
theorem step_10 : stepR 10 = some (0, 1, St 11, 0) := by kernel_rfl
theorem step_11 : stepR 11 = some (0, 1, St 12, 0) := by kernel_rfl
theorem step_12 : stepR 12 = some (0, 1, St 13, 0) := by kernel_rfl
theorem step_13 : stepR 13 = some (0, 1, St 14, 0) := by kernel_rfl
theorem step_14 : stepR 14 = some (0, 1, St 15, 0) := by kernel_rfl
theorem step_15 : stepR 15 = some (0, 1, St 16, 0) := by kernel_rfl
theorem step_16 : stepR 16 = some (0, 1, St 17, 0) := by kernel_rfl
theorem step_17 : stepR 17 = some (0, 1, St 18, 0) := by kernel_rfl
theorem step_18 : stepR 18 = some (0, 1, St 19, 0) := by kernel_rfl
theorem step_19 : stepR 19 = some (0, 1, St 20, 0) := by kernel_rfl
theorem step_20 : stepR 20 = some (0, 1, St 21, 0) := by kernel_rfl
theorem step_21 : stepR 21 = some (0, 1, St 22, 0) := by kernel_rfl
theorem step_22 : stepR 22 = some (0, 1, St 23, 0) := by kernel_rfl
theorem step_23 : stepR 23 = some (0, 1, St 24, 0) := by kernel_rfl
theorem step_24 : stepR 24 = some (0, 1, St 25, 0) := by kernel_rfl
theorem step_25 : stepR 25 = some (0, 1, St 26, 0) := by kernel_rfl
theorem step_26 : stepR 26 = some (0, 1, St 27, 0) := by kernel_rfl
theorem step_27 : stepR 27 = some (0, 1, St 28, 0) := by kernel_rfl
theorem step_28 : stepR 28 = some (0, 1, St 29, 0) := by kernel_rfl
theorem step_29 : stepR 29 = some (0, 1, St 30, 0) := by kernel_rfl
theorem step_30 : stepR 30 = some (0, 1, St 31, 0) := by kernel_rfl
theorem more_31 : moreR 31 = some (St 31, 2) := by kernel_rfl
theorem more_32 : moreR 32 = some (St 31, 2) := by kernel_rfl
theorem more_33 : moreR 33 = some (St 31, 2) := by kernel_rfl
theorem more_34 : moreR 34 = some (St 31, 2) := by kernel_rfl
theorem more_35 : moreR 35 = some (St 31, 2) := by kernel_rfl
theorem more_36 : moreR 36 = some (St 31, 2) := by kernel_rfl
theorem more_37 : moreR 37 = some (St 31, 2) := by kernel_rfl
theorem more_38 : moreR 38 = some (St 31, 2) := by kernel_rfl
theorem more_39 : moreR 39 = some (St 31, 2) := by kernel_rfl
theorem more_40 : moreR 40 = some (St 31, 2) := by kernel_rfl
theorem more_41 : moreR 41 = some (St 31, 2) := by kernel_rfl
theorem more_42 : moreR 42 = some (St 31, 2) := by kernel_rfl
theorem more_43 : moreR 43 = some (St 31, 2) := by kernel_rfl
theorem more_44 : moreR 44 = some (St 31, 2) := by kernel_rfl
theorem more_45 : moreR 45 = some (St 31, 2) := by kernel_rfl
theorem more_46 : moreR 46 = some (St 31, 2) := by kernel_rfl
theorem more_47 : moreR 47 = some (St 31, 2) := by kernel_rfl
theorem more_48 : moreR 48 = some (St 31, 2) := by kernel_rfl
theorem last_1 : lastR 1 = some (0, 1, 2) := by kernel_rfl
theorem last_2 : lastR 2 = some (0, 1, 2) := by kernel_rfl
theorem last_3 : lastR 3 = some (0, 1, 2) := by kernel_rfl
theorem last_4 : lastR 4 = some (0, 1, 2) := by kernel_rfl
theorem last_5 : lastR 5 = some (0, 1, 2) := by kernel_rfl
theorem last_6 : lastR 6 = some (0, 1, 2) := by kernel_rfl
theorem last_7 : lastR 7 = some (0, 1, 2) := by kernel_rfl
theorem last_8 : lastR 8 = some (0, 1, 2) := by kernel_rfl
theorem last_9 : lastR 9 = some (0, 1, 2) := by kernel_rfl
theorem last_10 : lastR 10 = some (0, 1, 2) := by kernel_rfl
theorem last_11 : lastR 11 = some (0, 1, 2) := by kernel_rfl
theorem last_12 : lastR 12 = some (0, 1, 2) := by kernel_rfl
theorem last_13 : lastR 13 = some (0, 1, 2) := by kernel_rfl
theorem last_14 : lastR 14 = some (0, 1, 2) := by kernel_rfl
theorem last_15 : lastR 15 = some (0, 1, 2) := by kernel_rfl
theorem last_16 : lastR 16 = some (0, 1, 2) := by kernel_rfl
theorem last_17 : lastR 17 = some (0, 1, 2) := by kernel_rfl
theorem last_18 : lastR 18 = some (0, 1, 2) := by kernel_rfl
theorem last_19 : lastR 19 = some (0, 1, 2) := by kernel_rfl
theorem last_20 : lastR 20 = some (0, 1, 2) := by kernel_rfl
theorem last_21 : lastR 21 = some (0, 1, 2) := by kernel_rfl
theorem last_22 : lastR 22 = some (0, 1, 2) := by kernel_rfl
theorem last_23 : lastR 23 = some (0, 1, 2) := by kernel_rfl
theorem last_24 : lastR 24 = some (0, 1, 2) := by kernel_rfl
theorem last_25 : lastR 25 = some (0, 1, 2) := by kernel_rfl
theorem last_26 : lastR 26 = some (0, 1, 2) := by kernel_rfl
theorem last_27 : lastR 27 = some (0, 1, 2) := by kernel_rfl
theorem last_28 : lastR 28 = some (0, 1, 2) := by kernel_rfl
theorem last_29 : lastR 29 = some (0, 1, 2) := by kernel_rfl
theorem last_30 : lastR 30 = some (0, 1, 2) := by kernel_rfl
theorem last_31 : lastR 31 = some (0, 1, 2) := by kernel_rfl
theorem num_all : ∀ i : Nat, 0 ≤ i → i < 49 → cantonref01_Numbered.f 20 ⟨#[112]⟩ (i : Int) = some (rP i, true)
  | 0, _, _ => num_0
  | 1, _, _ => num_1
  | 2, _, _ => num_2
  | 3, _, _ => num_3
  | 4, _, _ => num_4
  | 5, _, _ => num_5
  | 6, _, _ => num_6
  | 7, _, _ => num_7
  | 8, _, _ => num_8
  | 9, _, _ => num_9
  | 10, _, _ => num_10
  | 11, _, _ => num_11
  | 12, _, _ => num_12
  | 13, _, _ => num_13
  | 14, _, _ => num_14
  | 15, _, _ => num_15
  | 16, _, _ => num_16
  | 17, _, _ => num_17
  | 18, _, _ => num_18
  | 19, _, _ => num_19
  | 20, _, _ => num_20
  | 21, _, _ => num_21
  | 22, _, _ => num_22
  | 23, _, _ => num_23
  | 24, _, _ => num_24
  | 25, _, _ => num_25
  | 26, _, _ => num_26
  | 27, _, _ => num_27
  | 28, _, _ => num_28
  | 29, _, _ => num_29
  | 30, _, _ => num_30
  | 31, _, _ => num_31
  | 32, _, _ => num_32
  | 33, _, _ => num_33
  | 34, _, _ => num_34
  | 35, _, _ => num_35
  | 36, _, _ => num_36
  | 37, _, _ => num_37
  | 38, _, _ => num_38
  | 39, _, _ => num_39
  | 40, _, _ => num_40
  | 41, _, _ => num_41
  | 42, _, _ => num_42
  | 43, _, _ => num_43
  | 44, _, _ => num_44
  | 45, _, _ => num_45
  | 46, _, _ => num_46
  | 47, _, _ => num_47
  | 48, _, _ => num_48
  | n + 49, _, h => absurd h (by omega)
theorem step_all : ∀ i : Nat, 0 ≤ i → i < 31 → stepR i = some (0, 1, St (i + 1), 0)
  | 0, _, _ => step_0
  | 1, _, _ => step_1
  | 2, _, _ => step_2
  | 3, _, _ => step_3
  | 4, _, _ => step_4
  | 5, _, _ => step_5
  | 6, _, _ => step_6
  | 7, _, _ => step_7
  | 8, _, _ => step_8
  | 9, _, _ => step_9
  | 10, _, _ => step_10
  | 11, _, _ => step_11
  | 12, _, _ => step_12
  | 13, _, _ => step_13
  | 14, _, _ => step_14
  | 15, _, _ => step_15
  | 16, _, _ => step_16
  | 17, _, _ => step_17
  | 18, _, _ => step_18
  | 19, _, _ => step_19
  | 20, _, _ => step_20
  | 21, _, _ => step_21
  | 22, _, _ => step_22
  | 23, _, _ => step_23
  | 24, _, _ => step_24
  | 25, _, _ => step_25
  | 26, _, _ => step_26
  | 27, _, _ => step_27
  | 28, _, _ => step_28
  | 29, _, _ => step_29
  | 30, _, _ => step_30
  | n + 31, _, h => absurd h (by omega)
theorem more_all : ∀ i : Nat, 31 ≤ i → i < 49 → moreR i = some (St 31, 2)
  | 31, _, _ => more_31
  | 32, _, _ => more_32
  | 33, _, _ => more_33
  | 34, _, _ => more_34
  | 35, _, _ => more_35
  | 36, _, _ => more_36
  | 37, _, _ => more_37
  | 38, _, _ => more_38
  | 39, _, _ => more_39
  | 40, _, _ => more_40
  | 41, _, _ => more_41
  | 42, _, _ => more_42
  | 43, _, _ => more_43
  | 44, _, _ => more_44
  | 45, _, _ => more_45
  | 46, _, _ => more_46
  | 47, _, _ => more_47
  | 48, _, _ => more_48
  | 0, h, _ => absurd h (by omega)
  | 1, h, _ => absurd h (by omega)
  | 2, h, _ => absurd h (by omega)
  | 3, h, _ => absurd h (by omega)
  | 4, h, _ => absurd h (by omega)
  | 5, h, _ => absurd h (by omega)
  | 6, h, _ => absurd h (by omega)
  | 7, h, _ => absurd h (by omega)
  | 8, h, _ => absurd h (by omega)
  | 9, h, _ => absurd h (by omega)
  | 10, h, _ => absurd h (by omega)
  | 11, h, _ => absurd h (by omega)
  | 12, h, _ => absurd h (by omega)
  | 13, h, _ => absurd h (by omega)
  | 14, h, _ => absurd h (by omega)
  | 15, h, _ => absurd h (by omega)
  | 16, h, _ => absurd h (by omega)
  | 17, h, _ => absurd h (by omega)
  | 18, h, _ => absurd h (by omega)
  | 19, h, _ => absurd h (by omega)
  | 20, h, _ => absurd h (by omega)
  | 21, h, _ => absurd h (by omega)
  | 22, h, _ => absurd h (by omega)
  | 23, h, _ => absurd h (by omega)
  | 24, h, _ => absurd h (by omega)
  | 25, h, _ => absurd h (by omega)
  | 26, h, _ => absurd h (by omega)
  | 27, h, _ => absurd h (by omega)
  | 28, h, _ => absurd h (by omega)
  | 29, h, _ => absurd h (by omega)
  | 30, h, _ => absurd h (by omega)
  | n + 49, _, h => absurd h (by omega)
theorem last_all : ∀ i : Nat, 1 ≤ i → i < 32 → lastR i = some (0, 1, 2)
  | 1, _, _ => last_1
  | 2, _, _ => last_2
  | 3, _, _ => last_3
  | 4, _, _ => last_4
  | 5, _, _ => last_5
  | 6, _, _ => last_6
  | 7, _, _ => last_7
  | 8, _, _ => last_8
  | 9, _, _ => last_9
  | 10, _, _ => last_10
  | 11, _, _ => last_11
  | 12, _, _ => last_12
  | 13, _, _ => last_13
  | 14, _, _ => last_14
  | 15, _, _ => last_15
  | 16, _, _ => last_16
  | 17, _, _ => last_17
  | 18, _, _ => last_18
  | 19, _, _ => last_19
  | 20, _, _ => last_20
  | 21, _, _ => last_21
  | 22, _, _ => last_22
  | 23, _, _ => last_23
  | 24, _, _ => last_24
  | 25, _, _ => last_25
  | 26, _, _ => last_26
  | 27, _, _ => last_27
  | 28, _, _ => last_28
  | 29, _, _ => last_29
  | 30, _, _ => last_30
  | 31, _, _ => last_31
  | 0, h, _ => absurd h (by omega)
  | n + 32, _, h => absurd h (by omega)
theorem num_le (k n : Nat) (p : ByteArray) (x : Int) (r : ByteArray × Bool) (h : cantonref01_Numbered.f k p x = some r) : cantonref01_Numbered.f (k + n) p x = some r := by
  induction n with
  | zero => exact h
  | succ n ih => exact cantonref01_Numbered.mono p x (k + n) r ih
theorem St_len (i : Nat) : (St i).length = i + 1 := by simp [St]
theorem room_loop (x0 : Int) (n : Nat) (hn : wrap64 (Int.tmod x0 50) = (n : Int)) (h49 : n ≤ 49) : ∀ (j i k : Nat), i + j = n → 2 * j + 100 ≤ k → cantonlaw14_MountsRoom.l0 k x0 true (St (min i 31)) (i : Int) = some true
  | _, _, 0, _, h => absurd h (by omega)
  | 0, i, k + 1, hi, _ => by
    rw [cantonlaw14_MountsRoom.l0, if_neg (by omega), St_len]
    by_cases c : i = 0
    · rw [if_pos (by omega)]
    · rw [if_neg (by omega)]
      have h := last_all (min i 31) (by omega) (by omega)
      unfold lastR at h
      obtain ⟨⟨r1, r2, r3, r4, r5, r6⟩, hr, he⟩ := Option.bind_eq_some_iff.1 h
      simp only [Option.some.injEq, Prod.mk.injEq] at he
      obtain ⟨rfl, rfl, rfl⟩ := he
      rw [hr, Option.bind_some, if_pos rfl, if_pos rfl, if_pos rfl]; rfl
  | j + 1, i, k + 1, hi, hk => by
    obtain ⟨m, rfl⟩ : ∃ m, k = 20 + m := ⟨k - 20, by omega⟩
    have hw : wrap64 ((i : Int) + 1) = ((i + 1 : Nat) : Int) := by rw [w64 (by omega) (by omega)]; omega
    have hq : (⟨#[47]⟩ : ByteArray) ++ rP i = rQ i := by apply L_inj; rw [L_app]; rfl
    have hps : (rP i).size = 5 := rfl
    rw [cantonlaw14_MountsRoom.l0, if_pos (by omega), num_le 20 m _ _ _ (num_all i (by omega) (by omega)), Option.bind_some, if_pos (by show 1 + (rP i).size ≤ _; omega)]
    simp only [hq, hw, St_len]
    by_cases c : i < 31
    · have hmin : min i 31 = i := by omega
      have h := step_all i (by omega) c
      unfold stepR at h
      obtain ⟨⟨r1, r2, r3, r4, r5, r6⟩, hr, h⟩ := Option.bind_eq_some_iff.1 h
      obtain ⟨⟨q1, q2⟩, hq2, he⟩ := Option.bind_eq_some_iff.1 h
      simp only [Option.some.injEq, Prod.mk.injEq] at he
      obtain ⟨rfl, rfl, rfl, rfl⟩ := he
      have ih := room_loop x0 n hn h49 j (i + 1) (20 + m) (by omega) (by omega)
      rw [show min (i + 1) 31 = i + 1 by omega] at ih
      rw [hmin, hr, Option.bind_some, if_neg (by omega)]
      show (mounts_Flip.f r1 (rQ i) 1 1).bind _ = _
      rw [hq2, Option.bind_some, if_pos rfl, if_pos rfl, if_pos rfl, if_pos (by rw [St_len, w64 (by omega) (by omega)]; omega)]
      exact ih
    · have hmin : min i 31 = 31 := by omega
      have h := more_all i (by omega) (by omega)
      unfold moreR at h
      obtain ⟨⟨r1, r2, r3, r4, r5, r6⟩, hr, he⟩ := Option.bind_eq_some_iff.1 h
      simp only [Option.some.injEq, Prod.mk.injEq] at he
      obtain ⟨rfl, rfl⟩ := he
      have ih := room_loop x0 n hn h49 j (i + 1) (19 + m) (by omega) (by omega)
      rw [show min (i + 1) 31 = 31 by omega] at ih
      rw [hmin, hr, Option.bind_some, if_pos (by omega), if_pos rfl, Mnt.same_self (St 31) (by rw [St_len]; omega) (20 + m) (by rw [St_len]; omega), Option.bind_some, show 20 + m = (19 + m) + 1 by omega, cantonlaw14_MountsRoom.j1, if_neg (by simp), hw]
      exact ih
theorem MountsRoom : cantonlaw14_MountsRoom.Pure := by
  intro a0 h0
  have hb : 0 ≤ a0 ∧ a0 ≤ 255 := by
    have h1 : IntKind.u8.min ≤ a0 ∧ a0 ≤ IntKind.u8.max := by simpa [Lit.wf] using h0
    exact h1
  obtain ⟨n, hn, h49⟩ : ∃ n : Nat, wrap64 (Int.tmod a0 50) = (n : Int) ∧ n ≤ 49 := by
    have e : Int.tmod a0 50 = a0 % 50 := Int.tmod_eq_emod_of_nonneg hb.1
    rw [e, w64 (by omega) (by omega)]
    exact ⟨(a0 % 50).toNat, by omega, by omega⟩
  refine ⟨300, ?_⟩
  unfold cantonlaw14_MountsRoom.f
  rw [cantonlaw14_head.mono_le 50 250 true cantonlaw14_head.at50, Option.bind_some]
  exact room_loop a0 n hn h49 n 0 300 (by omega) (by omega)
end Go.Proofs.Ytpkaedpgpncgpaa.Pure
