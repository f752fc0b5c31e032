/- Plain facts on the code of layer 14: classes, codes, bits. No program in sight. -/
import Derived.Test.YtaeanhpdlkgghaaDoorMem
import Derived.Lib.Bytealg
import Derived.Lib.IndexLaws
namespace Go.Proofs.YtaeanhpdlkgghaaDoor

/-! ### the classes -/
def cl5 : List UInt8 := [48, 49, 50, 97, 99, 101, 105, 111, 115, 116]
def cl6 : List UInt8 := [32, 37, 45, 46, 47, 51, 52, 53, 54, 55, 56, 57, 61, 65, 95, 98, 100, 102, 103, 104, 108, 109, 110, 112, 114, 117]
def cl7 : List UInt8 := [58, 66, 67, 68, 69, 70, 71, 72, 73, 74, 75, 76, 77, 78, 79, 80, 81, 82, 83, 84, 85, 86, 87, 89, 106, 107, 113, 118, 119, 120, 121, 122]
def cl8 : List UInt8 := [38, 42, 44, 59, 88, 90]

/-- the class and the place of a byte, (-1, 0): it is of the last class -/
def shortR (x : UInt8) : Int × Int :=
  if 0 ≤ Lib.indexByte cl5 x then (0, Lib.indexByte cl5 x) else if 0 ≤ Lib.indexByte cl6 x then (1, Lib.indexByte cl6 x)
  else if 0 ≤ Lib.indexByte cl7 x then (2, Lib.indexByte cl7 x) else if 0 ≤ Lib.indexByte cl8 x then (3, Lib.indexByte cl8 x) else (-1, 0)

/-- the bytes below k of the last class -/
def restTo : Nat → List UInt8
  | 0 => []
  | k + 1 => if (shortR (UInt8.ofNat k)).1 < 0 then restTo k ++ [UInt8.ofNat k] else restTo k
def restL : List UInt8 := [0, 1, 2, 3, 4, 5, 6, 7, 8, 9, 10, 11, 12, 13, 14, 15, 16, 17, 18, 19, 20, 21, 22, 23, 24, 25, 26, 27, 28, 29, 30, 31, 33, 34, 35, 36, 39, 40, 41, 43, 60, 62, 63, 64, 91, 92, 93, 94, 96, 123, 124, 125, 126, 127, 128, 129, 130, 131, 132, 133, 134, 135, 136, 137, 138, 139, 140, 141, 142, 143, 144, 145, 146, 147, 148, 149, 150, 151, 152, 153, 154, 155, 156, 157, 158, 159, 160, 161, 162, 163, 164, 165, 166, 167, 168, 169, 170, 171, 172, 173, 174, 175, 176, 177, 178, 179, 180, 181, 182, 183, 184, 185, 186, 187, 188, 189, 190, 191, 192, 193, 194, 195, 196, 197, 198, 199, 200, 201, 202, 203, 204, 205, 206, 207, 208, 209, 210, 211, 212, 213, 214, 215, 216, 217, 218, 219, 220, 221, 222, 223, 224, 225, 226, 227, 228, 229, 230, 231, 232, 233, 234, 235, 236, 237, 238, 239, 240, 241, 242, 243, 244, 245, 246, 247, 248, 249, 250, 251, 252, 253, 254, 255]
theorem restL_eq : restTo 256 = restL := by decide +kernel
theorem restTo_len : ∀ k, (restTo k).length ≤ k
  | 0 => by simp [restTo]
  | k + 1 => by have := restTo_len k; unfold restTo; split <;> simp <;> omega

/-- a byte's code and its length -/
def codeN (x : UInt8) : Nat := match shortR x with
  | (0, a) => a.toNat
  | (1, a) => 20 + a.toNat
  | (2, a) => 92 + a.toNat
  | (3, a) => 248 + a.toNat
  | _ => 32512 + (Lib.indexByte restL x).toNat
def bitsN (x : UInt8) : Nat := match (shortR x).1 with
  | 0 => 5
  | 1 => 6
  | 2 => 7
  | 3 => 8
  | _ => 15

theorem u8_all {p : UInt8 → Prop} (h : ∀ k : Fin 256, p (UInt8.ofNat k.val)) (x : UInt8) : p x := by
  have := h ⟨x.toNat, x.toNat_lt⟩
  simpa using this

theorem code_lt (x : UInt8) : codeN x < 2 ^ bitsN x := u8_all (p := fun x => codeN x < 2 ^ bitsN x) (by decide +kernel) x
theorem bits_ge (x : UInt8) : 5 ≤ bitsN x := u8_all (p := fun x => 5 ≤ bitsN x) (by decide +kernel) x
theorem bits_le (x : UInt8) : bitsN x ≤ 15 := u8_all (p := fun x => bitsN x ≤ 15) (by decide +kernel) x
theorem rest_in (x : UInt8) (h : (shortR x).1 < 0) : 0 ≤ Lib.indexByte restL x := u8_all (p := fun x => (shortR x).1 < 0 → 0 ≤ Lib.indexByte restL x) (by decide +kernel) x h
theorem restL_len : restL.length = 182 := by decide +kernel
end Go.Proofs.YtaeanhpdlkgghaaDoor
