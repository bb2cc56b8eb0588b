/- Plain functions of layer 21: classes of bytes, leading bytes. -/
import Derived.Below
import Derived.Laws.Strings
namespace Go.Proofs.YtdhfkokinnmfhaaDoor
open Go.RowKit
set_option linter.unusedSimpArgs false
set_option linter.unusedVariables false
def ltrI (n : Int) : Bool := (decide (97 ≤ n) && decide (n ≤ 122)) || (decide (65 ≤ n) && decide (n ≤ 90)) || decide (n = 95)
def digI (n : Int) : Bool := decide (48 ≤ n) && decide (n ≤ 57)
def hexI (n : Int) : Bool := digI n || (decide (97 ≤ n) && decide (n ≤ 102))
def alnI (n : Int) : Bool := ltrI n || digI n
def nlI (n : Int) : Bool := decide (n ≠ 10)
/-- The byte number i of a text, or 0. -/
def bt (s : ByteArray) (i : Nat) : Int := ((s.data.toList.getD i 0).toNat : Int)
theorem bt_of (s : ByteArray) (i : Nat) (h : i < s.size) : (s[i].toNat : Int) = bt s i := by
  unfold bt
  have h' : i < s.data.toList.length := by simpa using h
  rw [List.getD_eq_getElem?_getD, List.getElem?_eq_getElem h']
  rfl
theorem bt_bd (s : ByteArray) (i : Nat) : 0 ≤ bt s i ∧ bt s i < 256 := by
  unfold bt
  have := (s.data.toList.getD i 0).toNat_lt
  omega
/-- How many bytes at the beginning satisfy a condition. -/
def lead (p : Int → Bool) : List UInt8 → Nat
  | [] => 0
  | b :: l => if p (b.toNat : Int) = true then lead p l + 1 else 0
theorem lead_le (p : Int → Bool) : ∀ l : List UInt8, lead p l ≤ l.length
  | [] => Nat.le_refl _
  | b :: l => by have := lead_le p l; unfold lead; split <;> simp <;> omega
theorem lead_at (p : Int → Bool) : ∀ (l : List UInt8) (k : Nat), k ≤ l.length → (∀ i, i < k → p ((l.getD i 0).toNat : Int) = true) → (k = l.length ∨ p ((l.getD k 0).toNat : Int) = false) → lead p l = k
  | [], k, h, _, _ => by simp at h; subst h; rfl
  | b :: l, 0, _, _, h => by
    rcases h with h | h
    · simp at h
    · unfold lead; simp at h; simp [h]
  | b :: l, k + 1, h, h1, h2 => by
    have h0 := h1 0 (by omega)
    simp at h0
    unfold lead
    rw [if_pos h0]
    congr 1
    exact lead_at p l k (by simpa using h) (fun i hi => by simpa using h1 (i + 1) (by omega)) (by simpa using h2)
def leadB (p : Int → Bool) (s : ByteArray) : Nat := lead p s.data.toList
theorem leadB_at (p : Int → Bool) (s : ByteArray) (k : Nat) (h : k ≤ s.size) (h1 : ∀ i, i < k → p (bt s i) = true) (h2 : k = s.size ∨ p (bt s k) = false) : leadB p s = k :=
  lead_at p s.data.toList k (by simpa using h) h1 (by rcases h2 with h | h; (exact .inl (by simpa using h)); exact .inr h)
theorem leadB_le (p : Int → Bool) (s : ByteArray) : leadB p s ≤ s.size := by simpa [leadB] using lead_le p s.data.toList
end Go.Proofs.YtdhfkokinnmfhaaDoor
