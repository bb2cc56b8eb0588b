/- Walks of layer 21: hexValue, escape, one. -/
import Derived.Test.YtdhfkokinnmfhaaDoorX2
import Derived.Test.YtdhfkokinnmfhaaDoorQ1
namespace Go.Proofs.YtdhfkokinnmfhaaDoor
open Go.RowKit
set_option linter.unusedSimpArgs false
set_option linter.unusedVariables false
def EscAt (w : World) : Prop := 0 < w.heap.size ∧ ∀ k : Nat, k < 128 → w.cell? ⟨0, k, none⟩ = some (.int .u8 (escT k))
theorem EscAt.next {w w' : World} (h : EscAt w) (hb : Below w.heap.size w w') : EscAt w' := by
  have e : ∀ o, w'.cell? ⟨0, o, none⟩ = w.cell? ⟨0, o, none⟩ := fun o => hb.cell (p := ⟨0, o, none⟩) h.1
  exact ⟨Nat.lt_of_lt_of_le h.1 hb.size, fun k hk => by rw [e]; exact h.2 k hk⟩
theorem hexValue_any (n : Int) (w : World) (h : hexI n = true) : Calls Tryd.prog 65 #[.int .u8 n] w fun e w' => e = .returned (.int .u8 (hexV n)) ∧ w = w' := by
  have hd0 : ∀ m, digI m = true → 48 ≤ m ∧ m ≤ 57 := fun m hm => by unfold digI at hm; simpa using hm
  cases hd : digI n with
  | true =>
    obtain ⟨g1, g2⟩ := hd0 n hd
    have HD := Lib.hid hd
    clear hd0 h
    go_enter Tryd.func65, Tryd.ntmps65
    go_wp2_with (go_at_call 51; refine (isDigit_any _ _).mono ?_; rintro e w' ⟨rfl, rfl⟩)
    go_ret
    exact ⟨ret_int (by unfold hexV; rw [if_pos HD.out]), rfl⟩
  | false =>
    have hl : 97 ≤ n ∧ n ≤ 102 := by unfold hexI at h; rw [hd] at h; simpa using h
    obtain ⟨g1, g2⟩ := hl
    have HD := Lib.hid hd
    clear hd0 h
    go_enter Tryd.func65, Tryd.ntmps65
    go_wp2_with (go_at_call 51; refine (isDigit_any _ _).mono ?_; rintro e w' ⟨rfl, rfl⟩)
    go_ret
    exact ⟨ret_int (by unfold hexV; rw [HD.out]; simp; omega), rfl⟩
def trip (r : Int × Int × Int) : Ending := .returned (.tuple #[.int .u8 r.1, .int .i64 r.2.1, .int .i64 r.2.2])
set_option maxRecDepth 100000 in
theorem escape_end (s : ByteArray) (k : Nat) (w : World) (h : k + 1 = s.size) (hs : s.size ≤ 100000) :
    Calls Tryd.prog 66 #[.string s, .int .i64 k] w fun e w' => e = .returned (.tuple #[.int .u8 0, .int .i64 0, .int .i64 4]) ∧ w = w' := by
  have hb : ((k : Int) + 1 == (s.size : Int)) = true := by simp; omega
  have hk : k < 100000 := by omega
  clear h
  go_enter Tryd.func66, Tryd.ntmps66
  go_wp2
  go_ret3
  exact ⟨rfl, rfl⟩
set_option maxRecDepth 100000 in
theorem escape_bad (s : ByteArray) (k : Nat) (w : World) (ho : EscAt w) (h : k + 1 < s.size) (hs : s.size ≤ 100000) (h1 : bt s (k + 1) ≠ 120) (h2 : 128 ≤ bt s (k + 1) ∨ escT (bt s (k + 1)) = 0) :
    Calls Tryd.prog 66 #[.string s, .int .i64 k] w fun e w' => e = .returned (.tuple #[.int .u8 0, .int .i64 ((k : Int) + 1), .int .i64 6]) ∧ w = w' := by
  have hb : ((k : Int) + 1 == (s.size : Int)) = false := by simp; omega
  have hx := bt_of s (k + 1) h
  obtain ⟨d0, d1⟩ := bt_bd s (k + 1)
  have hn : (bt s (k + 1) != 120) = true := by simpa using h1
  by_cases h3 : 128 ≤ bt s (k + 1)
  · clear h2 h1
    go_enter Tryd.func66, Tryd.ntmps66
    go_wp2
    go_ret3
    exact ⟨rfl, rfl⟩
  · have h4 : escT (bt s (k + 1)) = 0 := by omega
    have hc := ho.2 (bt s (k + 1)).toNat (by omega)
    rw [show (((bt s (k + 1)).toNat : Nat) : Int) = bt s (k + 1) by omega, h4] at hc
    have hlt : bt s (k + 1) < 128 := by omega
    clear h2 h1 h3 h4
    go_enter Tryd.func66, Tryd.ntmps66
    go_wp2
    go_ret3
    exact ⟨rfl, rfl⟩
set_option maxRecDepth 100000 in
theorem escape_plain (s : ByteArray) (k : Nat) (w : World) (ho : EscAt w) (h : k + 1 < s.size) (hs : s.size ≤ 100000) (h1 : bt s (k + 1) ≠ 120) (h3 : bt s (k + 1) < 128) (h4 : escT (bt s (k + 1)) ≠ 0) :
    Calls Tryd.prog 66 #[.string s, .int .i64 k] w fun e w' => e = .returned (.tuple #[.int .u8 (escT (bt s (k + 1)) - 1), .int .i64 ((k : Int) + 2), .int .i64 0]) ∧ w = w' := by
  have hb : ((k : Int) + 1 == (s.size : Int)) = false := by simp; omega
  have hx := bt_of s (k + 1) h
  obtain ⟨d0, d1⟩ := bt_bd s (k + 1)
  have hn : (bt s (k + 1) != 120) = true := by simpa using h1
  have hc := ho.2 (bt s (k + 1)).toNat (by omega)
  rw [show (((bt s (k + 1)).toNat : Nat) : Int) = bt s (k + 1) by omega] at hc
  have hz : (escT (bt s (k + 1)) == 0) = false := by simpa using h4
  have hr : 1 ≤ escT (bt s (k + 1)) ∧ escT (bt s (k + 1)) ≤ 93 := by unfold escT at *; (repeat' split) <;> simp_all
  obtain ⟨r1, r2⟩ := hr
  generalize escT (bt s (k + 1)) = t at *
  clear h1 h4
  go_enter Tryd.func66, Tryd.ntmps66
  go_wp2
  go_ret3
  exact ⟨rfl, rfl⟩
end Go.Proofs.YtdhfkokinnmfhaaDoor
