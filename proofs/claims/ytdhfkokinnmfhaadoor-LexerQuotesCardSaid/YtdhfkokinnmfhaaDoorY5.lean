/- Walks of layer 21: quoted of the reference, a character. -/
import Derived.Test.YtdhfkokinnmfhaaDoorY4
import Derived.Test.YtdhfkokinnmfhaaDoorQ7
namespace Go.Proofs.YtdhfkokinnmfhaaDoor
open Go.RowKit
set_option linter.unusedSimpArgs false
set_option linter.unusedVariables false
def refE (p : Nat) (e pl : Int) : Value := .tuple #[.agg #[.int .i64 0, .string ⟨#[]⟩, .int .i64 0, .string ⟨#[]⟩, .int .i64 0], .int .i64 p, .int .i64 e, .int .i64 pl]
def refO (a : Att) (p : Nat) : Value := .tuple #[.agg #[.int .i64 a.kind, .string a.text, .int .i64 a.value, .string a.bytes, .int .i64 p], .int .i64 ((p : Int) + a.size), .int .i64 0, .int .i64 0]
def refA (a : Att) (p : Nat) : Value := if a.e = 0 then refO a p else refE p a.e ((p : Int) + a.off)
def refF (o : Option Att) (p : Nat) : Value := match o with
  | none => refE p 6 p
  | some a => refA a p
theorem refF_err {o : Option Att} {p : Nat} {off e : Int} (h : o = some (attE off e)) (he : e ≠ 0) : refF o p = refE p e ((p : Int) + off) := by
  rw [h]; exact if_neg he
theorem refF_ok {o : Option Att} {p : Nat} {a : Att} (h : o = some a) (he : a.e = 0) : refF o p = refO a p := by
  rw [h]; exact if_pos he
theorem chS_rest (s : ByteArray) (p k : Nat) (q : Int) (h : p + k ≤ s.size) (hq : p + k < s.size → bt s (p + k) ≠ q) : chS s (p + k) = chR (shR p (oneS (s.extract p s.size) k q)) (p + k) := by
  unfold chS
  rw [← oneS_q s (p + k) q hq, oneS_rest s p k q h]
set_option maxHeartbeats 2000000 in
set_option maxRecDepth 100000 in
theorem quoted_char (s : ByteArray) (p : Nat) (w : World) (h : p < s.size) (hs : s.size ≤ 100000) (h39 : bt s p = 39) :
    Calls Tryd.prog 50 #[.string s, .int .i64 p] w fun e w' => e = .returned (refF (charS (s.extract p s.size)) p) ∧ Below w.heap.size w w' := by
  have hz := size_extract s p s.size (Nat.le_refl _)
  have hx := bt_of s p h
  have t39 : (bt s p == 39) = true := by simpa using h39
  have hR0 : ¬ bt (s.extract p s.size) 0 ≠ 39 := by rw [bt_rest' s p 0 (by omega), Nat.add_zero, h39]; simp
  have h1R : 1 ≤ (s.extract p s.size).size := by omega
  by_cases hq : p + 1 < s.size ∧ bt s (p + 1) = 39
  · obtain ⟨hl, hq⟩ := hq
    have hO : oneS (s.extract p s.size) 1 39 = (0, 1, 6) := by
      unfold oneS
      rw [if_neg (by omega), if_neg (by rw [bt_rest' s p 1 (by omega)]; omega), if_pos (.inl (by rw [bt_rest' s p 1 (by omega)]; exact hq))]
      rfl
    have HF := Lib.hid (refF_err (p := p) (off := 1) (e := 6) (show charS (s.extract p s.size) = some (attE 1 6) by unfold charS; rw [if_neg hR0, hO, if_pos (by simp)]) (by decide))
    have hx1 := bt_of s (p + 1) hl
    have tq : (bt s (p + 1) == 39) = true := by simpa using hq
    clear hO hR0 h1R hz hq h39
    go_enter Tryd.func50, Tryd.ntmps50
    go_wp2
    exact bodyPost_ret (v := refE p 6 ((p : Int) + 1)) (by simp [results, Tryd.results50, go_sem, refE, refO]) rfl ⟨by rw [HF.out], (Below.refl _ _).alloc (Nat.le_refl _) _⟩
  have hC := chS_rest s p 1 39 (by omega) (fun h1 h2 => hq ⟨h1, h2⟩)
  have tq : p + 1 < s.size → (bt s (p + 1) == 39) = false := fun h1 => by rw [beq_eq_false_iff_ne]; exact fun h2 => hq ⟨h1, h2⟩
  have hxq : ∀ h1 : p + 1 < s.size, (s[p + 1].toNat : Int) = bt s (p + 1) := fun h1 => bt_of s (p + 1) h1
  rcases oneS_cases (s.extract p s.size) 1 39 h1R with ⟨b, m, hO, m1, m2, b0, b1, _⟩ | hO | ⟨m, hO, m1, m2⟩
  · rw [hO] at hC
    have HC := Lib.hid (show chS s (p + 1) = (b, ((p + m : Nat) : Int), 0, 0) by rw [hC]; simp [chR, shR]; omega)
    have hl1 : p + 1 < s.size := by omega
    have tq' := tq hl1
    have hx1 := hxq hl1
    have hms : p + m ≤ s.size := by omega
    by_cases hm : p + m = s.size
    · have HF := Lib.hid (refF_err (p := p) (off := 0) (e := 4) (show charS (s.extract p s.size) = some (attE 0 4) by unfold charS; rw [if_neg hR0, hO, if_neg (by simp), if_pos (by show (m : Int) = _; omega)]) (by decide))
      have hms' : s.size ≤ p + m := by omega
      clear hO hR0 h1R hz hq h39 hC tq hxq hm m2
      go_enter Tryd.func50, Tryd.ntmps50
      go_wp2_with (go_at_call 60; refine (char_any s (p + 1) _ (by omega) hs).mono ?_; rintro e w' ⟨rfl, rfl⟩; rw [HC.out, chV])
      exact bodyPost_ret (v := refE p 4 ((p : Int) + 0)) (by simp [results, Tryd.results50, go_sem, refE, refO]) rfl ⟨by rw [HF.out], (Below.refl _ _).alloc (Nat.le_refl _) _⟩
    · have hml : p + m < s.size := by omega
      have hxm := bt_of s (p + m) hml
      by_cases h4 : bt s (p + m) ≠ 39
      · have HF := Lib.hid (refF_err (p := p) (off := m) (e := 6) (show charS (s.extract p s.size) = some (attE m 6) by unfold charS; rw [if_neg hR0, hO, if_neg (by simp), if_neg (by show ¬ (m : Int) = _; omega), if_pos (by simp only [Int.toNat_natCast]; rw [bt_rest' s p m (by omega)]; exact h4)]) (by decide))
        have t4 : (bt s (p + m) != 39) = true := by simpa using h4
        clear hO hR0 h1R hz hq h39 hC tq hxq hm m2 h4
        go_enter Tryd.func50, Tryd.ntmps50
        go_wp2_with (go_at_call 60; refine (char_any s (p + 1) _ (by omega) hs).mono ?_; rintro e w' ⟨rfl, rfl⟩; rw [HC.out, chV])
        exact bodyPost_ret (v := refE p 6 ((p : Int) + m)) (by simp [results, Tryd.results50, go_sem, refE, refO]) rfl ⟨by rw [HF.out], (Below.refl _ _).alloc (Nat.le_refl _) _⟩
      · have HF := Lib.hid (refF_ok (p := p) (show charS (s.extract p s.size) = some ⟨2, s.extract p (p + m + 1), b, ⟨#[]⟩, m + 1, 0, 0⟩ by
          unfold charS
          rw [if_neg hR0, hO, if_neg (by simp), if_neg (by show ¬ (m : Int) = _; omega), if_neg (by simp only [Int.toNat_natCast]; rw [bt_rest' s p m (by omega)]; exact h4)]
          simp only [Int.toNat_natCast]
          rw [ext_rest s p (m + 1) (by omega), ← Nat.add_assoc]) rfl)
        have t4 : (bt s (p + m) != 39) = false := by simpa using h4
        clear hO hR0 h1R hz hq h39 hC tq hxq hm m2 h4
        go_enter Tryd.func50, Tryd.ntmps50
        go_wp2_with (go_at_call 60; refine (char_any s (p + 1) _ (by omega) hs).mono ?_; rintro e w' ⟨rfl, rfl⟩; rw [HC.out, chV])
        exact bodyPost_ret (v := refO ⟨2, s.extract p (p + m + 1), b, ⟨#[]⟩, m + 1, 0, 0⟩ p) (by simp [results, Tryd.results50, go_sem, refO]; omega) rfl ⟨by rw [HF.out], (Below.refl _ _).alloc (Nat.le_refl _) _⟩
  · rw [hO] at hC
    have HC := Lib.hid (show chS s (p + 1) = (0, ((p + 1 : Nat) : Int), 4, ((p + 1 : Nat) : Int)) by rw [hC]; rfl)
    have HF := Lib.hid (refF_err (p := p) (off := 0) (e := 4) (show charS (s.extract p s.size) = some (attE 0 4) by unfold charS; rw [if_neg hR0, hO, if_pos (by simp)]) (by decide))
    by_cases hl1 : p + 1 < s.size
    · have tq' := tq hl1
      have hx1 := hxq hl1
      clear hO hR0 h1R hz hq h39 hC tq hxq
      go_enter Tryd.func50, Tryd.ntmps50
      go_wp2_with (go_at_call 60; refine (char_any s (p + 1) _ (by omega) hs).mono ?_; rintro e w' ⟨rfl, rfl⟩; rw [HC.out, chV])
      exact bodyPost_ret (v := refE p 4 ((p : Int) + 0)) (by simp [results, Tryd.results50, go_sem, refE, refO]) rfl ⟨by rw [HF.out], (Below.refl _ _).alloc (Nat.le_refl _) _⟩
    · clear hO hR0 h1R hz hq h39 hC tq hxq
      go_enter Tryd.func50, Tryd.ntmps50
      go_wp2_with (go_at_call 60; refine (char_any s (p + 1) _ (by omega) hs).mono ?_; rintro e w' ⟨rfl, rfl⟩; rw [HC.out, chV])
      exact bodyPost_ret (v := refE p 4 ((p : Int) + 0)) (by simp [results, Tryd.results50, go_sem, refE, refO]) rfl ⟨by rw [HF.out], (Below.refl _ _).alloc (Nat.le_refl _) _⟩
  · rw [hO] at hC
    have HC := Lib.hid (show chS s (p + 1) = (0, ((p + 1 : Nat) : Int), 6, ((p + m : Nat) : Int)) by rw [hC]; simp [chR, shR]; omega)
    have HF := Lib.hid (refF_err (p := p) (off := m) (e := 6) (show charS (s.extract p s.size) = some (attE m 6) by unfold charS; rw [if_neg hR0, hO, if_pos (by simp)]) (by decide))
    have hl1 : p + 1 < s.size := by omega
    have tq' := tq hl1
    have hx1 := hxq hl1
    have hm3 : p + m < s.size := by omega
    clear hO hR0 h1R hz hq h39 hC tq hxq m2
    go_enter Tryd.func50, Tryd.ntmps50
    go_wp2_with (go_at_call 60; refine (char_any s (p + 1) _ (by omega) hs).mono ?_; rintro e w' ⟨rfl, rfl⟩; rw [HC.out, chV])
    exact bodyPost_ret (v := refE p 6 ((p : Int) + m)) (by simp [results, Tryd.results50, go_sem, refE, refO]) rfl ⟨by rw [HF.out], (Below.refl _ _).alloc (Nat.le_refl _) _⟩
end Go.Proofs.YtdhfkokinnmfhaaDoor
