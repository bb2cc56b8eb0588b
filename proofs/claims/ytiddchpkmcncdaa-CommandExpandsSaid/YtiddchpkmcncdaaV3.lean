/- Walks of layer 41: Expand of whatever word, Join. -/
import Derived.Test.YtiddchpkmcncdaaV1
namespace Go.Proofs.Ytiddchpkmcncdaa
open Go.RowKit
set_option linter.unusedSimpArgs false
set_option linter.unusedVariables false
set_option maxRecDepth 100000 in
set_option maxHeartbeats 4000000 in
theorem Expand_nil (w : World) (v fv : Value) (val : Bs → Bs) (h : RdW w v []) : Calls Try.prog 25 #[v, fv] w (ExpP w (expS val [])) := by
  obtain ⟨A, c, rfl, _⟩ := Rd.form (show Rd 61 w v ([] : Wd).length (pcC []) from h)
  have H0 := Lib.hid (est_begin w)
  clear h
  go_enter Try.func25, Try.ntmps25
  go_wp2
  go_loopg [18] 1 (fun gk i wr => i = .int .i64 0 ∧ ESt w w.heap.size ex0 wr)
  case atStart => exact ⟨rfl, H0.out⟩
  case round =>
    obtain ⟨rfl, hst⟩ := hrel
    have HS := Lib.hid hst
    clear hst H0
    have HEX := Lib.hid (show expS val [] = (endE ex0).out from rfl)
    go_wp2_with fail
    refine (end_any w w.heap.size ex0 _ HS.out (by decide)).mono ?_
    rintro e w3 ⟨rfl, k3⟩
    obtain ⟨vv, h1, h2, h3, h4, h5, h6⟩ := k3
    have c0 : w3.cell? ⟨w.heap.size, 0, none⟩ = some vv := h1.cell 0
    have hgl : w.heap.size < w3.heap.size := h1.lt
    have HO := Lib.hid h4
    obtain ⟨av, cv, rfl, _⟩ := own_len h4
    clear h1 h2 h3 h4
    go_wp2
    go_ret
    exact ⟨_, rfl, by rw [HEX.out]; exact Rd.of_own HO.out, h5⟩
theorem Expand_all (w : World) (v fv : Value) (val : Bs → Bs) (ps : Wd) (h : RdW w v ps) (hl : ps.length ≤ 1000) (hpl : ∀ p ∈ ps, p.text.length ≤ 1000 ∧ (val p.text).length ≤ 1000) (hlk : LkOk w fv val ps) :
    Calls Try.prog 25 #[v, fv] w (ExpP w (expS val ps)) := by
  cases ps with
  | nil => exact Expand_nil w v fv val h
  | cons p r => exact Expand_pos w v fv val (p :: r) h (by simp) (by omega) (fun q hq => by have := hpl q hq; omega) hlk
theorem expS_len (val : Bs → Bs) (ps : Wd) (hpl : ∀ p ∈ ps, p.text.length ≤ 1000 ∧ (val p.text).length ≤ 1000) : (expS val ps).length ≤ 1000 * ps.length + 1 := by
  have h1 := exM_all val 1000 ps ⟨[], [], false⟩ hpl
  have h2 := exM_end (ps.foldl (expP val) ⟨[], [], false⟩)
  have h3 : exM ⟨[], [], false⟩ = 0 := rfl
  have h4 : (expS val ps).length ≤ exM (endE (ps.foldl (expP val) ⟨[], [], false⟩)) := by unfold expS exM; omega
  omega
theorem ExpP.open {w w' : World} {l : List Bs} {e : Ending} (h : ExpP w l e w') : ∃ v, e = .returned v ∧ Rd 9 w' v l.length (stC l) ∧ Below w.heap.size w w' := h
set_option maxRecDepth 100000 in
theorem Join_no (w : World) (v fv : Value) (val : Bs → Bs) (ps : Wd) (L : List Bs) (hL : expS val ps = L) (h : RdW w v ps) (hl : ps.length ≤ 1000) (hpl : ∀ p ∈ ps, p.text.length ≤ 1000 ∧ (val p.text).length ≤ 1000) (hlk : LkOk w fv val ps) (hne : L.length ≠ 1) :
    Calls Try.prog 34 #[v, fv] w fun e w' => e = .returned (.tuple #[.string ⟨#[]⟩, .int .i64 1]) ∧ Below w.heap.size w w' := by
  have hlen := expS_len val ps hpl
  rw [hL] at hlen
  have HC := Lib.hid (Expand_all w v fv val ps h hl hpl hlk)
  rw [hL] at HC
  have n1 : ((L.length : Int) == 1) = false := beq_false_of_ne (by omega)
  have n2 : ((L.length : Int) != 1) = true := by simp; omega
  have n3 : (L.length == 1) = false := beq_false_of_ne hne
  have HN := Lib.hid hne
  clear h hpl hlk hne hL
  go_enter Try.func34, Try.ntmps34
  go_wp2_with fail
  refine HC.out.mono ?_
  intro e w1 hx
  obtain ⟨v1, rfl, hr, hb⟩ := hx.open
  obtain ⟨A, c, rfl, _⟩ := Rd.form hr
  go_wp2
  go_ret2
  exact ⟨rfl, hb⟩
set_option maxRecDepth 100000 in
theorem Join_yes (w : World) (v fv : Value) (val : Bs → Bs) (ps : Wd) (x : Bs) (hL : expS val ps = [x]) (h : RdW w v ps) (hl : ps.length ≤ 1000) (hpl : ∀ p ∈ ps, p.text.length ≤ 1000 ∧ (val p.text).length ≤ 1000) (hlk : LkOk w fv val ps) :
    Calls Try.prog 34 #[v, fv] w fun e w' => e = .returned (.tuple #[.string (bs x), .int .i64 0]) ∧ Below w.heap.size w w' := by
  have HC := Lib.hid (Expand_all w v fv val ps h hl hpl hlk)
  rw [hL] at HC
  clear h hpl hlk hL
  go_enter Try.func34, Try.ntmps34
  go_wp2_with fail
  refine HC.out.mono ?_
  intro e w1 hx
  obtain ⟨v1, rfl, hr, hb⟩ := hx.open
  obtain ⟨b, o, c, rfl, hc, hbl, hcell⟩ := Rd.texts hr (by simp)
  have c0 : w1.cell? ⟨b, o, none⟩ = some (.string (bs x)) := hcell 0 (by simp)
  simp only [List.length_cons, List.length_nil, Nat.zero_add]
  clear hcell hr hx
  go_wp2
  go_ret2
  exact ⟨rfl, hb⟩
theorem sameS_is (w : World) (va vb : Value) (a b : List Bs) (ha : Rd 9 w va a.length (stC a)) (hb : Rd 9 w vb b.length (stC b)) (la : a.length ≤ 10000000000) (hab : a = b) :
    Calls Try.prog 27 #[va, vb] w fun e w' => e = .returned (.bool true) ∧ Below w.heap.size w w' := by
  subst hab
  refine (sameS_any w va vb a a ha hb la la).mono ?_
  rintro e w' ⟨rfl, h⟩
  exact ⟨ret_bool (by simp), h⟩
end Go.Proofs.Ytiddchpkmcncdaa
