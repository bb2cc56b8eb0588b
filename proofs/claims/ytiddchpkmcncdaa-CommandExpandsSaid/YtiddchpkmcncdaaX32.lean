/- Walks of layer 41: values of variables, lookup. -/
import Derived.Test.YtiddchpkmcncdaaX31
import Derived.Defers
import Derived.Recover
namespace Go.Proofs.Ytiddchpkmcncdaa
open Go.RowKit
set_option linter.unusedSimpArgs false
set_option linter.unusedVariables false
abbrev Vl := List (Bs × Bs)
def vlC (vs : Vl) : List Value := vs.flatMap fun p => [.string (bs p.1), .string (bs p.2)]
def valOf : Vl → Bs → Bs
  | [], _ => []
  | p :: vs, n => if p.1 = n then p.2 else valOf vs n
theorem vlC_get : ∀ (vs : Vl) (k : Nat) (hk : k < vs.length), (vlC vs)[k * 2]? = some (.string (bs vs[k].1)) ∧ (vlC vs)[k * 2 + 1]? = some (.string (bs vs[k].2))
  | [], k, hk => by simp at hk
  | p :: vs, 0, hk => by simp [vlC]
  | p :: vs, k + 1, hk => by
    have := vlC_get vs k (by simpa using hk)
    have e : vlC (p :: vs) = [.string (bs p.1), .string (bs p.2)] ++ vlC vs := by simp [vlC]
    rw [e]
    refine ⟨?_, ?_⟩
    · rw [List.getElem?_append_right (by simp; omega)]
      rw [show (k + 1) * 2 - ([.string (bs p.1), .string (bs p.2)] : List Value).length = k * 2 by simp; omega]
      exact this.1
    · rw [List.getElem?_append_right (by simp; omega)]
      rw [show (k + 1) * 2 + 1 - ([.string (bs p.1), .string (bs p.2)] : List Value).length = k * 2 + 1 by simp; omega]
      exact this.2
theorem Rd.vals {w : World} {v : Value} {vs : Vl} (h : Rd 56 w v vs.length (vlC vs)) (hn : 0 < vs.length) : ∃ b o c, v = .slice (some ⟨b, o, none⟩) vs.length c ∧ vs.length ≤ c ∧ b < w.heap.size ∧ ∀ k (hk : k < vs.length), w.cell? ⟨b, o + k * 2, none⟩ = some (.string (bs vs[k].1)) ∧ w.cell? ⟨b, o + k * 2 + 1, none⟩ = some (.string (bs vs[k].2)) := by
  obtain ⟨b, o, c, hv, hc, _, hb, hcell⟩ := Rd.at_ h hn
  refine ⟨b, o, c, hv, hc, hb, fun k hk => ⟨hcell _ _ (vlC_get vs k hk).1, ?_⟩⟩
  have := hcell _ _ (vlC_get vs k hk).2
  rw [← Nat.add_assoc] at this; exact this
theorem val_skip : ∀ (vs : Vl) (n : Bs) (k : Nat), k ≤ vs.length → (∀ j (hj : j < k) (hl : j < vs.length), vs[j].1 ≠ n) → valOf vs n = valOf (vs.drop k) n
  | vs, n, 0, _, _ => by simp
  | [], n, k + 1, h, _ => by simp at h
  | p :: vs, n, k + 1, h, hne => by
    have h0 : p.1 ≠ n := hne 0 (by omega) (by simp)
    rw [List.drop_succ_cons]
    rw [← val_skip vs n k (by simpa using h) (fun j hj hl => hne (j + 1) (by omega) (by simp; omega))]
    simp only [valOf]
    rw [if_neg h0]
theorem val_at (vs : Vl) (n : Bs) (k : Nat) (hk : k < vs.length) (hne : ∀ j (hj : j < k) (hl : j < vs.length), vs[j].1 ≠ n) (h : vs[k].1 = n) : valOf vs n = vs[k].2 := by
  rw [val_skip vs n k (by omega) hne, List.drop_eq_getElem_cons hk]
  simp only [valOf]
  rw [if_pos h]
theorem val_none (vs : Vl) (n : Bs) (hne : ∀ j (hj : j < vs.length) (hl : j < vs.length), vs[j].1 ≠ n) : valOf vs n = [] := by
  rw [val_skip vs n vs.length (Nat.le_refl _) hne, List.drop_length]; rfl
set_option maxRecDepth 100000 in
theorem Of_any (w : World) (v : Value) (vs : Vl) (nm : Bs) (h : Rd 56 w v vs.length (vlC vs)) (hl : vs.length ≤ 100000) :
    Calls Try.prog 62 #[v, .string (bs nm)] w fun e w' => e = .returned (.string (bs (valOf vs nm))) ∧ w = w' := by
  rcases Nat.eq_zero_or_pos vs.length with h0 | h0
  · obtain ⟨A, c, rfl, _⟩ := Rd.form h
    obtain rfl := List.length_eq_zero_iff.1 h0
    clear h h0
    go_enter Try.func62, Try.ntmps62
    go_wp2
    go_loopg [5] 1 (fun gk i wr => i = .int .i64 0 ∧ w = wr)
    case atStart => exact ⟨rfl, rfl⟩
    case round =>
      obtain ⟨rfl, rfl⟩ := hrel
      go_wp2
      go_ret
      exact ⟨rfl, rfl⟩
  · obtain ⟨b, o, c, rfl, hc, hb0, hcell⟩ := Rd.vals h h0
    have HC := Lib.hid hcell
    clear h hcell
    go_enter Try.func62, Try.ntmps62
    go_wp2
    go_loopg [5] (vs.length + 1) (fun gk i wr => ∃ k : Nat, i = .int .i64 k ∧ k ≤ vs.length ∧ gk + k = vs.length + 1 ∧ (∀ j (hj : j < k) (hl : j < vs.length), vs[j].1 ≠ nm) ∧ w = wr)
    case atStart => exact ⟨0, rfl, Nat.zero_le _, by omega, fun j hj => by omega, rfl⟩
    case round =>
      obtain ⟨k, rfl, hk, hgk, hne, rfl⟩ := hrel
      have HNE := Lib.hid hne
      clear hne
      by_cases hlt : k < vs.length
      · obtain ⟨p0, p1⟩ := HC.out k hlt
        have i1 : (0 : Int) ≤ (k : Int) := by omega
        have i2 : (k : Int) < (vs.length : Int) := by omega
        by_cases he : vs[k].1 = nm
        · have HV := Lib.hid (val_at vs nm k hlt HNE.out he)
          rw [he] at p0
          have t0 : ((bs nm).toList == (bs nm).toList) = true := by simp
          generalize vs[k].2 = tx at *
          clear he
          go_wp2
          go_ret
          exact ⟨ret_str (by rw [HV.out]), rfl⟩
        · have HE := Lib.hid he
          have t0 : ((bs vs[k].1).toList == (bs nm).toList) = false := by rw [bs_tl, bs_tl]; exact beq_false_of_ne he
          clear he
          generalize hpk : vs[k].1 = pk at *
          have HPK := Lib.hid hpk
          clear hpk
          go_wp2
          go_roundg (gk - 1)
          case rel => exact ⟨k + 1, by go_num, by omega, by omega, fun j hj hl => (by by_cases e : j = k; (subst e; rw [HPK.out]; exact HE.out); exact HNE.out j (by omega) hl), rfl⟩
          case measure => omega
      · obtain rfl : k = vs.length := by omega
        have HV := Lib.hid (val_none vs nm (fun j hj hl => HNE.out j hj hl))
        go_wp2
        go_ret
        exact ⟨by rw [HV.out]; rfl, rfl⟩
set_option maxRecDepth 100000 in
theorem of_any (w : World) (v : Value) (vs : Vl) (nm : Bs) (h : Rd 56 w v vs.length (vlC vs)) (hl : vs.length ≤ 100000) :
    Calls Try.prog 26 #[v, .string (bs nm)] w fun e w' => e = .returned (.string (bs (valOf vs nm))) ∧ w = w' := by
  have H := Lib.hid h
  obtain ⟨A, c, rfl, _⟩ := Rd.form h
  clear h
  go_enter Try.func26, Try.ntmps26
  go_wp2_with fail
  refine (Of_any _ _ vs nm H.out hl).mono ?_
  rintro e w' ⟨rfl, rfl⟩
  go_wp2
  go_ret
  exact ⟨rfl, rfl⟩
theorem catch_idle (p : Addr) (w : World) :
    CallsD Try.prog 87 #[.pointer (some p)] .returning w fun e u' w' => e = .returned (.tuple #[]) ∧ u' = .returning ∧ w' = w := by
  refine callsD_of_wpS Try.func87 rfl fun c₀ cs hu => ?_
  apply wpS_seq
  apply wpS_region
  simp [wpOpsS, go_sem, recoverD, hu, Try.ntmps87, Exit.thenS]
  refine wpS_cond (t := false) (by simp [Act.eval, Array.replicate]) ?_
  simp only [Bool.false_eq_true, if_false]
  refine wpS_of_wp (wp_skip ?_)
  cases c₀
  simp_all [bodyPostS, results, Try.results87]
theorem eql62_nil (w : World) : (binOp .eql 62 .nilFunc .nilFunc).run Try.prog w = .ok (.bool true) w := by kernel_rfl
theorem eql62_of (v : Value) (w : World) : (binOp .eql 62 (.func (.func 26) #[v] #[]) .nilFunc).run Try.prog w = .ok (.bool false) w := by kernel_rfl
abbrev ofV (v : Value) : Value := .func (.func 26) #[v] #[]
set_option maxRecDepth 100000 in
theorem lookup_nil (w : World) (nm : Bs) : Calls Try.prog 61 #[.nilFunc, .string (bs nm)] w fun e w' => e = .returned (.string (bs [])) ∧ Below w.heap.size w w' := by
  have hmf : ∀ (fn : Fn) (first cap : Array Value) (w : World), (Instr.makeFunc fn first cap).run Try.prog w = .ok (.func fn first cap) w := fun _ _ _ _ => rfl
  have he := eql62_nil
  go_enter_defers Try.func61, Try.ntmps61
  go_wp2
  refine leaves_cons (f := 87) (args := #[.pointer (some ⟨w.heap.size, 0, none⟩)]) (by simp) (by simp [go_sem]) ?_
  refine (catch_idle ⟨w.heap.size, 0, none⟩ _).mono ?_
  rintro e u' w'' ⟨rfl, rfl, rfl⟩
  simp [Leaves, settle, results, Try.results61, go_sem, bs]
  exact (Below.refl _ _).alloc (Nat.le_refl _) _
set_option maxRecDepth 100000 in
theorem lookup_of (w : World) (v : Value) (vs : Vl) (nm : Bs) (h : Rd 56 w v vs.length (vlC vs)) (hl : vs.length ≤ 100000) : Calls Try.prog 61 #[ofV v, .string (bs nm)] w fun e w' => e = .returned (.string (bs (valOf vs nm))) ∧ Below w.heap.size w w' := by
  have hmf : ∀ (fn : Fn) (first cap : Array Value) (w : World), (Instr.makeFunc fn first cap).run Try.prog w = .ok (.func fn first cap) w := fun _ _ _ _ => rfl
  have H := Lib.hid h
  obtain ⟨A, c, rfl, _⟩ := Rd.form h
  clear h
  have he := eql62_of
  go_enter_defers Try.func61, Try.ntmps61
  go_wp2_with fail
  refine (of_any _ _ vs nm (Rd.next H.out ((Below.refl _ _).alloc (Nat.le_refl _) _)) hl).mono ?_
  rintro e w' ⟨rfl, rfl⟩
  go_wp2
  refine leaves_cons (f := 87) (args := #[.pointer (some ⟨w.heap.size, 0, none⟩)]) (by simp) (by simp [go_sem]) ?_
  refine (catch_idle ⟨w.heap.size, 0, none⟩ _).mono ?_
  rintro e u' w'' ⟨rfl, rfl, rfl⟩
  simp [Leaves, settle, results, Try.results61, go_sem, bs]
  exact (Below.refl _ _).alloc (Nat.le_refl _) _
end Go.Proofs.Ytiddchpkmcncdaa
