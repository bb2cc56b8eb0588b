/- Walks of layer 41: the value of a token. -/
import Derived.Test.YtiddchpkmcncdaaM4
namespace Go.Proofs.Ytiddchpkmcncdaa
open Go.RowKit
set_option linter.unusedSimpArgs false
set_option linter.unusedVariables false
/-- What value gives. -/
def ValP (w : World) (t : Tk) (e : Ending) (w' : World) : Prop := ∃ v, e = .returned v ∧ RdW w' v (valS t) ∧ Below w.heap.size w w'
theorem ext_drop (l : Bs) (k : Nat) : (bs l).extract k (bs l).size = bs (l.drop k) := by
  rw [ext_end]; unfold dr; rw [bs_list]
theorem pcC_cons (f : Pc) (r : Wd) : pcC (f :: r) = pcV f ++ pcC r := by simp [pcC]
theorem pcC_drop (f : Pc) (r : Wd) : (pcC (f :: r)).drop (1 * 3) = pcC r := by rw [pcC_cons]; rfl
theorem value_end {w W w1 : World} {t : Tk} {v v0 : Value} {xs : List Value} {n : Nat} {p : Pc} {r : Wd} {S : ByteArray} (hb : Below w.heap.size w W) (ho : W.ownsRow w.heap.size 61 3 v0 1 xs) (hg : W.grownBy w1 v0.ownBlock) (hown : w1.ownsRow w.heap.size 61 3 v n ([.string S, .bool p.var, .bool p.quo] ++ pcC r)) (hn : n = r.length + 1) (hS : S = bs p.text) (hv : valS t = p :: r) : ValP w t (.returned v) w1 := by
  subst hS hn
  refine ⟨v, rfl, ?_, below_own hb ho hg (Nat.le_refl _) hb.size⟩
  rw [hv]
  exact Rd.of_own (by rw [List.length_cons, pcC_cons]; exact hown)
theorem valS_app (t : Tk) (f : Pc) (r : Wd) (hw : t.word = f :: r) (h : ((f.text.drop (t.name.length + 1)).isEmpty && !r.isEmpty) = false) : valS t = ⟨f.text.drop (t.name.length + 1), f.var, f.quo⟩ :: r := by
  unfold valS; rw [hw]; simp only; rw [if_neg (by rw [h]; decide)]
theorem valS_cut (t : Tk) (f : Pc) (r : Wd) (hw : t.word = f :: r) (h : ((f.text.drop (t.name.length + 1)).isEmpty && !r.isEmpty) = true) : valS t = r := by
  unfold valS; rw [hw]; simp only; rw [if_pos h]
set_option maxRecDepth 100000 in
set_option maxHeartbeats 1000000 in
theorem value_nil (w : World) (t : Tk) (v : Value) (f : Pc) (r : Wd) (h : RdW w v t.word) (hw : t.word = f :: r) (hn : t.name.length + 1 ≤ f.text.length) (hl : t.name.length ≤ 100000) (hr : r.length ≤ 100000) (hr0 : r.length = 0) :
    Calls Try.prog 122 #[tokA t v] w (ValP w t) := by
  cases t with
  | mk pos op word name =>
    dsimp only at h hw hn hl
    subst hw
    have HR := Lib.hid h
    obtain ⟨b, o, c, rfl, hnc, hcm, hb, hcell⟩ := Rd.at_ h (by simp)
    have d0 : w.cell? ⟨b, o, none⟩ = some (.string (bs f.text)) := hcell 0 _ (by rw [pcC_cons]; rfl)
    have d1 : w.cell? ⟨b, o + 1, none⟩ = some (.bool f.var) := hcell 1 _ (by rw [pcC_cons]; rfl)
    have d2 : w.cell? ⟨b, o + 2, none⟩ = some (.bool f.quo) := hcell 2 _ (by rw [pcC_cons]; rfl)
    have HT := Lib.hid (Rd.cut HR.out 3 1 (by simp) (pcC_len _))
    have HE := Lib.hid (show (bs f.text).extract ((bs name).size + 1) (bs f.text).size = bs (f.text.drop (name.length + 1)) by rw [bs_size name]; exact ext_drop f.text (name.length + 1))
    have e1 := bs_size f.text
    have e2 := bs_size name
    unfold tokA
    dsimp only
    have q1 : (bs name).size + 1 ≤ (bs f.text).size := by omega
    have q2 : (bs name).size ≤ 100000 := by omega
    simp only [List.length_cons] at hnc
    clear h hcell e1 e2
    obtain rfl : r = [] := List.length_eq_zero_iff.1 (by omega)
    have HV := Lib.hid (valS_app ⟨pos, op, [f], name⟩ f [] rfl (by simp))
    by_cases hc1 : c = 1
    · subst hc1
      obtain ⟨i0, hi, hz0, hz1, hz2⟩ := info_parts info61
      have HO := Lib.hid (show ((((w.alloc (.cells #[.int .i64 (pos : Int), .string (bs op), .slice (some ⟨b, o, none⟩) 1 1, .string (bs name)] 128)).alloc (.cells #[.string ((bs f.text).extract ((bs name).size + 1) (bs f.text).size), .bool f.var, .bool f.quo] 61)).alloc (.cells #[.string ((bs f.text).extract ((bs name).size + 1) (bs f.text).size), .bool f.var, .bool f.quo] 61)).drew).ownsRow w.heap.size 61 3 (.slice (some ⟨w.heap.size + 1 + 1, 0, none⟩) 1 1) 1 [.string ((bs f.text).extract ((bs name).size + 1) (bs f.text).size), .bool f.var, .bool f.quo] by
        have := (own_new ((w.alloc (.cells #[.int .i64 (pos : Int), .string (bs op), .slice (some ⟨b, o, none⟩) 1 1, .string (bs name)] 128)).alloc (.cells #[.string ((bs f.text).extract ((bs name).size + 1) (bs f.text).size), .bool f.var, .bool f.quo] 61)) w.heap.size 61 3 [.string ((bs f.text).extract ((bs name).size + 1) (bs f.text).size), .bool f.var, .bool f.quo] rfl (by simp; omega)).drew
        simpa using this)
      have HB := Lib.hid (show Below w.heap.size w ((((w.alloc (.cells #[.int .i64 (pos : Int), .string (bs op), .slice (some ⟨b, o, none⟩) 1 1, .string (bs name)] 128)).alloc (.cells #[.string ((bs f.text).extract ((bs name).size + 1) (bs f.text).size), .bool f.var, .bool f.quo] 61)).alloc (.cells #[.string ((bs f.text).extract ((bs name).size + 1) (bs f.text).size), .bool f.var, .bool f.quo] 61)).drew) from ((((Below.refl _ _).alloc (Nat.le_refl _) _).alloc (by simp) _).alloc (by simp; omega) _).drew)
      have HX := Lib.hid (show Rd 61 ((((w.alloc (.cells #[.int .i64 (pos : Int), .string (bs op), .slice (some ⟨b, o, none⟩) 1 1, .string (bs name)] 128)).alloc (.cells #[.string ((bs f.text).extract ((bs name).size + 1) (bs f.text).size), .bool f.var, .bool f.quo] 61)).alloc (.cells #[.string ((bs f.text).extract ((bs name).size + 1) (bs f.text).size), .bool f.var, .bool f.quo] 61)).drew) (.slice (some ⟨b, o, none⟩) 0 0) 0 (pcC []) by
        have h1 := HT.out
        rw [if_pos rfl, pcC_drop] at h1
        exact Rd.next h1 HB.out)
      go_enter Try.func122, Try.ntmps122
      go_wp2
      all_goals
        go_region_law ((refine step_append_rd _ (by rfl) _ _ _ (by rfl) w.heap.size 61 i0 _ 3 24 Try.underlying42 hi hz0 hz1 hz2 rfl (by omega) (.slice (some ⟨w.heap.size + 1 + 1, 0, none⟩) 1 1) 1 _ (by rfl) HO.out (.slice (some ⟨b, o, none⟩) 0 0) 0 (pcC []) (by rfl) HX.out (by simp [pcC_len]) (pcC_one []) (by unfold maxLen; omega) (by omega) (by simp; omega) ?_; intro ao cap w1 hown hgrow))
        all_goals
          go_wp2
          go_ret
          exact value_end (p := ⟨f.text.drop (name.length + 1), f.var, f.quo⟩) HB.out HO.out hgrow hown (by omega) HE.out HV.out
    · have HC := Lib.hid hc1
      obtain ⟨i0, hi, hz0, hz1, hz2⟩ := info_parts info61
      have HO := Lib.hid (show ((((w.alloc (.cells #[.int .i64 (pos : Int), .string (bs op), .slice (some ⟨b, o, none⟩) 1 c, .string (bs name)] 128)).alloc (.cells #[.string ((bs f.text).extract ((bs name).size + 1) (bs f.text).size), .bool f.var, .bool f.quo] 61)).alloc (.cells #[.string ((bs f.text).extract ((bs name).size + 1) (bs f.text).size), .bool f.var, .bool f.quo] 61)).drew).ownsRow w.heap.size 61 3 (.slice (some ⟨w.heap.size + 1 + 1, 0, none⟩) 1 1) 1 [.string ((bs f.text).extract ((bs name).size + 1) (bs f.text).size), .bool f.var, .bool f.quo] by
        have := (own_new ((w.alloc (.cells #[.int .i64 (pos : Int), .string (bs op), .slice (some ⟨b, o, none⟩) 1 c, .string (bs name)] 128)).alloc (.cells #[.string ((bs f.text).extract ((bs name).size + 1) (bs f.text).size), .bool f.var, .bool f.quo] 61)) w.heap.size 61 3 [.string ((bs f.text).extract ((bs name).size + 1) (bs f.text).size), .bool f.var, .bool f.quo] rfl (by simp; omega)).drew
        simpa using this)
      have HB := Lib.hid (show Below w.heap.size w ((((w.alloc (.cells #[.int .i64 (pos : Int), .string (bs op), .slice (some ⟨b, o, none⟩) 1 c, .string (bs name)] 128)).alloc (.cells #[.string ((bs f.text).extract ((bs name).size + 1) (bs f.text).size), .bool f.var, .bool f.quo] 61)).alloc (.cells #[.string ((bs f.text).extract ((bs name).size + 1) (bs f.text).size), .bool f.var, .bool f.quo] 61)).drew) from ((((Below.refl _ _).alloc (Nat.le_refl _) _).alloc (by simp) _).alloc (by simp; omega) _).drew)
      have HX := Lib.hid (show Rd 61 ((((w.alloc (.cells #[.int .i64 (pos : Int), .string (bs op), .slice (some ⟨b, o, none⟩) 1 c, .string (bs name)] 128)).alloc (.cells #[.string ((bs f.text).extract ((bs name).size + 1) (bs f.text).size), .bool f.var, .bool f.quo] 61)).alloc (.cells #[.string ((bs f.text).extract ((bs name).size + 1) (bs f.text).size), .bool f.var, .bool f.quo] 61)).drew) (.slice (some ⟨b, o + 3, none⟩) 0 (c - 1)) 0 (pcC []) by
        have h1 := HT.out
        rw [if_neg HC.out, pcC_drop] at h1
        exact Rd.next h1 HB.out)
      go_enter Try.func122, Try.ntmps122
      go_wp2
      all_goals
        go_region_law ((refine step_append_rd _ (by rfl) _ _ _ (by rfl) w.heap.size 61 i0 _ 3 24 Try.underlying42 hi hz0 hz1 hz2 rfl (by omega) (.slice (some ⟨w.heap.size + 1 + 1, 0, none⟩) 1 1) 1 _ (by rfl) HO.out (.slice (some ⟨b, o + 3, none⟩) 0 (c - 1)) 0 (pcC []) (by rfl) HX.out (by simp [pcC_len]) (pcC_one []) (by unfold maxLen; omega) (by omega) (by simp; omega) ?_; intro ao cap w1 hown hgrow))
        all_goals
          go_wp2
          go_ret
          exact value_end (p := ⟨f.text.drop (name.length + 1), f.var, f.quo⟩) HB.out HO.out hgrow hown (by omega) HE.out HV.out
set_option maxRecDepth 100000 in
set_option maxHeartbeats 1000000 in
theorem value_app (w : World) (t : Tk) (v : Value) (f : Pc) (r : Wd) (h : RdW w v t.word) (hw : t.word = f :: r) (hn : t.name.length + 1 ≤ f.text.length) (hl : t.name.length ≤ 100000) (hr : r.length ≤ 100000) (hr0 : 0 < r.length) (hd : t.name.length + 1 < f.text.length) :
    Calls Try.prog 122 #[tokA t v] w (ValP w t) := by
  cases t with
  | mk pos op word name =>
    dsimp only at h hw hn hl hd
    subst hw
    have HR := Lib.hid h
    obtain ⟨b, o, c, rfl, hnc, hcm, hb, hcell⟩ := Rd.at_ h (by simp)
    have d0 : w.cell? ⟨b, o, none⟩ = some (.string (bs f.text)) := hcell 0 _ (by rw [pcC_cons]; rfl)
    have d1 : w.cell? ⟨b, o + 1, none⟩ = some (.bool f.var) := hcell 1 _ (by rw [pcC_cons]; rfl)
    have d2 : w.cell? ⟨b, o + 2, none⟩ = some (.bool f.quo) := hcell 2 _ (by rw [pcC_cons]; rfl)
    have HT := Lib.hid (Rd.cut HR.out 3 1 (by simp) (pcC_len _))
    have HE := Lib.hid (show (bs f.text).extract ((bs name).size + 1) (bs f.text).size = bs (f.text.drop (name.length + 1)) by rw [bs_size name]; exact ext_drop f.text (name.length + 1))
    have e1 := bs_size f.text
    have e2 := bs_size name
    unfold tokA
    dsimp only
    have q1 : (bs name).size + 1 ≤ (bs f.text).size := by omega
    have q2 : (bs name).size ≤ 100000 := by omega
    simp only [List.length_cons] at hnc
    clear h hcell e1 e2
    have HV := Lib.hid (valS_app ⟨pos, op, f :: r, name⟩ f r rfl (by
      have : (f.text.drop (name.length + 1)).isEmpty = false := by
        rw [List.isEmpty_eq_false_iff_exists_mem]
        exact ⟨_, List.getElem_mem (n := 0) (by simp; omega)⟩
      show ((f.text.drop (name.length + 1)).isEmpty && !r.isEmpty) = false
      rw [this]; rfl))
    have hc1 : ¬ c = 1 := by omega
    have HC := Lib.hid hc1
    have he : ((bs f.text).extract ((bs name).size + 1) (bs f.text).size).toList.isEmpty = false := isEmpty_of _ (by rw [HE.out, bs_size]; simp; omega)
    have q3 : (1 : Int) ≤ (r.length : Int) + 1 := by omega
    obtain ⟨i0, hi, hz0, hz1, hz2⟩ := info_parts info61
    have HO := Lib.hid (show ((((w.alloc (.cells #[.int .i64 (pos : Int), .string (bs op), .slice (some ⟨b, o, none⟩) (r.length + 1) c, .string (bs name)] 128)).alloc (.cells #[.string ((bs f.text).extract ((bs name).size + 1) (bs f.text).size), .bool f.var, .bool f.quo] 61)).alloc (.cells #[.string ((bs f.text).extract ((bs name).size + 1) (bs f.text).size), .bool f.var, .bool f.quo] 61)).drew).ownsRow w.heap.size 61 3 (.slice (some ⟨w.heap.size + 1 + 1, 0, none⟩) 1 1) 1 [.string ((bs f.text).extract ((bs name).size + 1) (bs f.text).size), .bool f.var, .bool f.quo] by
      have := (own_new ((w.alloc (.cells #[.int .i64 (pos : Int), .string (bs op), .slice (some ⟨b, o, none⟩) (r.length + 1) c, .string (bs name)] 128)).alloc (.cells #[.string ((bs f.text).extract ((bs name).size + 1) (bs f.text).size), .bool f.var, .bool f.quo] 61)) w.heap.size 61 3 [.string ((bs f.text).extract ((bs name).size + 1) (bs f.text).size), .bool f.var, .bool f.quo] rfl (by simp; omega)).drew
      simpa using this)
    have HB := Lib.hid (show Below w.heap.size w ((((w.alloc (.cells #[.int .i64 (pos : Int), .string (bs op), .slice (some ⟨b, o, none⟩) (r.length + 1) c, .string (bs name)] 128)).alloc (.cells #[.string ((bs f.text).extract ((bs name).size + 1) (bs f.text).size), .bool f.var, .bool f.quo] 61)).alloc (.cells #[.string ((bs f.text).extract ((bs name).size + 1) (bs f.text).size), .bool f.var, .bool f.quo] 61)).drew) from ((((Below.refl _ _).alloc (Nat.le_refl _) _).alloc (by simp) _).alloc (by simp; omega) _).drew)
    have HX := Lib.hid (show Rd 61 ((((w.alloc (.cells #[.int .i64 (pos : Int), .string (bs op), .slice (some ⟨b, o, none⟩) (r.length + 1) c, .string (bs name)] 128)).alloc (.cells #[.string ((bs f.text).extract ((bs name).size + 1) (bs f.text).size), .bool f.var, .bool f.quo] 61)).alloc (.cells #[.string ((bs f.text).extract ((bs name).size + 1) (bs f.text).size), .bool f.var, .bool f.quo] 61)).drew) (.slice (some ⟨b, o + 3, none⟩) r.length (c - 1)) r.length (pcC r) by
      have h1 := HT.out
      rw [if_neg HC.out, pcC_drop] at h1
      exact Rd.next h1 HB.out)
    go_enter Try.func122, Try.ntmps122
    go_wp2
    all_goals
      go_region_law ((refine step_append_rd _ (by rfl) _ _ _ (by rfl) w.heap.size 61 i0 _ 3 24 Try.underlying42 hi hz0 hz1 hz2 rfl (by omega) (.slice (some ⟨w.heap.size + 1 + 1, 0, none⟩) 1 1) 1 _ (by rfl) HO.out (.slice (some ⟨b, o + 3, none⟩) r.length (c - 1)) r.length (pcC r) (by rfl) HX.out (by simp [pcC_len]) (pcC_one r) (by unfold maxLen; omega) (by omega) (by simp; omega) ?_; intro ao cap w1 hown hgrow))
      all_goals
        go_wp2
        go_ret
        exact value_end (p := ⟨f.text.drop (name.length + 1), f.var, f.quo⟩) HB.out HO.out hgrow hown (by omega) HE.out HV.out
set_option maxRecDepth 100000 in
set_option maxHeartbeats 1000000 in
theorem value_cut (w : World) (t : Tk) (v : Value) (f : Pc) (r : Wd) (h : RdW w v t.word) (hw : t.word = f :: r) (hn : t.name.length + 1 ≤ f.text.length) (hl : t.name.length ≤ 100000) (hr : r.length ≤ 100000) (hr0 : 0 < r.length) (hd : t.name.length + 1 = f.text.length) :
    Calls Try.prog 122 #[tokA t v] w (ValP w t) := by
  cases t with
  | mk pos op word name =>
    dsimp only at h hw hn hl hd
    subst hw
    have HR := Lib.hid h
    obtain ⟨b, o, c, rfl, hnc, hcm, hb, hcell⟩ := Rd.at_ h (by simp)
    have d0 : w.cell? ⟨b, o, none⟩ = some (.string (bs f.text)) := hcell 0 _ (by rw [pcC_cons]; rfl)
    have d1 : w.cell? ⟨b, o + 1, none⟩ = some (.bool f.var) := hcell 1 _ (by rw [pcC_cons]; rfl)
    have d2 : w.cell? ⟨b, o + 2, none⟩ = some (.bool f.quo) := hcell 2 _ (by rw [pcC_cons]; rfl)
    have HT := Lib.hid (Rd.cut HR.out 3 1 (by simp) (pcC_len _))
    have HE := Lib.hid (show (bs f.text).extract ((bs name).size + 1) (bs f.text).size = bs (f.text.drop (name.length + 1)) by rw [bs_size name]; exact ext_drop f.text (name.length + 1))
    have e1 := bs_size f.text
    have e2 := bs_size name
    unfold tokA
    dsimp only
    have q1 : (bs name).size + 1 ≤ (bs f.text).size := by omega
    have q2 : (bs name).size ≤ 100000 := by omega
    simp only [List.length_cons] at hnc
    clear h hcell e1 e2
    have HV := Lib.hid (valS_cut ⟨pos, op, f :: r, name⟩ f r rfl (by
      show ((f.text.drop (name.length + 1)).isEmpty && !r.isEmpty) = true
      rw [List.drop_eq_nil_of_le (by omega)]
      cases r with
      | nil => simp at hr0
      | cons a l => rfl))
    have hc1 : ¬ c = 1 := by omega
    have HC := Lib.hid hc1
    have he : ((bs f.text).extract ((bs name).size + 1) (bs f.text).size).toList = [] := by rw [HE.out, List.drop_eq_nil_of_le (by omega), bs_tl]
    have q3 : (1 : Int) ≤ (r.length : Int) + 1 := by omega
    have q4 : (1 : Int) < (r.length : Int) + 1 := by omega
    clear hd
    go_enter Try.func122, Try.ntmps122
    go_wp2
    go_ret
    have HB := Lib.hid (show Below w.heap.size w ((w.alloc (.cells #[.int .i64 (pos : Int), .string (bs op), .slice (some ⟨b, o, none⟩) (r.length + 1) c, .string (bs name)] 128)).alloc (.cells #[.string ((bs f.text).extract ((bs name).size + 1) (bs f.text).size), .bool f.var, .bool f.quo] 61)) from (((Below.refl _ _).alloc (Nat.le_refl _) _).alloc (by simp) _))
    have h1 := HT.out
    rw [if_neg HC.out, pcC_drop] at h1
    exact ⟨_, rfl, by rw [HV.out]; exact Rd.next h1 HB.out, HB.out⟩
theorem value_any (w : World) (t : Tk) (v : Value) (f : Pc) (r : Wd) (h : RdW w v t.word) (hw : t.word = f :: r) (hn : t.name.length + 1 ≤ f.text.length) (hl : t.name.length ≤ 100000) (hr : r.length ≤ 100000) :
    Calls Try.prog 122 #[tokA t v] w (ValP w t) := by
  rcases Nat.eq_zero_or_pos r.length with h0 | h0
  · exact value_nil w t v f r h hw hn hl hr h0
  · rcases Nat.lt_or_ge (t.name.length + 1) f.text.length with h1 | h1
    · exact value_app w t v f r h hw hn hl hr h0 h1
    · exact value_cut w t v f r h hw hn hl hr h0 (by omega)
end Go.Proofs.Ytiddchpkmcncdaa
