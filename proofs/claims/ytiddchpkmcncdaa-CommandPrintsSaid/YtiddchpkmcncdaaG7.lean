/- Walks of layer 41: the reference's check of a word. -/
import Derived.Test.YtiddchpkmcncdaaE1
import Derived.Test.YtiddchpkmcncdaaX31
import Derived.Test.YtiddchpkmcncdaaG4
import Derived.Deep.DeepCutAuto
namespace Go.Proofs.Ytiddchpkmcncdaa
open Go.RowKit
set_option linter.unusedSimpArgs false
set_option linter.unusedVariables false
theorem rIsVar_is (l : Bs) (w : World) (b : Bool) (h : isVarS l = b) (hs : (bs l).size ≤ 100000) : Calls Try.prog 19 #[.string (bs l)] w fun e w' => e = .returned (.bool b) ∧ w = w' := by
  refine (ref_IsVariable_any (bs l) w hs).mono ?_
  rintro e w' ⟨rfl, rfl⟩
  exact ⟨ret_bool (by unfold isVarB; rw [bs_list, h]), rfl⟩
theorem permitted_is (n : Int) (w : World) (b : Bool) (h : perI n = b) : Calls Try.prog 42 #[.int .u8 n] w fun e w' => e = .returned (.bool b) ∧ w = w' := by subst h; exact permitted_any n w
theorem bad_lt (s : ByteArray) (k : Nat) (hk : k < s.size) (h1 : ∀ i, i < k → perI (bt s i) = true) (h2 : perI (bt s k) = false) : badS s.data.toList < s.data.toList.length := by
  have : badS s.data.toList = k := tw_at _ s.data.toList k (by simpa using Nat.le_of_lt hk) h1 (.inr h2)
  rw [this]; simpa using hk
theorem bad_ge (s : ByteArray) (h1 : ∀ i, i < s.size → perI (bt s i) = true) : ¬ badS s.data.toList < s.data.toList.length := by
  have : badS s.data.toList = s.size := tw_at _ s.data.toList s.size (by simp) h1 (.inl (by simp))
  rw [this]; simp
def RwRel (w : World) (ps : Wd) (gk : Nat) (v : Value) (wr : World) : Prop :=
  ∃ k, v = .int .i64 ((k : Nat) : Int) ∧ k ≤ ps.length ∧ gk + k = ps.length + 1 ∧ w = wr ∧ wchk ps = wchkP ps.length (pvA ps k) (ps.drop k)
def RpRel (w : World) (s : ByteArray) (gk : Nat) (v : Value) (wr : World) : Prop :=
  ∃ j, v = .int .i64 ((j : Nat) : Int) ∧ j ≤ s.size ∧ gk + j = s.size + 1 ∧ w = wr ∧ ∀ i, i < j → perI (bt s i) = true
set_option maxRecDepth 100000 in
set_option maxHeartbeats 8000000 in
theorem rword_any (w : World) (v : Value) (ps : Wd) (h : NWp 51 w v ps) (hl : ps.length ≤ 100000) (hpl : ∀ p ∈ ps, p.text.length ≤ 100000) :
    Calls Try.prog 93 #[v] w fun e w' => e = .returned (.int .i64 (wchk ps)) ∧ w = w' := by
  obtain ⟨A, c, rfl, hc, hcell⟩ := Rd.pall h
  have HC := Lib.hid hcell
  have HPL := Lib.hid hpl
  clear h hcell hpl
  rcases Nat.eq_zero_or_pos ps.length with h0 | h0
  · obtain rfl := List.length_eq_zero_iff.1 h0
    clear h0 HC HPL
    go_enter Try.func93, Try.ntmps93
    go_wp2
    go_ret
    exact ⟨rfl, rfl⟩
  · have e1 : ((ps.length : Int) == 0) = false := beq_false_of_ne (by omega)
    have HW0 := Lib.hid (show wchk ps = wchkP ps.length (pvA ps 0) (ps.drop 0) by
      unfold wchk pvA
      rw [if_neg (by cases ps with | nil => simp at h0 | cons a l => simp), if_pos rfl, List.drop_zero])
    go_enter Try.func93, Try.ntmps93
    go_wp2
    go_loopg [3] (ps.length + 1) (fun gk v wr => RwRel w ps gk v wr)
    case atStart => exact ⟨0, rfl, Nat.zero_le _, by omega, rfl, HW0.out⟩
    case round =>
      obtain ⟨k, rfl, hk, hgk, rfl, hr⟩ := hrel
      have HR := Lib.hid hr
      clear hr HW0
      by_cases hlt : k < ps.length
      · obtain ⟨b, o, rfl, hb0, hx⟩ := HC.out k hlt
        obtain ⟨b0, b1, b2⟩ := hx k hlt
        have HPV := Lib.hid (fun (hk0 : 0 < k) => hx (k - 1) (by omega))
        have HS := Lib.hid (pvA_succ ps k hlt)
        have HD := Lib.hid (HR.out.trans (wchkP_drop ps.length (pvA ps k) ps k hlt))
        have htl := HPL.out ps[k] (List.getElem_mem hlt)
        obtain ⟨p, hp⟩ : ∃ p, ps[k] = p := ⟨_, rfl⟩
        rw [hp] at b0 b1 b2 HS HD htl
        clear hp hx HR
        have hz : (bs p.text).size ≤ 100000 := by rw [bs_size]; exact htl
        have i1 : (0 : Int) ≤ (k : Int) := by omega
        have i2 : (k : Int) < (ps.length : Int) := by omega
        cases hv : p.var with
        | true =>
          rw [hv] at b1 HS
          rw [hv, if_pos rfl] at HD
          clear hv
          cases hn : isVarS p.text with
          | true =>
            have HN := Lib.hid hn
            rw [hn, if_pos rfl] at HD
            clear hn
            go_wp2_with (go_at_call 19; refine (rIsVar_is p.text _ true HN.out hz).mono ?_; rintro e w' ⟨rfl, rfl⟩)
            go_roundg (gk - 1)
            case rel => exact ⟨k + 1, by go_num, by omega, by omega, rfl, by rw [HS.out]; exact HD.out⟩
            case measure => omega
          | false =>
            have HN := Lib.hid hn
            rw [hn, if_neg (by simp)] at HD
            clear hn
            go_wp2_with (go_at_call 19; refine (rIsVar_is p.text _ false HN.out hz).mono ?_; rintro e w' ⟨rfl, rfl⟩)
            go_ret
            exact ⟨wchk_ret HD.out rfl, rfl⟩
        | false =>
          rw [hv] at b1 HS
          rw [hv, if_neg (by simp)] at HD
          clear hv
          obtain ⟨gk0, rfl⟩ : ∃ gk0 : Nat, gk0 = gk := ⟨_, rfl⟩
          obtain ⟨t, ht⟩ : ∃ t, bs p.text = t := ⟨_, rfl⟩
          have htd : t.data.toList = p.text := by rw [← ht, bs_list]
          have HT := Lib.hid (show t.toList = p.text by rw [← ht, bs_tl])
          rw [ht] at b0 hz
          rw [← htd] at HD
          have HTD := Lib.hid htd
          clear ht htd htl
          go_wp2
          go_loopg [4] (t.size + 1) (fun gk v wr => RpRel w t gk v wr)
          case atStart => exact ⟨0, rfl, Nat.zero_le _, by omega, rfl, fun i hi => by omega⟩
          case round =>
            obtain ⟨j, rfl, hj, hgj, rfl, hper⟩ := hrel
            have HP := Lib.hid hper
            clear hper
            by_cases hjl : j < t.size
            · have hbk := bt_of t j hjl
              have i3 : (0 : Int) ≤ (j : Int) := by omega
              have i4 : (j : Int) < (t.size : Int) := by omega
              cases hq : perI (bt t j) with
              | true =>
                have HQ := Lib.hid hq
                clear hq
                go_wp2_with (go_at_call 42; refine (permitted_is _ _ true HQ.out).mono ?_; rintro e w' ⟨rfl, rfl⟩)
                go_roundg (gk - 1)
                case rel => exact ⟨j + 1, by go_num, by omega, by omega, rfl, fun i hi => (by by_cases e : i = j; (subst e; exact HQ.out); exact HP.out i (by omega))⟩
                case measure => omega
              | false =>
                have HQ := Lib.hid hq
                have HB := Lib.hid (bad_lt t j hjl HP.out hq)
                rw [if_pos HB.out] at HD
                clear hq
                go_wp2_with (go_at_call 42; refine (permitted_is _ _ false HQ.out).mono ?_; rintro e w' ⟨rfl, rfl⟩)
                go_ret
                exact ⟨wchk_ret HD.out rfl, rfl⟩
            · obtain rfl : j = t.size := by omega
              have HB := Lib.hid (bad_ge t HP.out)
              rw [if_neg HB.out] at HD
              clear HP hj hgj hjl HB
              cases hq : p.quo with
              | true =>
                rw [hq] at b2
                rw [hq] at HD
                clear hq
                go_wp2
                go_ret
                exact ⟨wchk_ret HD.out rfl, rfl⟩
              | false =>
                rw [hq] at b2
                rw [hq, HTD.out] at HD
                clear hq
                cases ht : (p.text.isEmpty && decide (1 < ps.length)) with
                | true =>
                  have hte : p.text.isEmpty = true := by cases h : p.text.isEmpty with | true => rfl | false => rw [h] at ht; simp at ht
                  have htl1 : 1 < ps.length := by rw [hte] at ht; simpa using ht
                  have t1 : t.toList = [] := by rw [HT.out]; exact List.isEmpty_iff.1 hte
                  have t2 : decide ((1 : Int) < (ps.length : Int)) = true := by simp; omega
                  rw [ht] at HD
                  clear ht hte
                  go_wp2
                  go_ret
                  exact ⟨wchk_ret HD.out rfl, rfl⟩
                | false =>
                  rw [ht] at HD
                  rcases Nat.eq_zero_or_pos k with hk0 | hk0
                  · have HK0 := Lib.hid hk0
                    rw [show pvA ps k = true by rw [hk0]; rfl, if_neg (by simp)] at HD
                    have f1 : decide ((0 : Int) < (k : Int)) = false := by simp; omega
                    have f2 : ¬ 0 < k := by omega
                    clear hk0
                    cases hte : p.text.isEmpty with
                    | false =>
                      have t1 : t.toList.isEmpty = false := by rw [HT.out]; exact hte
                      have t2 : ¬ t.toList = [] := by rw [HT.out]; intro h; rw [h] at hte; cases hte
                      clear hte ht
                      go_wp2
                      go_roundg (gk0 - 1)
                      case rel => exact ⟨k + 1, by go_num, by omega, by omega, rfl, by rw [HS.out]; exact HD.out⟩
                      case measure => omega
                    | true =>
                      have t1 : t.toList = [] := by rw [HT.out]; exact List.isEmpty_iff.1 hte
                      have t3 : decide ((1 : Int) < (ps.length : Int)) = false := by rw [hte] at ht; simp at ht; simp; omega
                      have t4 : ¬ 1 < ps.length := by rw [hte] at ht; simpa using ht
                      clear hte ht
                      go_wp2
                      go_roundg (gk0 - 1)
                      case rel => exact ⟨k + 1, by go_num, by omega, by omega, rfl, by rw [HS.out]; exact HD.out⟩
                      case measure => omega
                  · have hpv := pvA_pos ps k hk0 hlt
                    obtain ⟨c0, c2, c3⟩ := HPV.out hk0
                    rw [← hpv] at c2
                    have L1 : IntKind.i64.wrap ((k : Int) - 1) = (k : Int) - 1 := IntWalk.i64_in _ (by omega)
                    have L2 : (1 : Int) ≤ (k : Int) := by omega
                    have L3 : (k : Int) - 1 < (ps.length : Int) := by omega
                    have L4 : ((k : Int) - 1).toNat = k - 1 := by omega
                    have f1 : decide ((0 : Int) < (k : Int)) = true := by simp; omega
                    have f2 : 0 < k := hk0
                    clear hpv c0 c3
                    cases hte : p.text.isEmpty with
                    | true =>
                      have t4 : ¬ 1 < ps.length := by rw [hte] at ht; simpa using ht
                      omega
                    | false =>
                      have t1 : t.toList.isEmpty = false := by rw [HT.out]; exact hte
                      have t2 : ¬ t.toList = [] := by rw [HT.out]; intro h; rw [h] at hte; cases hte
                      clear hte ht
                      cases hpv : pvA ps k with
                      | true =>
                        rw [hpv] at c2
                        rw [hpv, if_neg (by simp)] at HD
                        clear hpv
                        go_wp2
                        go_roundg (gk0 - 1)
                        case rel => exact ⟨k + 1, by go_num, by omega, by omega, rfl, by rw [HS.out]; exact HD.out⟩
                        case measure => omega
                      | false =>
                        rw [hpv] at c2
                        rw [hpv, if_pos (by simp)] at HD
                        clear hpv
                        go_wp2
                        go_ret
                        exact ⟨wchk_ret HD.out rfl, rfl⟩
      · obtain rfl : k = ps.length := by omega
        have HZ := Lib.hid (show wchk ps = 0 by rw [HR.out, List.drop_length]; rfl)
        go_wp2
        go_ret
        exact ⟨wchk_ret HZ.out rfl, rfl⟩
theorem rword_is (w : World) (v : Value) (ps : Wd) (e0 : Int) (h : NWp 51 w v ps) (hl : WdLim ps) (he : wchk ps = e0) :
    Calls Try.prog 93 #[v] w fun e w' => e = .returned (.int .i64 e0) ∧ w = w' := by
  subst he; exact rword_any w v ps h hl.1 hl.2
end Go.Proofs.Ytiddchpkmcncdaa
/- Walks of layer 41: the reference's check of a simple command. -/
namespace Go.Proofs.Ytiddchpkmcncdaa
open Go.RowKit
set_option linter.unusedSimpArgs false
set_option linter.unusedVariables false
def insW (x : Wd) : List Wd := if x.isEmpty then [] else [x]
theorem insW_nil {x : Wd} (h : x.length = 0) : insW x = [] := by obtain rfl := List.length_eq_zero_iff.1 h; rfl
theorem insW_one {x : Wd} (h : 0 < x.length) : insW x = [x] := by unfold insW; rw [if_neg (by cases x with | nil => simp at h | cons a l => simp)]
def allW (c : Sm) : List Wd := c.words ++ insW c.inn ++ insW c.out
theorem frst_app : ∀ (a b : List Int), frst (a ++ b) = if frst a = 0 then frst b else frst a
  | [], b => by simp [frst]
  | e :: r, b => by
    rw [List.cons_append, frst, frst, frst_app r b]
    by_cases h : e = 0
    · rw [if_pos h, if_pos h]
    · rw [if_neg h, if_neg h, if_neg h]
theorem frst_ins (x : Wd) : frst ((insW x).map wchk) = ochk x := by
  unfold insW ochk
  split
  · rfl
  · simp only [List.map_cons, List.map_nil, frst]
    split
    · next h => exact h.symm
    · rfl
theorem frst_allW (c : Sm) : frst ((allW c).map wchk) = if frst (c.words.map wchk) = 0 then (if ochk c.inn = 0 then ochk c.out else ochk c.inn) else frst (c.words.map wchk) := by
  unfold allW
  rw [List.map_append, List.map_append, frst_app, frst_app, frst_ins, frst_ins]
  by_cases h1 : frst (c.words.map wchk) = 0
  · rw [if_pos h1, if_pos h1]
  · rw [if_neg h1, if_neg h1, if_neg h1]
theorem schk_all0 {c : Sm} (h : ¬ smNone c = true) (h2 : ¬ (32 < c.asg.length ∨ 32 < c.words.length)) (h3 : frst (c.asg.map achk) = 0) (h4 : frst ((allW c).map wchk) = 0) : schk c = if c.app && c.out.isEmpty then 10 else 0 := by
  rw [frst_allW] at h4
  by_cases h5 : frst (c.words.map wchk) = 0
  · rw [if_pos h5] at h4
    by_cases h6 : ochk c.inn = 0
    · rw [if_pos h6] at h4
      exact schk_7 h h2 h3 h5 h6 h4
    · rw [if_neg h6] at h4; exact absurd h4 h6
  · rw [if_neg h5] at h4; exact absurd h4 h5
theorem schk_alle {c : Sm} {e : Int} (h : ¬ smNone c = true) (h2 : ¬ (32 < c.asg.length ∨ 32 < c.words.length)) (h3 : frst (c.asg.map achk) = 0) (h4 : frst ((allW c).map wchk) = e) (he : e ≠ 0) : schk c = e := by
  rw [frst_allW] at h4
  by_cases h5 : frst (c.words.map wchk) = 0
  · rw [if_pos h5] at h4
    by_cases h6 : ochk c.inn = 0
    · rw [if_pos h6] at h4
      exact schk_6 h h2 h3 h5 h6 h4 he
    · rw [if_neg h6] at h4
      exact schk_5 h h2 h3 h5 h4 he
  · rw [if_neg h5] at h4
    exact schk_4 h h2 h3 h4 he
theorem allW_lim {c : Sm} (h : ∀ x ∈ c.words, WdLim x) (hi : WdLim c.inn) (ho : WdLim c.out) : ∀ x ∈ allW c, WdLim x := by
  unfold allW insW
  intro x hx
  simp only [List.mem_append] at hx
  rcases hx with (hx | hx) | hx
  · exact h x hx
  · split at hx
    · cases hx
    · rw [List.mem_singleton.1 hx]; exact hi
  · split at hx
    · cases hx
    · rw [List.mem_singleton.1 hx]; exact ho
def RaRel (w : World) (c : Sm) (gk : Nat) (v : Value) (wr : World) : Prop :=
  ∃ k, v = .int .i64 ((k : Nat) : Int) ∧ k ≤ c.asg.length ∧ gk + k = c.asg.length + 1 ∧ w = wr ∧ frst (c.asg.map achk) = frst ((c.asg.drop k).map achk)
def RlRel (w : World) (l : List Wd) (gk : Nat) (v : Value) (wr : World) : Prop :=
  ∃ k, v = .int .i64 ((k : Nat) : Int) ∧ k ≤ l.length ∧ gk + k = l.length + 1 ∧ w = wr ∧ frst (l.map wchk) = frst ((l.drop k).map wchk)
/-- The list all under construction. -/
def RbS (w : World) (cs : Array Value) (l : List Wd) (v : Value) (wx : World) : Prop := Below w.heap.size w wx ∧ Blk wx w.heap.size 109 cs ∧ RowOwn 39 1 wdV (NWp 51) wx w.heap.size v l
theorem own_empty (w : World) (base : Nat) (e : TypeId) (size : Nat) (hb : base ≤ w.heap.size) : (w.alloc (.cells #[] e)).ownsRow base e size (.slice (some ⟨w.heap.size, 0, none⟩) 0 0) 0 [] :=
  ⟨by simp, .inr ⟨w.heap.size, 0, #[], rfl, hb, heap_alloc_new w _, Nat.le_refl _, by unfold maxLen; omega, by simp, by simp⟩⟩
theorem rowC_wd (l : List Wd) (vs : List Value) (h : vs.length = l.length) : rowC wdV l vs = vs := by
  induction l generalizing vs with
  | nil => cases vs with | nil => rfl | cons a b => simp at h
  | cons a l ih =>
    match vs, h with
    | b :: vs, h => 
      have := ih vs (by simpa using h)
      show wdV a b ++ rowC wdV l vs = _
      rw [this]; rfl
theorem RbS.push {w wc w4 : World} {cs : Array Value} {l : List Wd} {x : Wd} {u v v' : Value} {vs : List Value} (hb : Below w.heap.size w wc) (hx : Blk wc w.heap.size 109 cs) (hw : RowW (NWp 51) wc l vs) (ho : wc.ownsRow w.heap.size 39 1 v l.length (rowC wdV l vs)) (o : Obj)
    (hg : (wc.alloc o).grownBy w4 v.ownBlock) (hown : w4.ownsRow w.heap.size 39 1 v' (l.length + 1) (rowC wdV l vs ++ [u])) (hu : NWp 51 wc u x) : RbS w cs (l ++ [x]) v' w4 := by
  have h0 := hb.size
  have hbz : Below w.heap.size w (wc.alloc o) := hb.alloc h0 o
  have K0 : Kept [] wc (wc.alloc o) := Kept.of_below [] ((Below.refl _ _).alloc (Nat.le_refl _) o)
  have K1 : Kept [39] (wc.alloc o) w4 := Kept.of_own [39] (ho.alloc o) hg rfl
  exact ⟨below_own hbz (ho.alloc o) hg (Nat.le_refl _) (by simp; omega), (hx.alloc o).grown hg (Ne.symm (own_blk_ne (ho.alloc o) (hx.alloc o) (by decide))), RowOwn.push (f := wdV) hw hown (fun v x h => NWp.keep (NWp.keep h K0 rfl) K1 rfl) (NWp.keep (NWp.keep hu K0 rfl) K1 rfl)⟩
theorem roww_one {p : TypeId} {w : World} {l : List Wd} {vs : List Value} (h : RowW (NWp p) w l vs) : ∀ u ∈ vs, u.oneCell' = true := by
  intro u hu
  obtain ⟨i, hi, rfl⟩ := List.getElem_of_mem hu
  have hl : i < l.length := by rw [← h.1]; exact hi
  obtain ⟨A, c, hv, _⟩ := Rd.form (h.2 i _ _ (List.getElem?_eq_getElem hl) (List.getElem?_eq_getElem hi))
  rw [hv]; rfl
set_option maxRecDepth 100000 in
set_option maxHeartbeats 8000000 in
theorem rstage_any (w : World) (va vb vi vo : Value) (c : Sm) (h : NSp 51 39 112 w ⟨va, vb, vi, vo⟩ c) (hlim : SmBig c) :
    Calls Try.prog 68 #[.agg #[va, vb, vi, vo, .bool c.app]] w fun e w' => e = .returned (.int .i64 (schk c)) ∧ Below w.heap.size w w' := by
  obtain ⟨hA, hW, hI, hO⟩ := h
  obtain ⟨l1, l2, l3, l4, l5, l6⟩ := hlim
  have HLA := Lib.hid (allW_lim l4 l5 l6)
  obtain ⟨Aa, ca, hva, xa, hA2⟩ := hA.all asgV_len
  obtain ⟨Ab, cb, hvb, _⟩ := hW.form
  obtain ⟨Ai, ci, hvi, _⟩ := Rd.form hI
  obtain ⟨Ao, co, hvo, _⟩ := Rd.form hO
  simp only at hva hvb hvi hvo hI hO hW
  subst hva hvb hvi hvo
  have HA := Lib.hid hA2
  have HW := Lib.hid hW
  have HI := Lib.hid hI
  have HO := Lib.hid hO
  have HL3 := Lib.hid l3
  clear hA hW hI hO l3 l4 hA2 l5 l6
  go_enter Try.func68, Try.ntmps68
  have HX0 := Lib.hid (Blk.new w 109 #[.slice Aa c.asg.length ca, .slice Ab c.words.length cb, .slice Ai c.inn.length ci, .slice Ao c.out.length co, .bool c.app])
  have HB0 := Lib.hid ((Below.refl w.heap.size w).alloc (Nat.le_refl _) (.cells #[.slice Aa c.asg.length ca, .slice Ab c.words.length cb, .slice Ai c.inn.length ci, .slice Ao c.out.length co, .bool c.app] 109))
  go_upto_region 1 with (fail)
  generalize (w.alloc (.cells #[.slice Aa c.asg.length ca, .slice Ab c.words.length cb, .slice Ai c.inn.length ci, .slice Ao c.out.length co, .bool c.app] 109)) = wa at *
  have x0 := HX0.out.cell 0
  have x1 := HX0.out.cell 1
  have x2 := HX0.out.cell 2
  have x3 := HX0.out.cell 3
  have x4 := HX0.out.cell 4
  simp only [List.getElem?_toArray, List.getElem?_cons_zero, List.getElem?_cons_succ] at x0 x1 x2 x3 x4
  have hxl := HX0.out.lt
  by_cases hnone : smNone c = true
  · have hh : c.asg.length = 0 ∧ c.words.length = 0 := by
      unfold smNone at hnone
      cases h1 : c.asg <;> cases h2 : c.words <;> simp_all
    have m1 : (((c.asg.length : Int) + (c.words.length : Int)) == 0) = true := beq_iff_eq.2 (by omega)
    have HS := Lib.hid (schk_1 hnone)
    have HH := Lib.hid hh
    clear hnone hh
    go_wp2
    go_ret
    exact ⟨ret_int HS.out.symm, HB0.out⟩
  have HN := Lib.hid hnone
  have hn : c.asg.length ≠ 0 ∨ c.words.length ≠ 0 := by
    unfold smNone at hnone
    cases h1 : c.asg <;> cases h2 : c.words <;> simp_all
  have m1 : (((c.asg.length : Int) + (c.words.length : Int)) == 0) = false := beq_false_of_ne (by omega)
  clear hnone hn
  by_cases h32 : 32 < c.asg.length ∨ 32 < c.words.length
  · have HS := Lib.hid (schk_2 HN.out h32)
    rcases Nat.lt_or_ge 32 c.asg.length with h1 | h1
    · have m2 : decide ((32 : Int) < (c.asg.length : Int)) = true := by simp; omega
      clear h32
      go_wp2
      go_ret
      exact ⟨ret_int HS.out.symm, HB0.out⟩
    · have h2 : 32 < c.words.length := by omega
      have m2 : decide ((32 : Int) < (c.asg.length : Int)) = false := by simp; omega
      have m4 : decide ((32 : Int) < (c.words.length : Int)) = true := by simp; omega
      clear h32
      go_wp2
      go_ret
      exact ⟨ret_int HS.out.symm, HB0.out⟩
  have H32 := Lib.hid h32
  have k1 : ¬ 32 < c.asg.length := fun h => h32 (.inl h)
  have k2 : ¬ 32 < c.words.length := fun h => h32 (.inr h)
  have k3 : decide ((32 : Int) < (c.asg.length : Int)) = false := by simp; omega
  have k4 : decide ((32 : Int) < (c.words.length : Int)) = false := by simp; omega
  clear h32
  go_wp2
  clear m1 k3 k4
  go_loopg [3] (c.asg.length + 1) (fun gk v wr => RaRel wa c gk v wr)
  case atStart => exact ⟨0, rfl, Nat.zero_le _, by omega, rfl, rfl⟩
  case round =>
    obtain ⟨k, rfl, hk, hgk, rfl, hr⟩ := hrel
    have HR := Lib.hid hr
    clear hr
    by_cases hlt : k < c.asg.length
    · obtain ⟨b, o, u, rfl, hb0, hN, hx⟩ := HA.out k hlt
      have hlv := HL3.out c.asg[k] (List.getElem_mem hlt)
      have HD := Lib.hid (HR.out.trans (frst_drop achk c.asg k hlt))
      obtain ⟨a, ha⟩ : ∃ a, c.asg[k] = a := ⟨_, rfl⟩
      rw [ha] at hN hx hlv HD
      clear ha HR
      obtain ⟨Au, cu, rfl, _⟩ := Rd.form (show NWp 51 w u a.value from hN)
      have p0 := hx 0 _ rfl
      have p1 := hx 1 _ rfl
      have e0 : wa.cell? ⟨b, o + k * 2, none⟩ = some (.string (bs a.name)) := ((bcell HB0.out).1 b (o + k * 2) hb0).trans (by simpa using p0)
      have e1 : wa.cell? ⟨b, o + k * 2 + 1, none⟩ = some (.slice Au a.value.length cu) := ((bcell HB0.out).1 b (o + k * 2 + 1) hb0).trans (by rw [Nat.add_assoc]; exact p1)
      have i1 : (0 : Int) ≤ (k : Int) := by omega
      have i2 : (k : Int) < (c.asg.length : Int) := by omega
      have hz : (bs a.name).size ≤ 100000 := by rw [bs_size]; exact hlv.1
      have HLV := Lib.hid hlv.2
      have HNV := Lib.hid (show NWp 51 wa _ a.value from NWp.next hN HB0.out)
      clear hx p0 p1 hlv hN
      cases hn : isVarS a.name with
      | false =>
        have HN2 := Lib.hid hn
        have h12 : achk a = 12 := by unfold achk; rw [hn]; rfl
        have HS := Lib.hid (schk_3 (e := 12) HN.out H32.out (by rw [HD.out, h12]; rfl) (by decide))
        clear h12 hn
        go_wp2_with (go_at_call 19; refine (rIsVar_is a.name _ false HN2.out hz).mono ?_; rintro e w' ⟨rfl, rfl⟩)
        go_ret
        exact ⟨ret_int HS.out.symm, HB0.out⟩
      | true =>
        have HN2 := Lib.hid hn
        have HD2 := Lib.hid (show frst (c.asg.map achk) = if wchk a.value = 0 then frst ((c.asg.drop (k + 1)).map achk) else wchk a.value by rw [HD.out]; unfold achk; rw [hn, if_pos rfl])
        clear hn HD
        obtain ⟨ev, hev⟩ : ∃ ev, wchk a.value = ev := ⟨_, rfl⟩
        have HEV := Lib.hid hev
        rw [hev] at HD2
        clear hev
        by_cases hz0 : ev = 0
        · subst hz0
          rw [if_pos rfl] at HD2
          go_wp2_with (first | (go_at_call 19; refine (rIsVar_is a.name _ true HN2.out hz).mono ?_; rintro e w' ⟨rfl, rfl⟩) | (go_at_call 93; refine (rword_is _ _ a.value 0 HNV.out HLV.out HEV.out).mono ?_; rintro e w5 ⟨rfl, rfl⟩))
          go_roundg (gk - 1)
          case rel => exact ⟨k + 1, by go_num, by omega, by omega, rfl, HD2.out⟩
          case measure => omega
        · rw [if_neg hz0] at HD2
          have HS := Lib.hid (schk_3 HN.out H32.out HD2.out hz0)
          have n1 : (ev == 0) = false := beq_false_of_ne hz0
          have n2 : (ev != 0) = true := by simpa using hz0
          clear hz0
          go_wp2_with (first | (go_at_call 19; refine (rIsVar_is a.name _ true HN2.out hz).mono ?_; rintro e w' ⟨rfl, rfl⟩) | (go_at_call 93; refine (rword_is _ _ a.value ev HNV.out HLV.out HEV.out).mono ?_; rintro e w5 ⟨rfl, rfl⟩))
          go_ret
          exact ⟨ret_int HS.out.symm, HB0.out⟩
    · obtain rfl : k = c.asg.length := by omega
      have HZA := Lib.hid (show frst (c.asg.map achk) = 0 by rw [HR.out, List.drop_length]; rfl)
      obtain ⟨j0, hj, hj0, hj1, hj2⟩ := info_parts info39
      have hs0 := HB0.out.size
      have HE := Lib.hid (own_empty wa w.heap.size 39 1 hs0)
      have HE2 := Lib.hid (RowRd.next HW.out (HB0.out.alloc hs0 (.cells #[] 39)) (fun _ _ h => NWp.next h (HB0.out.alloc hs0 (.cells #[] 39))))
      have HBE := Lib.hid (HB0.out.alloc hs0 (.cells #[] 39))
      have HXE := Lib.hid (HX0.out.alloc (.cells #[] 39))
      obtain ⟨vs, hvs1, hvs2⟩ := HE2.out
      have HV1 := Lib.hid hvs1
      have HV2 := Lib.hid hvs2
      have hvl : vs.length = c.words.length := hvs1.1
      have HVL := Lib.hid hvl
      have HRC := Lib.hid (rowC_wd c.words vs hvl)
      clear HR hk hgk hvs1 hvs2 HA HL3 hlt
      go_upto_region 13 with (fail)
      go_cut [5] (fun s5 wx => RbS w #[.slice Aa c.asg.length ca, .slice Ab c.words.length cb, .slice Ai c.inn.length ci, .slice Ao c.out.length co, .bool c.app] c.words s5 wx)
      case first =>
        go_wp2_with (at_builtin; refine wpList_append_rd _ rfl _ _ _ rfl w.heap.size 39 j0 _ 1 24 Try.underlying107 hj hj0 hj1 hj2 rfl (by omega) _ 0 [] (by rfl) HE.out _ c.words.length (rowC wdV c.words vs) (by rfl) HV2.out (by rw [HRC.out, HVL.out, Nat.mul_one]) (by rw [HRC.out]; exact roww_one HV1.out) (by unfold maxLen; omega) (by omega) (by simp; omega) ?_; intro ao cap w3 hown3 hgrow3)
        simp only [Nat.zero_add, List.nil_append] at hown3
        go_meet
        case rel =>
          have K1 : Kept [39] (wa.alloc (.cells #[] 39)) w3 := Kept.of_own [39] HE.out hgrow3 rfl
          exact ⟨below_own HBE.out HE.out hgrow3 (Nat.le_refl _) (by simp; omega), HXE.out.grown hgrow3 (Ne.symm (own_blk_ne HE.out HXE.out (by decide))), vs, HV1.out.imp (fun _ _ h => NWp.keep h K1 rfl), hown3⟩
      case rest =>
        clear HE HE2 HBE HXE HV1 HV2 HVL HRC hvl x0 x1 x2 x3 x4 hxl HX0 HB0 hs0
        clear vs
        obtain ⟨hb, hX, vs, hw, ho⟩ := hcut
        obtain ⟨G, gc, rfl, _⟩ := own_len ho
        have HC := Lib.hid (show RbS w #[.slice Aa c.asg.length ca, .slice Ab c.words.length cb, .slice Ai c.inn.length ci, .slice Ao c.out.length co, .bool c.app] (c.words) (.slice G (c.words).length gc) wc from ⟨hb, hX, vs, hw, ho⟩)
        have HBC := Lib.hid hb
        have HXC := Lib.hid hX
        have HRW := Lib.hid hw
        have HOW := Lib.hid ho
        have hsz := hb.size
        have hln : (c.words).length ≤ 100000 + 0 := by omega
        have x2 : wc.cell? ⟨w.heap.size, 2, none⟩ = some (.slice Ai c.inn.length ci) := HXC.out.cell 2
        have x3 : wc.cell? ⟨w.heap.size, 3, none⟩ = some (.slice Ao c.out.length co) := HXC.out.cell 3
        have x4 : wc.cell? ⟨w.heap.size, 4, none⟩ = some (.bool c.app) := HXC.out.cell 4
        have hxl := HXC.out.lt
        clear hb hX hw ho
        go_upto_if 58 with (fail)
        go_cut [5] (fun s5 wx => RbS w #[.slice Aa c.asg.length ca, .slice Ab c.words.length cb, .slice Ai c.inn.length ci, .slice Ao c.out.length co, .bool c.app] (c.words ++ insW c.inn) s5 wx)
        case first =>
          rcases Nat.eq_zero_or_pos c.inn.length with h1 | h1
          · have HI0 := Lib.hid (insW_nil h1)
            have d1 : decide ((0 : Int) < (c.inn.length : Int)) = false := decide_eq_false (by omega)
            have d2 : ¬ 0 < c.inn.length := by omega
            clear h1
            go_wp2_with fail
            go_meet
            case rel => rw [HI0.out, List.append_nil]; exact HC.out
          · have HI0 := Lib.hid (insW_one h1)
            have d1 : decide ((0 : Int) < (c.inn.length : Int)) = true := decide_eq_true (by omega)
            go_wp2_with (at_builtin; refine wpList_append_lies _ rfl _ _ _ rfl w.heap.size 39 j0 _ 1 24 Try.underlying107 hj hj0 hj1 hj2 rfl (by omega) (.slice G (c.words).length gc) (c.words).length (rowC wdV (c.words) vs) rfl (HOW.out.alloc _) ⟨wc.heap.size, 0, none⟩ 1 1 [.slice Ai c.inn.length ci] rfl rfl (World.news_of_block (cs := #[.slice Ai c.inn.length ci]) (t := 39) (fr := (0, 0)) (heap_alloc_new wc _)) (by simp [Value.oneCell']) (by omega) (by unfold maxLen; omega) (by omega) (by simp; omega) (wc.heap.size + 1) (by simp) ?_; intro gz cap w4 hown4 hgrow4 hat4 hlt4)
            go_meet
            case rel => rw [HI0.out]; exact RbS.push HBC.out HXC.out HRW.out HOW.out _ hgrow4 hown4 (NWp.next HI.out HBC.out)
        clear HC HBC HXC HRW HOW hsz x2 x3 x4 hxl hln
        clear vs
        obtain ⟨hb, hX, vs, hw, ho⟩ := hcut
        obtain ⟨G, gc, rfl, _⟩ := own_len ho
        have HC := Lib.hid (show RbS w #[.slice Aa c.asg.length ca, .slice Ab c.words.length cb, .slice Ai c.inn.length ci, .slice Ao c.out.length co, .bool c.app] (c.words ++ insW c.inn) (.slice G (c.words ++ insW c.inn).length gc) wc from ⟨hb, hX, vs, hw, ho⟩)
        have HBC := Lib.hid hb
        have HXC := Lib.hid hX
        have HRW := Lib.hid hw
        have HOW := Lib.hid ho
        have hsz := hb.size
        have hln : (c.words ++ insW c.inn).length ≤ 100000 + 1 := by (have h9 : (insW c.inn).length ≤ 1 := (by unfold insW; split <;> simp)); rw [List.length_append]; omega
        have x2 : wc.cell? ⟨w.heap.size, 2, none⟩ = some (.slice Ai c.inn.length ci) := HXC.out.cell 2
        have x3 : wc.cell? ⟨w.heap.size, 3, none⟩ = some (.slice Ao c.out.length co) := HXC.out.cell 3
        have x4 : wc.cell? ⟨w.heap.size, 4, none⟩ = some (.bool c.app) := HXC.out.cell 4
        have hxl := HXC.out.lt
        clear hb hX hw ho
        go_upto_if 67 with (fail)
        go_cut [5] (fun s5 wx => RbS w #[.slice Aa c.asg.length ca, .slice Ab c.words.length cb, .slice Ai c.inn.length ci, .slice Ao c.out.length co, .bool c.app] (c.words ++ insW c.inn ++ insW c.out) s5 wx)
        case first =>
          rcases Nat.eq_zero_or_pos c.out.length with h1 | h1
          · have HI0 := Lib.hid (insW_nil h1)
            have d1 : decide ((0 : Int) < (c.out.length : Int)) = false := decide_eq_false (by omega)
            have d2 : ¬ 0 < c.out.length := by omega
            clear h1
            go_wp2_with fail
            go_meet
            case rel => rw [HI0.out, List.append_nil]; exact HC.out
          · have HI0 := Lib.hid (insW_one h1)
            have d1 : decide ((0 : Int) < (c.out.length : Int)) = true := decide_eq_true (by omega)
            go_wp2_with (at_builtin; refine wpList_append_lies _ rfl _ _ _ rfl w.heap.size 39 j0 _ 1 24 Try.underlying107 hj hj0 hj1 hj2 rfl (by omega) (.slice G (c.words ++ insW c.inn).length gc) (c.words ++ insW c.inn).length (rowC wdV (c.words ++ insW c.inn) vs) rfl (HOW.out.alloc _) ⟨wc.heap.size, 0, none⟩ 1 1 [.slice Ao c.out.length co] rfl rfl (World.news_of_block (cs := #[.slice Ao c.out.length co]) (t := 39) (fr := (0, 0)) (heap_alloc_new wc _)) (by simp [Value.oneCell']) (by omega) (by unfold maxLen; omega) (by omega) (by simp; omega) (wc.heap.size + 1) (by simp) ?_; intro gz cap w4 hown4 hgrow4 hat4 hlt4)
            go_meet
            case rel =>
              have HPU := RbS.push HBC.out HXC.out HRW.out HOW.out _ hgrow4 hown4 (NWp.next HO.out HBC.out)
              rw [List.length_append] at HPU
              rw [HI0.out]
              exact HPU
        clear HC HBC HXC HRW HOW hsz x2 x3 x4 hxl hln
        clear vs
        obtain ⟨hb, hX, hrow⟩ := hcut
        have hRD := hrow.rd
        have HRDL : (allW c).length ≤ 100002 := by
          unfold allW insW
          simp only [List.length_append]
          split <;> split <;> simp <;> omega
        obtain ⟨G, gc, rfl, hgc, hcell⟩ := RowRd.all (show RowRd 39 wdV (NWp 51) wc u5 (allW c) from hRD) wdV_len
        have HCE := Lib.hid hcell
        have HBC := Lib.hid hb
        have x3 : wc.cell? ⟨w.heap.size, 3, none⟩ = some (.slice Ao c.out.length co) := hX.cell 3
        have x4 : wc.cell? ⟨w.heap.size, 4, none⟩ = some (.bool c.app) := hX.cell 4
        have hxl := hX.lt
        clear hb hX hrow hRD hcell
        go_wp2
        go_loopg [6] ((allW c).length + 1) (fun gk v wr => RlRel wc (allW c) gk v wr)
        case atStart => exact ⟨0, rfl, Nat.zero_le _, by omega, rfl, rfl⟩
        case round =>
          obtain ⟨k, rfl, hk, hgk, rfl, hr⟩ := hrel
          have HR := Lib.hid hr
          clear hr
          by_cases hlt : k < (allW c).length
          · obtain ⟨b, o, u, rfl, hb0, hN, hx⟩ := HCE.out k hlt
            have hlv := HLA.out (allW c)[k] (List.getElem_mem hlt)
            have HD := Lib.hid (HR.out.trans (frst_drop wchk (allW c) k hlt))
            obtain ⟨a, ha⟩ : ∃ a, (allW c)[k] = a := ⟨_, rfl⟩
            rw [ha] at hN hx hlv HD
            clear ha HR
            obtain ⟨Au, cu, rfl, _⟩ := Rd.form (show NWp 51 wc u a from hN)
            have e0 := hx 0 _ rfl
            rw [Nat.mul_one, Nat.add_zero] at e0
            have i1 : (0 : Int) ≤ (k : Int) := by omega
            have i2 : (k : Int) < ((allW c).length : Int) := by omega
            have HLV := Lib.hid hlv
            have HNV := Lib.hid hN
            clear hx hlv hN
            obtain ⟨ev, hev⟩ : ∃ ev, wchk a = ev := ⟨_, rfl⟩
            have HEV := Lib.hid hev
            rw [hev] at HD
            clear hev
            by_cases hz0 : ev = 0
            · subst hz0
              rw [if_pos rfl] at HD
              go_wp2_with (go_at_call 93; refine (rword_is _ _ a 0 HNV.out HLV.out HEV.out).mono ?_; rintro e w5 ⟨rfl, rfl⟩)
              go_roundg (gk - 1)
              case rel => exact ⟨k + 1, by go_num, by omega, by omega, rfl, HD.out⟩
              case measure => omega
            · rw [if_neg hz0] at HD
              have HS := Lib.hid (schk_alle HN.out H32.out HZA.out HD.out hz0)
              have n1 : (ev == 0) = false := beq_false_of_ne hz0
              have n2 : (ev != 0) = true := by simpa using hz0
              clear hz0
              go_wp2_with (go_at_call 93; refine (rword_is _ _ a ev HNV.out HLV.out HEV.out).mono ?_; rintro e w5 ⟨rfl, rfl⟩)
              go_ret
              exact ⟨ret_int HS.out.symm, HBC.out⟩
          · obtain rfl : k = (allW c).length := by omega
            have HS := Lib.hid (schk_all0 HN.out H32.out HZA.out (by rw [HR.out, List.drop_length]; rfl))
            cases hap : c.app with
            | false =>
              rw [hap] at x4 HS
              clear hap
              go_wp2
              go_ret
              exact ⟨ret_int (by rw [HS.out]; rfl), HBC.out⟩
            | true =>
              rw [hap] at x4 HS
              clear hap
              rcases Nat.eq_zero_or_pos c.out.length with h0 | h0
              · have n0 : ((c.out.length : Int) == 0) = true := beq_iff_eq.2 (by omega)
                have HZ := Lib.hid (show schk c = 10 by rw [HS.out, show c.out.isEmpty = true by (obtain h := List.length_eq_zero_iff.1 h0; rw [h]; rfl)]; rfl)
                have H0 := Lib.hid h0
                clear h0
                go_wp2
                go_ret
                exact ⟨ret_int HZ.out.symm, HBC.out⟩
              · have n0 : ((c.out.length : Int) == 0) = false := beq_false_of_ne (by omega)
                have HZ := Lib.hid (show schk c = 0 by rw [HS.out, show c.out.isEmpty = false by (cases h : c.out with | nil => rw [h] at h0; simp at h0 | cons a l => rfl)]; rfl)
                go_wp2
                go_ret
                exact ⟨ret_int HZ.out.symm, HBC.out⟩
end Go.Proofs.Ytiddchpkmcncdaa
/- Walks of layer 41: Check of the reference. -/
namespace Go.Proofs.Ytiddchpkmcncdaa
open Go.RowKit
set_option linter.unusedSimpArgs false
set_option linter.unusedVariables false
theorem rstage_is (w : World) (va vb vi vo : Value) (c : Sm) (ap : Bool) (e0 : Int) (h : NSp 51 39 112 w ⟨va, vb, vi, vo⟩ c) (hl : SmBig c) (ha : c.app = ap) (he : schk c = e0) :
    Calls Try.prog 68 #[.agg #[va, vb, vi, vo, .bool ap]] w fun e w' => e = .returned (.int .i64 e0) ∧ Below w.heap.size w w' := by
  subst he ha; exact rstage_any w va vb vi vo c h hl
def RkP (w : World) (cs : Array Value) (l : Ln) (gk : Nat) (v : Value) (wr : World) : Prop :=
  ∃ k, v = .int .i64 ((k : Nat) : Int) ∧ k ≤ l.parts.length ∧ gk + k = l.parts.length + 1 ∧ Below w.heap.size w wr ∧ Blk wr w.heap.size 30 cs ∧ pchks true l.parts = pchks (decide (k = 0)) (l.parts.drop k)
def RkS (w : World) (cs : Array Value) (tb : Nat) (qs : Array Value) (q : Pl) (gk : Nat) (v : Value) (wr : World) : Prop :=
  ∃ k, v = .int .i64 ((k : Nat) : Int) ∧ k ≤ q.stages.length ∧ gk + k = q.stages.length + 1 ∧ Below w.heap.size w wr ∧ Blk wr w.heap.size 30 cs ∧ Blk wr tb 101 qs ∧ frst (q.stages.map schk) = frst ((q.stages.drop k).map schk)
set_option maxRecDepth 100000 in
set_option maxHeartbeats 8000000 in
theorem rCheck_any (w : World) (v : Value) (l : Ln) (h : RowRd 101 plV (NPp 51 39 112 109) w v l.parts) (hlim : LnBig l) :
    Calls Try.prog 38 #[.agg #[v, .bool l.bg]] w fun e w' => e = .returned (.int .i64 (lchk l)) ∧ Below w.heap.size w w' := by
  obtain ⟨A, c, rfl, xa, hA2⟩ := h.all plV_len
  have HA := Lib.hid hA2
  obtain ⟨l1, l2⟩ := hlim
  have HL2 := Lib.hid l2
  clear h hA2 l2
  by_cases h16 : 16 < l.parts.length
  · have HS := Lib.hid (lchk_2 h16)
    have m1 : ((l.parts.length : Int) == 0) = false := beq_false_of_ne (by omega)
    have m2 : decide ((16 : Int) < (l.parts.length : Int)) = true := by simp; omega
    cases hbg : l.bg with
    | true =>
      clear hbg
      go_enter Try.func38, Try.ntmps38
      go_wp2
      go_ret
      exact ⟨ret_int HS.out.symm, (Below.refl _ _).alloc (Nat.le_refl _) _⟩
    | false =>
      clear hbg
      go_enter Try.func38, Try.ntmps38
      go_wp2
      go_ret
      exact ⟨ret_int HS.out.symm, (Below.refl _ _).alloc (Nat.le_refl _) _⟩
  have m2 : decide ((16 : Int) < (l.parts.length : Int)) = false := by simp; omega
  by_cases hnb : l.bg = true ∧ l.parts.length = 0
  · have HS := Lib.hid (lchk_1 hnb.1 hnb.2)
    have m1 : ((l.parts.length : Int) == 0) = true := beq_iff_eq.2 (by omega)
    obtain ⟨hbg, h0⟩ := hnb
    rw [hbg]
    have H0 := Lib.hid h0
    clear hbg h0
    go_enter Try.func38, Try.ntmps38
    go_wp2
    go_ret
    exact ⟨ret_int HS.out.symm, (Below.refl _ _).alloc (Nat.le_refl _) _⟩
  have HS := Lib.hid (lchk_3 hnb h16)
  have hcs : l.bg = false ∨ (l.bg = true ∧ ((l.parts.length : Int) == 0) = false) := by
    cases hbg : l.bg with
    | false => exact .inl rfl
    | true => exact .inr ⟨rfl, beq_false_of_ne (by intro h; exact hnb ⟨hbg, by omega⟩)⟩
  clear hnb
  have H16 := Lib.hid h16
  clear h16
  rcases hcs with hbg | ⟨hbg, m1⟩
  · skip
    rw [hbg]
    have hbg0 := Lib.hid hbg
    clear hbg
    have HX0 := Lib.hid (Blk.new w 30 #[.slice A l.parts.length c, .bool l.bg])
    rw [hbg0.out] at HX0
    go_enter Try.func38, Try.ntmps38
    go_wp2
    clear m2
    go_loopg [3] (l.parts.length + 1) (fun gk v wr => RkP w #[.slice A l.parts.length c, .bool false] l gk v wr)
    case atStart => exact ⟨0, rfl, Nat.zero_le _, by omega, (Below.refl _ _).alloc (Nat.le_refl _) _, HX0.out, rfl⟩
    case round =>
      obtain ⟨k, rfl, hk, hgk, hb, hX, hr⟩ := hrel
      have HB := Lib.hid hb
      have HX := Lib.hid hX
      have x0 : wr.cell? ⟨w.heap.size, 0, none⟩ = some (.slice A l.parts.length c) := HX.out.cell 0
      have hxl := HX.out.lt
      clear hX
      have HR := Lib.hid (HS.out.trans hr)
      clear hr
      by_cases hlt : k < l.parts.length
      · obtain ⟨b, o, u, rfl, hb0, hN, hx⟩ := HA.out k hlt
        have hlv := HL2.out l.parts[k] (List.getElem_mem hlt)
        have HD := Lib.hid (HR.out.trans (pchks_drop (decide (k = 0)) l.parts k hlt))
        obtain ⟨q, hq⟩ : ∃ q, l.parts[k] = q := ⟨_, rfl⟩
        rw [hq] at hN hx hlv HD
        clear hq HR
        obtain ⟨Au, cu, rfl, _⟩ := RowRd.form hN
        have p0 := hx 0 _ rfl
        have p1 := hx 1 _ rfl
        have hbr : b < wr.heap.size := Nat.lt_of_lt_of_le hb0 hb.size
        have e0 : wr.cell? ⟨b, o + k * 2, none⟩ = some (.int .i64 q.wh) := ((bcell hb).1 b (o + k * 2) hb0).trans (by simpa using p0)
        have e1 : wr.cell? ⟨b, o + k * 2 + 1, none⟩ = some (.slice Au q.stages.length cu) := ((bcell hb).1 b (o + k * 2 + 1) hb0).trans (by rw [Nat.add_assoc]; exact p1)
        have i1 : (0 : Int) ≤ (k : Int) := by omega
        have i2 : (k : Int) < (l.parts.length : Int) := by omega
        have HNV := Lib.hid hN
        have HLV := Lib.hid hlv
        have HB2 := Lib.hid (hb.alloc hb.size (.cells #[.int .i64 q.wh, .slice Au q.stages.length cu] 101))
        have HX2 := Lib.hid (HX.out.alloc (.cells #[.int .i64 q.wh, .slice Au q.stages.length cu] 101))
        have HT := Lib.hid (Blk.new wr 101 #[.int .i64 q.wh, .slice Au q.stages.length cu])
        go_upto_region 9 with (fail)
        clear hx p0 p1 hb hlv hN e0 e1 hbr i1 i2 HB x0 hxl HX
        generalize (wr.alloc (.cells #[.int .i64 q.wh, .slice Au q.stages.length cu] 101)) = wb at *
        generalize wr.heap.size = tb at *
        have t0 := HT.out.cell 0
        have t1 := HT.out.cell 1
        simp only [List.getElem?_toArray, List.getElem?_cons_zero, List.getElem?_cons_succ] at t0 t1
        by_cases hbad : q.wh < 0 ∨ 2 < q.wh ∨ (decide (k = 0) = true ∧ q.wh ≠ 0)
        · have h2 := pchk_1 (f := decide (k = 0)) hbad
          have HZ := Lib.hid (show lchk l = 2 by rw [HD.out, h2]; rfl)
          clear h2
          by_cases c1 : q.wh < 0
          · have d1 : decide (q.wh < 0) = true := by simpa using c1
            clear hbad c1
            go_wp2
            go_ret
            exact ⟨ret_int HZ.out.symm, HB2.out⟩
          · have d1 : decide (q.wh < 0) = false := by simpa using c1
            by_cases c2 : 2 < q.wh
            · have d2 : decide (2 < q.wh) = true := by simpa using c2
              clear hbad c1 c2
              go_wp2
              go_ret
              exact ⟨ret_int HZ.out.symm, HB2.out⟩
            · have d2 : decide (2 < q.wh) = false := by simpa using c2
              have h3 : k = 0 ∧ q.wh ≠ 0 := by
                rcases hbad with h | h | ⟨h, h'⟩
                · exact absurd h c1
                · exact absurd h c2
                · exact ⟨by simpa using h, h'⟩
              have d3 : ((k : Int) == 0) = true := beq_iff_eq.2 (by omega)
              have d4 : (q.wh == 0) = false := beq_false_of_ne h3.2
              have d5 : (q.wh != 0) = true := by simpa using h3.2
              have H3 := Lib.hid h3
              clear hbad c1 c2 h3
              go_wp2
              go_ret
              exact ⟨ret_int HZ.out.symm, HB2.out⟩
        · have d1 : decide (q.wh < 0) = false := by simp; omega
          have d2 : decide (2 < q.wh) = false := by simp; omega
          have hcs : ((k : Int) == 0) = false ∨ (((k : Int) == 0) = true ∧ (q.wh == 0) = true ∧ (q.wh != 0) = false) := by
            rcases Nat.eq_zero_or_pos k with h0 | h0
            · have : q.wh = 0 := by
                by_cases h : q.wh = 0
                · exact h
                · exact absurd (.inr (.inr ⟨by simp [h0], h⟩)) hbad
              exact .inr ⟨beq_iff_eq.2 (by omega), by simp [this], by simp [this]⟩
            · exact .inl (beq_false_of_ne (by omega))
          have HBAD := Lib.hid hbad
          clear hbad
          rcases hcs with n1 | ⟨n1, n2, n3⟩
          all_goals
            rcases Nat.eq_zero_or_pos q.stages.length with h0 | h0
            · have h2 := pchk_2 HBAD.out h0
              have HZ := Lib.hid (show lchk l = 1 by rw [HD.out, h2]; rfl)
              have m0 : ((q.stages.length : Int) == 0) = true := beq_iff_eq.2 (by omega)
              have H0 := Lib.hid h0
              clear h2 h0
              go_wp2
              go_ret
              exact ⟨ret_int HZ.out.symm, HB2.out⟩
            have m0 : ((q.stages.length : Int) == 0) = false := beq_false_of_ne (by omega)
            by_cases h8 : 8 < q.stages.length
            · have h2 := pchk_3 HBAD.out (by omega) h8
              have HZ := Lib.hid (show lchk l = 9 by rw [HD.out, h2]; rfl)
              have m1 : decide ((8 : Int) < (q.stages.length : Int)) = true := by simp; omega
              clear h2
              go_wp2
              go_ret
              exact ⟨ret_int HZ.out.symm, HB2.out⟩
            have m1 : decide ((8 : Int) < (q.stages.length : Int)) = false := by simp; omega
            have h2 := pchk_4 HBAD.out (by omega) h8
            have HD2 := Lib.hid (show lchk l = if frst (q.stages.map schk) = 0 then pchks false (l.parts.drop (k + 1)) else frst (q.stages.map schk) by rw [HD.out, h2])
            obtain ⟨Aq, cq, hAq, xq, hS2⟩ := RowRd.all (show RowRd 109 smV (NSp 51 39 112) w _ q.stages from HNV.out) smV_len
            injection hAq with hA1 _ hA3
            subst hA1 hA3
            have HSS := Lib.hid hS2
            have HSB := Lib.hid HLV.out.2
            clear h2 HD hS2 HNV h8
            go_wp2
            clear m0 m1 n1 d1 d2 t0 t1
            try clear htl
            try clear n2 n3
            obtain ⟨gk0, rfl⟩ : ∃ gk0 : Nat, gk0 = gk := ⟨_, rfl⟩
            go_loopg [5] (q.stages.length + 1) (fun gi v wr => RkS w #[.slice (some ⟨b, o, none⟩) l.parts.length c, .bool false] tb #[.int .i64 q.wh, .slice Au q.stages.length cu] q gi v wr)
            case atStart => exact ⟨0, rfl, Nat.zero_le _, by omega, HB2.out, HX2.out, HT.out, rfl⟩
            case round =>
              obtain ⟨j, rfl, hj, hgi, hb, hX, hT, hr⟩ := hrel
              have HB3 := Lib.hid hb
              have HX3 := Lib.hid hX
              have HT3 := Lib.hid hT
              have t1 : wr.cell? ⟨tb, 1, none⟩ = some (.slice Au q.stages.length cu) := HT3.out.cell 1
              have htl := HT3.out.lt
              clear hX hT
              have HR3 := Lib.hid hr
              clear hr
              by_cases hjl : j < q.stages.length
              · obtain ⟨b, o, u4, rfl, hb0, hN, hx⟩ := HSS.out j hjl
                have hlv := HSB.out q.stages[j] (List.getElem_mem hjl)
                have HD3 := Lib.hid (HR3.out.trans (frst_drop schk q.stages j hjl))
                obtain ⟨c, hc⟩ : ∃ c, q.stages[j] = c := ⟨_, rfl⟩
                rw [hc] at hN hx hlv HD3
                clear hc HR3
                obtain ⟨sa, ca, sb, cb, si, ci, so, co, rfl⟩ := hN.forms
                have p0 := hx 0 _ rfl
                have p1 := hx 1 _ rfl
                have p2 := hx 2 _ rfl
                have p3 := hx 3 _ rfl
                have p4 := hx 4 _ rfl
                rw [← Nat.add_assoc] at p1 p2 p3 p4
                rw [Nat.add_zero] at p0
                have e0 := ((bcell hb).1 b _ hb0).trans p0
                have e1 := ((bcell hb).1 b _ hb0).trans p1
                have e2 := ((bcell hb).1 b _ hb0).trans p2
                have e3 := ((bcell hb).1 b _ hb0).trans p3
                have e4 := ((bcell hb).1 b _ hb0).trans p4
                have i1 : (0 : Int) ≤ (j : Int) := by omega
                have i2 : (j : Int) < (q.stages.length : Int) := by omega
                have HLC := Lib.hid hlv
                have hq1 : q.stages.length ≤ 100000 := HLV.out.1
                have HNC := Lib.hid (NSp.next hN hb)
                have HBX := Lib.hid ((Below.refl wr.heap.size wr).alloc (Nat.le_refl _) (.cells #[.slice sa c.asg.length ca, .slice sb c.words.length cb, .slice si c.inn.length ci, .slice so c.out.length co, .bool c.app] 109))
                have HB4 := Lib.hid (hb.alloc hb.size (.cells #[.slice sa c.asg.length ca, .slice sb c.words.length cb, .slice si c.inn.length ci, .slice so c.out.length co, .bool c.app] 109))
                clear hx p0 p1 p2 p3 p4 hb hlv hN
                obtain ⟨ev, hev⟩ : ∃ ev, schk c = ev := ⟨_, rfl⟩
                have HEV := Lib.hid hev
                rw [hev] at HD3
                clear hev
                by_cases hz0 : ev = 0
                · subst hz0
                  rw [if_pos rfl] at HD3
                  go_wp2_with (go_at_call 68; refine (rstage_is _ _ _ _ _ c c.app 0 HNC.out HLC.out rfl HEV.out).mono ?_; rintro e w5 ⟨rfl, hb5⟩; have HB5 := Lib.hid (HB3.out.trans (hb5.mono HB3.out.size)); have HX5 := Lib.hid (HX3.out.next hb5 HX3.out.lt); have HT5 := Lib.hid (HT3.out.next hb5 HT3.out.lt); clear hb5)
                  go_roundg (gk - 1)
                  case rel => exact ⟨j + 1, by go_num, by omega, by omega, HB5.out, HX5.out, HT5.out, HD3.out⟩
                  case measure => omega
                · rw [if_neg hz0] at HD3
                  have HZ := Lib.hid (show lchk l = ev by rw [HD2.out, HD3.out, if_neg hz0])
                  have n1 : (ev == 0) = false := beq_false_of_ne hz0
                  have n2 : (ev != 0) = true := by simpa using hz0
                  clear hz0
                  go_wp2_with (go_at_call 68; refine (rstage_is _ _ _ _ _ c c.app ev HNC.out HLC.out rfl HEV.out).mono ?_; rintro e w5 ⟨rfl, hb5⟩; have HB5 := Lib.hid (HB3.out.trans (hb5.mono HB3.out.size)); have HX5 := Lib.hid (HX3.out.next hb5 HX3.out.lt); have HT5 := Lib.hid (HT3.out.next hb5 HT3.out.lt); clear hb5)
                  go_ret
                  exact ⟨ret_int HZ.out.symm, HB5.out⟩
              · obtain rfl : j = q.stages.length := by omega
                have hq0 : frst (q.stages.map schk) = 0 := by rw [HR3.out, List.drop_length]; rfl
                have HZ := Lib.hid (show lchk l = pchks false (l.parts.drop (k + 1)) by rw [HD2.out, hq0]; rfl)
                clear hb hq0
                go_wp2
                go_roundg (gk0 - 1)
                case rel => exact ⟨k + 1, by go_num, by omega, by omega, HB3.out, HX3.out, by rw [← HS.out, HZ.out]; congr 1⟩
                case measure => omega
      · obtain rfl : k = l.parts.length := by omega
        have HZ := Lib.hid (show lchk l = 0 by rw [HR.out, List.drop_length]; rfl)
        clear hb
        go_wp2
        go_ret
        exact ⟨ret_int HZ.out.symm, HB.out⟩
  · skip
    rw [hbg]
    have hbg0 := Lib.hid hbg
    clear hbg
    have HX0 := Lib.hid (Blk.new w 30 #[.slice A l.parts.length c, .bool l.bg])
    rw [hbg0.out] at HX0
    go_enter Try.func38, Try.ntmps38
    go_wp2
    clear m1
    clear m2
    go_loopg [3] (l.parts.length + 1) (fun gk v wr => RkP w #[.slice A l.parts.length c, .bool true] l gk v wr)
    case atStart => exact ⟨0, rfl, Nat.zero_le _, by omega, (Below.refl _ _).alloc (Nat.le_refl _) _, HX0.out, rfl⟩
    case round =>
      obtain ⟨k, rfl, hk, hgk, hb, hX, hr⟩ := hrel
      have HB := Lib.hid hb
      have HX := Lib.hid hX
      have x0 : wr.cell? ⟨w.heap.size, 0, none⟩ = some (.slice A l.parts.length c) := HX.out.cell 0
      have hxl := HX.out.lt
      clear hX
      have HR := Lib.hid (HS.out.trans hr)
      clear hr
      by_cases hlt : k < l.parts.length
      · obtain ⟨b, o, u, rfl, hb0, hN, hx⟩ := HA.out k hlt
        have hlv := HL2.out l.parts[k] (List.getElem_mem hlt)
        have HD := Lib.hid (HR.out.trans (pchks_drop (decide (k = 0)) l.parts k hlt))
        obtain ⟨q, hq⟩ : ∃ q, l.parts[k] = q := ⟨_, rfl⟩
        rw [hq] at hN hx hlv HD
        clear hq HR
        obtain ⟨Au, cu, rfl, _⟩ := RowRd.form hN
        have p0 := hx 0 _ rfl
        have p1 := hx 1 _ rfl
        have hbr : b < wr.heap.size := Nat.lt_of_lt_of_le hb0 hb.size
        have e0 : wr.cell? ⟨b, o + k * 2, none⟩ = some (.int .i64 q.wh) := ((bcell hb).1 b (o + k * 2) hb0).trans (by simpa using p0)
        have e1 : wr.cell? ⟨b, o + k * 2 + 1, none⟩ = some (.slice Au q.stages.length cu) := ((bcell hb).1 b (o + k * 2 + 1) hb0).trans (by rw [Nat.add_assoc]; exact p1)
        have i1 : (0 : Int) ≤ (k : Int) := by omega
        have i2 : (k : Int) < (l.parts.length : Int) := by omega
        have HNV := Lib.hid hN
        have HLV := Lib.hid hlv
        have HB2 := Lib.hid (hb.alloc hb.size (.cells #[.int .i64 q.wh, .slice Au q.stages.length cu] 101))
        have HX2 := Lib.hid (HX.out.alloc (.cells #[.int .i64 q.wh, .slice Au q.stages.length cu] 101))
        have HT := Lib.hid (Blk.new wr 101 #[.int .i64 q.wh, .slice Au q.stages.length cu])
        go_upto_region 9 with (fail)
        clear hx p0 p1 hb hlv hN e0 e1 hbr i1 i2 HB x0 hxl HX
        generalize (wr.alloc (.cells #[.int .i64 q.wh, .slice Au q.stages.length cu] 101)) = wb at *
        generalize wr.heap.size = tb at *
        have t0 := HT.out.cell 0
        have t1 := HT.out.cell 1
        simp only [List.getElem?_toArray, List.getElem?_cons_zero, List.getElem?_cons_succ] at t0 t1
        by_cases hbad : q.wh < 0 ∨ 2 < q.wh ∨ (decide (k = 0) = true ∧ q.wh ≠ 0)
        · have h2 := pchk_1 (f := decide (k = 0)) hbad
          have HZ := Lib.hid (show lchk l = 2 by rw [HD.out, h2]; rfl)
          clear h2
          by_cases c1 : q.wh < 0
          · have d1 : decide (q.wh < 0) = true := by simpa using c1
            clear hbad c1
            go_wp2
            go_ret
            exact ⟨ret_int HZ.out.symm, HB2.out⟩
          · have d1 : decide (q.wh < 0) = false := by simpa using c1
            by_cases c2 : 2 < q.wh
            · have d2 : decide (2 < q.wh) = true := by simpa using c2
              clear hbad c1 c2
              go_wp2
              go_ret
              exact ⟨ret_int HZ.out.symm, HB2.out⟩
            · have d2 : decide (2 < q.wh) = false := by simpa using c2
              have h3 : k = 0 ∧ q.wh ≠ 0 := by
                rcases hbad with h | h | ⟨h, h'⟩
                · exact absurd h c1
                · exact absurd h c2
                · exact ⟨by simpa using h, h'⟩
              have d3 : ((k : Int) == 0) = true := beq_iff_eq.2 (by omega)
              have d4 : (q.wh == 0) = false := beq_false_of_ne h3.2
              have d5 : (q.wh != 0) = true := by simpa using h3.2
              have H3 := Lib.hid h3
              clear hbad c1 c2 h3
              go_wp2
              go_ret
              exact ⟨ret_int HZ.out.symm, HB2.out⟩
        · have d1 : decide (q.wh < 0) = false := by simp; omega
          have d2 : decide (2 < q.wh) = false := by simp; omega
          have hcs : ((k : Int) == 0) = false ∨ (((k : Int) == 0) = true ∧ (q.wh == 0) = true ∧ (q.wh != 0) = false) := by
            rcases Nat.eq_zero_or_pos k with h0 | h0
            · have : q.wh = 0 := by
                by_cases h : q.wh = 0
                · exact h
                · exact absurd (.inr (.inr ⟨by simp [h0], h⟩)) hbad
              exact .inr ⟨beq_iff_eq.2 (by omega), by simp [this], by simp [this]⟩
            · exact .inl (beq_false_of_ne (by omega))
          have HBAD := Lib.hid hbad
          clear hbad
          rcases hcs with n1 | ⟨n1, n2, n3⟩
          all_goals
            rcases Nat.eq_zero_or_pos q.stages.length with h0 | h0
            · have h2 := pchk_2 HBAD.out h0
              have HZ := Lib.hid (show lchk l = 1 by rw [HD.out, h2]; rfl)
              have m0 : ((q.stages.length : Int) == 0) = true := beq_iff_eq.2 (by omega)
              have H0 := Lib.hid h0
              clear h2 h0
              go_wp2
              go_ret
              exact ⟨ret_int HZ.out.symm, HB2.out⟩
            have m0 : ((q.stages.length : Int) == 0) = false := beq_false_of_ne (by omega)
            by_cases h8 : 8 < q.stages.length
            · have h2 := pchk_3 HBAD.out (by omega) h8
              have HZ := Lib.hid (show lchk l = 9 by rw [HD.out, h2]; rfl)
              have m1 : decide ((8 : Int) < (q.stages.length : Int)) = true := by simp; omega
              clear h2
              go_wp2
              go_ret
              exact ⟨ret_int HZ.out.symm, HB2.out⟩
            have m1 : decide ((8 : Int) < (q.stages.length : Int)) = false := by simp; omega
            have h2 := pchk_4 HBAD.out (by omega) h8
            have HD2 := Lib.hid (show lchk l = if frst (q.stages.map schk) = 0 then pchks false (l.parts.drop (k + 1)) else frst (q.stages.map schk) by rw [HD.out, h2])
            obtain ⟨Aq, cq, hAq, xq, hS2⟩ := RowRd.all (show RowRd 109 smV (NSp 51 39 112) w _ q.stages from HNV.out) smV_len
            injection hAq with hA1 _ hA3
            subst hA1 hA3
            have HSS := Lib.hid hS2
            have HSB := Lib.hid HLV.out.2
            clear h2 HD hS2 HNV h8
            go_wp2
            clear m0 m1 n1 d1 d2 t0 t1
            try clear htl
            try clear n2 n3
            obtain ⟨gk0, rfl⟩ : ∃ gk0 : Nat, gk0 = gk := ⟨_, rfl⟩
            go_loopg [5] (q.stages.length + 1) (fun gi v wr => RkS w #[.slice (some ⟨b, o, none⟩) l.parts.length c, .bool true] tb #[.int .i64 q.wh, .slice Au q.stages.length cu] q gi v wr)
            case atStart => exact ⟨0, rfl, Nat.zero_le _, by omega, HB2.out, HX2.out, HT.out, rfl⟩
            case round =>
              obtain ⟨j, rfl, hj, hgi, hb, hX, hT, hr⟩ := hrel
              have HB3 := Lib.hid hb
              have HX3 := Lib.hid hX
              have HT3 := Lib.hid hT
              have t1 : wr.cell? ⟨tb, 1, none⟩ = some (.slice Au q.stages.length cu) := HT3.out.cell 1
              have htl := HT3.out.lt
              clear hX hT
              have HR3 := Lib.hid hr
              clear hr
              by_cases hjl : j < q.stages.length
              · obtain ⟨b, o, u4, rfl, hb0, hN, hx⟩ := HSS.out j hjl
                have hlv := HSB.out q.stages[j] (List.getElem_mem hjl)
                have HD3 := Lib.hid (HR3.out.trans (frst_drop schk q.stages j hjl))
                obtain ⟨c, hc⟩ : ∃ c, q.stages[j] = c := ⟨_, rfl⟩
                rw [hc] at hN hx hlv HD3
                clear hc HR3
                obtain ⟨sa, ca, sb, cb, si, ci, so, co, rfl⟩ := hN.forms
                have p0 := hx 0 _ rfl
                have p1 := hx 1 _ rfl
                have p2 := hx 2 _ rfl
                have p3 := hx 3 _ rfl
                have p4 := hx 4 _ rfl
                rw [← Nat.add_assoc] at p1 p2 p3 p4
                rw [Nat.add_zero] at p0
                have e0 := ((bcell hb).1 b _ hb0).trans p0
                have e1 := ((bcell hb).1 b _ hb0).trans p1
                have e2 := ((bcell hb).1 b _ hb0).trans p2
                have e3 := ((bcell hb).1 b _ hb0).trans p3
                have e4 := ((bcell hb).1 b _ hb0).trans p4
                have i1 : (0 : Int) ≤ (j : Int) := by omega
                have i2 : (j : Int) < (q.stages.length : Int) := by omega
                have HLC := Lib.hid hlv
                have hq1 : q.stages.length ≤ 100000 := HLV.out.1
                have HNC := Lib.hid (NSp.next hN hb)
                have HBX := Lib.hid ((Below.refl wr.heap.size wr).alloc (Nat.le_refl _) (.cells #[.slice sa c.asg.length ca, .slice sb c.words.length cb, .slice si c.inn.length ci, .slice so c.out.length co, .bool c.app] 109))
                have HB4 := Lib.hid (hb.alloc hb.size (.cells #[.slice sa c.asg.length ca, .slice sb c.words.length cb, .slice si c.inn.length ci, .slice so c.out.length co, .bool c.app] 109))
                clear hx p0 p1 p2 p3 p4 hb hlv hN
                obtain ⟨ev, hev⟩ : ∃ ev, schk c = ev := ⟨_, rfl⟩
                have HEV := Lib.hid hev
                rw [hev] at HD3
                clear hev
                by_cases hz0 : ev = 0
                · subst hz0
                  rw [if_pos rfl] at HD3
                  go_wp2_with (go_at_call 68; refine (rstage_is _ _ _ _ _ c c.app 0 HNC.out HLC.out rfl HEV.out).mono ?_; rintro e w5 ⟨rfl, hb5⟩; have HB5 := Lib.hid (HB3.out.trans (hb5.mono HB3.out.size)); have HX5 := Lib.hid (HX3.out.next hb5 HX3.out.lt); have HT5 := Lib.hid (HT3.out.next hb5 HT3.out.lt); clear hb5)
                  go_roundg (gk - 1)
                  case rel => exact ⟨j + 1, by go_num, by omega, by omega, HB5.out, HX5.out, HT5.out, HD3.out⟩
                  case measure => omega
                · rw [if_neg hz0] at HD3
                  have HZ := Lib.hid (show lchk l = ev by rw [HD2.out, HD3.out, if_neg hz0])
                  have n1 : (ev == 0) = false := beq_false_of_ne hz0
                  have n2 : (ev != 0) = true := by simpa using hz0
                  clear hz0
                  go_wp2_with (go_at_call 68; refine (rstage_is _ _ _ _ _ c c.app ev HNC.out HLC.out rfl HEV.out).mono ?_; rintro e w5 ⟨rfl, hb5⟩; have HB5 := Lib.hid (HB3.out.trans (hb5.mono HB3.out.size)); have HX5 := Lib.hid (HX3.out.next hb5 HX3.out.lt); have HT5 := Lib.hid (HT3.out.next hb5 HT3.out.lt); clear hb5)
                  go_ret
                  exact ⟨ret_int HZ.out.symm, HB5.out⟩
              · obtain rfl : j = q.stages.length := by omega
                have hq0 : frst (q.stages.map schk) = 0 := by rw [HR3.out, List.drop_length]; rfl
                have HZ := Lib.hid (show lchk l = pchks false (l.parts.drop (k + 1)) by rw [HD2.out, hq0]; rfl)
                clear hb hq0
                go_wp2
                go_roundg (gk0 - 1)
                case rel => exact ⟨k + 1, by go_num, by omega, by omega, HB3.out, HX3.out, by rw [← HS.out, HZ.out]; congr 1⟩
                case measure => omega
      · obtain rfl : k = l.parts.length := by omega
        have HZ := Lib.hid (show lchk l = 0 by rw [HR.out, List.drop_length]; rfl)
        clear hb
        go_wp2
        go_ret
        exact ⟨ret_int HZ.out.symm, HB.out⟩
end Go.Proofs.Ytiddchpkmcncdaa
/- Walks of layer 41: the reference's text of a word. -/
namespace Go.Proofs.Ytiddchpkmcncdaa
open Go.RowKit
set_option linter.unusedSimpArgs false
set_option linter.unusedVariables false
def LaRel (s : ByteArray) (w : World) (gk : Nat) (v i : Value) (wr : World) : Prop :=
  ∃ k, i = .int .i64 ((k : Nat) : Int) ∧ k ≤ s.size ∧ gk + k = s.size + 1 ∧ w = wr ∧ v = .bool false
set_option maxRecDepth 100000 in
set_option maxHeartbeats 4000000 in
theorem Literal_aft (s : ByteArray) (w : World) (hs : s.size ≤ 100000) :
    Calls Try.prog 29 #[.string s, .bool true] w fun e w' => e = .returned (.string (bs (quoteS s.data.toList))) ∧ w = w' := by
  have hE : s.toList.isEmpty = s.data.toList.isEmpty := by rw [Lib.toList_data]
  obtain ⟨B, hB⟩ : ∃ B, s.data.toList.isEmpty = B := ⟨_, rfl⟩
  rw [hB] at hE
  clear hB
  go_enter Try.func29, Try.ntmps29
  cases B
  all_goals
    go_wp2
    go_loopg [5, 6] (s.size + 1) (fun gk v i wr => LaRel s w gk v i wr)
    case atStart => exact ⟨0, rfl, Nat.zero_le _, by omega, rfl, rfl⟩
    case round =>
      obtain ⟨k, rfl, hk, hgk, rfl, rfl⟩ := hrel
      by_cases hlt : k < s.size
      · have hbk := bt_of s k hlt
        go_wp2
        go_roundg (gk - 1)
        case rel => exact ⟨k + 1, by go_num, by omega, by omega, rfl, rfl⟩
        case measure => omega
      · obtain rfl : k = s.size := by omega
        go_wp2
        go_loopg [7, 8] (s.size + 1) (fun gk v i wr => QlRel s w gk v i wr)
        case atStart => exact ⟨0, rfl, Nat.zero_le _, by omega, rfl, rfl⟩
        case round =>
          obtain ⟨k, rfl, hk, hgk, rfl, rfl⟩ := hrel
          have hacc : (bs ([34] ++ (s.data.toList.take k).flatMap escS)).size ≤ 300000 := by
            rw [bs_size]
            have := esc_len (s.data.toList.take k)
            simp at this ⊢; omega
          obtain ⟨acc, ha⟩ : ∃ acc, bs ([34] ++ (s.data.toList.take k).flatMap escS) = acc := ⟨_, rfl⟩
          rw [ha] at hacc ⊢
          have HA := Lib.hid ha
          clear ha
          by_cases hlt : k < s.size
          · have hbk := bt_of s k hlt
            have HXT := Lib.hid (show s.extract k (k + 1) = bs [b8 s k] by
              have := ext_one s.data.toList k (by simpa using hlt)
              rw [bs_of] at this; exact this)
            have hxs : (s.extract k (k + 1)).size = 1 := by rw [size_extract _ _ _ (by omega)]; omega
            have z1 : (s.extract k (k + 1)).size ≤ 1 := by omega
            have z9 : ((⟨#[92]⟩ : ByteArray)).size = 1 := rfl
            clear hxs z9
            by_cases q0 : bt s k = 34
            · have t0 : (bt s k == 34) = true := by simpa using q0
              have HE := Lib.hid (show escS (b8 s k) = [92, b8 s k] by unfold escS escB; rw [← bt_b8]; simp [q0])
              have HX := Lib.hid (show bs ([34] ++ (s.data.toList.take (k + 1)).flatMap escS) = (acc ++ (⟨#[92]⟩ : ByteArray)) ++ bs [b8 s k] by
                rw [esc_take s.data.toList k (by simpa using hlt), show s.data.toList.getD k 0 = b8 s k from rfl, HE.out, ← List.append_assoc, bs_app]
                rw [HA.out, show ([92, b8 s k] : Bs) = [92] ++ [b8 s k] from rfl, bs_app, ByteArray.append_assoc]; rfl)
              clear q0
              go_wp2
              go_roundg (gk - 1)
              case rel => exact ⟨k + 1, by go_num, by omega, by omega, rfl, str_eq (by rw [HX.out, HXT.out])⟩
              case measure => omega
            have t0 : (bt s k == 34) = false := by simpa using q0
            by_cases q1 : bt s k = 92
            · have t1 : (bt s k == 92) = true := by simpa using q1
              have HE := Lib.hid (show escS (b8 s k) = [92, b8 s k] by unfold escS escB; rw [← bt_b8]; simp [q1])
              have HX := Lib.hid (show bs ([34] ++ (s.data.toList.take (k + 1)).flatMap escS) = (acc ++ (⟨#[92]⟩ : ByteArray)) ++ bs [b8 s k] by
                rw [esc_take s.data.toList k (by simpa using hlt), show s.data.toList.getD k 0 = b8 s k from rfl, HE.out, ← List.append_assoc, bs_app]
                rw [HA.out, show ([92, b8 s k] : Bs) = [92] ++ [b8 s k] from rfl, bs_app, ByteArray.append_assoc]; rfl)
              clear q0 q1
              go_wp2
              go_roundg (gk - 1)
              case rel => exact ⟨k + 1, by go_num, by omega, by omega, rfl, str_eq (by rw [HX.out, HXT.out])⟩
              case measure => omega
            have t1 : (bt s k == 92) = false := by simpa using q1
            by_cases q2 : bt s k = 36
            · have t2 : (bt s k == 36) = true := by simpa using q2
              have HE := Lib.hid (show escS (b8 s k) = [92, b8 s k] by unfold escS escB; rw [← bt_b8]; simp [q2])
              have HX := Lib.hid (show bs ([34] ++ (s.data.toList.take (k + 1)).flatMap escS) = (acc ++ (⟨#[92]⟩ : ByteArray)) ++ bs [b8 s k] by
                rw [esc_take s.data.toList k (by simpa using hlt), show s.data.toList.getD k 0 = b8 s k from rfl, HE.out, ← List.append_assoc, bs_app]
                rw [HA.out, show ([92, b8 s k] : Bs) = [92] ++ [b8 s k] from rfl, bs_app, ByteArray.append_assoc]; rfl)
              clear q0 q1 q2
              go_wp2
              go_roundg (gk - 1)
              case rel => exact ⟨k + 1, by go_num, by omega, by omega, rfl, str_eq (by rw [HX.out, HXT.out])⟩
              case measure => omega
            have t2 : (bt s k == 36) = false := by simpa using q2
            have HE := Lib.hid (show escS (b8 s k) = [b8 s k] by unfold escS escB; rw [← bt_b8]; simp [q0, q1, q2])
            have HX := Lib.hid (show bs ([34] ++ (s.data.toList.take (k + 1)).flatMap escS) = acc ++ bs [b8 s k] by
              rw [esc_take s.data.toList k (by simpa using hlt), show s.data.toList.getD k 0 = b8 s k from rfl, HE.out, ← List.append_assoc, bs_app]
              rw [HA.out])
            clear q0 q1 q2
            go_wp2
            go_roundg (gk - 1)
            case rel => exact ⟨k + 1, by go_num, by omega, by omega, rfl, str_eq (by rw [HX.out, HXT.out])⟩
            case measure => omega
          · obtain rfl : k = s.size := by omega
            have HX := Lib.hid (show acc ++ (⟨#[34]⟩ : ByteArray) = bs (quoteS s.data.toList) by
              rw [← HA.out, List.take_of_length_le (by simp)]
              unfold quoteS
              rw [bs_app ([34] ++ _)]; rfl)
            go_wp2
            go_ret
            exact ⟨ret_str HX.out, rfl⟩
theorem Lit_is (l : Bs) (w : World) (a : Bool) (T : Bs) (h : pcS a (lit l) = T) (hs : (bs l).size ≤ 100000) : Calls Try.prog 29 #[.string (bs l), .bool a] w fun e w' => e = .returned (.string (bs T)) ∧ w = w' := by
  subst h
  cases a with
  | false =>
    refine (Literal_any (bs l) w hs).mono ?_
    rintro e w' ⟨rfl, rfl⟩
    rw [bs_list]
    exact ⟨rfl, rfl⟩
  | true =>
    refine (Literal_aft (bs l) w hs).mono ?_
    rintro e w' ⟨rfl, rfl⟩
    rw [bs_list]
    refine ⟨?_, rfl⟩
    unfold pcS lit
    simp
theorem cat_is (a b : Bs) (N M : Nat) (ha : (bs a).size ≤ N) (hb : (bs b).size ≤ M) (h : N + M ≤ 4000000000000000000) : ∃ X, a ++ b = X ∧ (bs X).size ≤ N + M ∧ Op.stringOp .add (bs a) (bs b) = pure (.string (bs X)) := by
  refine ⟨_, rfl, ?_, str_add (bs a) (bs b) (bs (a ++ b)) (by omega) (bs_app _ _).symm⟩
  rw [bs_size] at ha hb ⊢
  rw [List.length_append]; omega
theorem cat_lit (a l : Bs) (N : Nat) (ha : (bs a).size ≤ N) (h : N + l.length ≤ 4000000000000000000) : ∃ X, a ++ l = X ∧ (bs X).size ≤ N + l.length ∧ Op.stringOp .add (bs a) (⟨l.toArray⟩ : ByteArray) = pure (.string (bs X)) :=
  cat_is a l N l.length ha (by rw [bs_size]; omega) h
theorem pcS_lit (a : Bool) (p : Pc) (h : p.var = false) : pcS a p = pcS a (lit p.text) := by
  unfold pcS lit
  rw [h]; rfl
def RtRel (w : World) (ps : Wd) (gk : Nat) (v a i : Value) (wr : World) : Prop :=
  ∃ k, i = .int .i64 ((k : Nat) : Int) ∧ k ≤ ps.length ∧ gk + k = ps.length + 1 ∧ w = wr ∧ v = .string (bs (txtS false (ps.take k))) ∧ a = .bool (lastA false (ps.take k))
theorem TxW.take {ps : Wd} (h : TxW ps) (k : Nat) : TxW (ps.take k) := ⟨by have := h.1; rw [List.length_take]; omega, fun p hp => h.2 p (List.mem_of_mem_take hp)⟩
set_option maxRecDepth 100000 in
set_option maxHeartbeats 8000000 in
theorem rtext_any (w : World) (v : Value) (ps : Wd) (h : NWp 51 w v ps) (hl : TxW ps) :
    Calls Try.prog 91 #[v] w fun e w' => e = .returned (.string (bs (txtS false ps))) ∧ w = w' := by
  obtain ⟨A, c, rfl, hc, hcell⟩ := Rd.pall h
  have HC := Lib.hid hcell
  have HL := Lib.hid hl
  have hl1 := hl.1
  clear h hcell hl
  go_enter Try.func91, Try.ntmps91
  go_wp2
  go_loopg [3, 4, 5] (ps.length + 1) (fun gk v a i wr => RtRel w ps gk v a i wr)
  case atStart => exact ⟨0, rfl, Nat.zero_le _, by omega, rfl, rfl, rfl⟩
  case round =>
    obtain ⟨k, rfl, hk, hgk, rfl, rfl, rfl⟩ := hrel
    by_cases hlt : k < ps.length
    · obtain ⟨b, o, rfl, hb0, hx⟩ := HC.out k hlt
      obtain ⟨b0, b1, b2⟩ := hx k hlt
      have HN := Lib.hid (txt_next ps k hlt)
      have HLS := Lib.hid (last_succ ps k hlt)
      have htl := HL.out.2 ps[k] (List.getElem_mem hlt)
      have hacc := (HL.out.take k).len
      obtain ⟨p, hp⟩ : ∃ p, ps[k] = p := ⟨_, rfl⟩
      rw [hp] at b0 b1 b2 HN HLS htl
      obtain ⟨acc, ha⟩ : ∃ acc, txtS false (ps.take k) = acc := ⟨_, rfl⟩
      obtain ⟨af, hf⟩ : ∃ af, lastA false (ps.take k) = af := ⟨_, rfl⟩
      rw [ha] at HN hacc ⊢
      rw [hf] at HN ⊢
      clear hp hx ha hf
      have hz : (bs p.text).size ≤ 2000 := by rw [bs_size]; exact htl
      have hza : (bs acc).size ≤ 8006000 := by rw [bs_size]; exact hacc
      have i1 : (0 : Int) ≤ (k : Int) := by omega
      have i2 : (k : Int) < (ps.length : Int) := by omega
      cases hv : p.var with
      | true =>
        rw [hv] at b1
        cases hq : p.quo with
        | true =>
          rw [hq] at b2
          obtain ⟨P1, hP1, hz1, S1⟩ := cat_lit acc [34, 36] 8006000 hza (by decide)
          obtain ⟨P2, hP2, hz2, S2⟩ := cat_is P1 p.text 8006002 2000 hz1 hz (by omega)
          obtain ⟨P3, hP3, hz3, S3⟩ := cat_lit P2 [34] 8008002 hz2 (by decide)
          have HT := Lib.hid (show txtS false (ps.take (k + 1)) = P3 by rw [HN.out, ← hP3, ← hP2, ← hP1]; unfold pcS; rw [hv, hq]; simp)
          have HA := Lib.hid (show lastA false (ps.take (k + 1)) = false by rw [HLS.out]; unfold aftS; rw [hv, hq]; rfl)
          clear hP1 hP2 hP3
          clear hv hq
          go_wp2
          go_roundg (gk - 1)
          case rel => exact ⟨k + 1, by go_num, by omega, by omega, rfl, str_eq (by rw [HT.out]), by rw [HA.out]⟩
          case measure => omega
        | false =>
          rw [hq] at b2
          obtain ⟨P1, hP1, hz1, S1⟩ := cat_lit acc [36] 8006000 hza (by decide)
          obtain ⟨P2, hP2, hz2, S2⟩ := cat_is P1 p.text 8006001 2000 hz1 hz (by omega)
          have HT := Lib.hid (show txtS false (ps.take (k + 1)) = P2 by rw [HN.out, ← hP2, ← hP1]; unfold pcS; rw [hv, hq]; simp)
          have HA := Lib.hid (show lastA false (ps.take (k + 1)) = true by rw [HLS.out]; unfold aftS; rw [hv, hq]; rfl)
          clear hP1 hP2
          clear hv hq
          go_wp2
          go_roundg (gk - 1)
          case rel => exact ⟨k + 1, by go_num, by omega, by omega, rfl, str_eq (by rw [HT.out]), by rw [HA.out]⟩
          case measure => omega
      | false =>
        rw [hv] at b1
        have HA := Lib.hid (show lastA false (ps.take (k + 1)) = false by rw [HLS.out]; unfold aftS; rw [hv]; rfl)
        obtain ⟨T, hT⟩ : ∃ T, pcS af (lit p.text) = T := ⟨_, rfl⟩
        have HPT := Lib.hid hT
        have hzT : (bs T).size ≤ 4003 := by
          rw [bs_size, ← hT]
          have := pcS_len af (lit p.text)
          have e : (lit p.text).text = p.text := rfl
          rw [e] at this; omega
        obtain ⟨P1, hP1, hz1, S1⟩ := cat_is acc T 8006000 4003 hza hzT (by omega)
        have HT := Lib.hid (show txtS false (ps.take (k + 1)) = P1 by rw [HN.out, ← hP1, ← hT, pcS_lit af p hv])
        clear hP1
        clear hv hT
        go_wp2_with (go_at_call 29; (with_reducible refine (Lit_is p.text _ af T HPT.out (by omega)).mono ?_); rintro e w' ⟨rfl, rfl⟩)
        go_roundg (gk - 1)
        case rel => exact ⟨k + 1, by go_num, by omega, by omega, rfl, str_eq (by rw [HT.out]), by rw [HA.out]⟩
        case measure => omega
    · obtain rfl : k = ps.length := by omega
      have HX := Lib.hid (show txtS false (ps.take ps.length) = txtS false ps by rw [List.take_length])
      go_wp2
      go_ret
      exact ⟨ret_str (by rw [HX.out]), rfl⟩
theorem rtext_is (w : World) (v : Value) (ps : Wd) (T : Bs) (h : NWp 51 w v ps) (hl : TxW ps) (hT : txtS false ps = T) :
    Calls Try.prog 91 #[v] w fun e w' => e = .returned (.string (bs T)) ∧ w = w' := by
  subst hT; exact rtext_any w v ps h hl
end Go.Proofs.Ytiddchpkmcncdaa
/- Walks of layer 41: the reference's text of a simple command. -/
namespace Go.Proofs.Ytiddchpkmcncdaa
open Go.RowKit
set_option linter.unusedSimpArgs false
set_option linter.unusedVariables false
/-- Texts with a blank ahead of each. -/
def spB (l : List Bs) : Bs := l.flatMap fun t => 32 :: t
theorem spB_app (a b : List Bs) : spB (a ++ b) = spB a ++ spB b := by simp [spB]
theorem spB_one (t : Bs) : spB [t] = [32] ++ t := by simp [spB]
theorem spB_join : ∀ (l : List Bs), l ≠ [] → spB l = 32 :: joinB l
  | [], h => absurd rfl h
  | [a], _ => by simp [spB, joinB]
  | a :: b :: r, _ => by
    have ih := spB_join (b :: r) (by simp)
    have e : spB (a :: b :: r) = 32 :: a ++ spB (b :: r) := by simp [spB]
    rw [e, ih]; simp [joinB]
theorem spB_len (N : Nat) : ∀ L : List Bs, (∀ x ∈ L, x.length ≤ N) → (spB L).length ≤ L.length * (N + 1)
  | [], _ => by simp [spB]
  | a :: r, h => by
    have ih := spB_len N r (fun x hx => h x (by simp [hx]))
    have e : spB (a :: r) = (32 :: a) ++ spB r := by simp [spB]
    have := h a (by simp)
    rw [e, List.length_append, List.length_cons, List.length_cons, Nat.add_mul]
    omega
theorem ext_tail (L : Bs) : (bs (32 :: L)).extract 1 (bs (32 :: L)).size = bs L := by
  have h : (bs (32 :: L)).extract 1 (bs (32 :: L)).size = bs ((bs (32 :: L)).extract 1 (bs (32 :: L)).size).data.toList := (bs_of _).symm
  rw [h]
  congr 1
  rw [Lib.extract_data]
  simp [bs_list, bs_size]
def RcA (w : World) (cs : Array Value) (c : Sm) (gk : Nat) (v i : Value) (wr : World) : Prop :=
  ∃ k, i = .int .i64 ((k : Nat) : Int) ∧ k ≤ c.asg.length ∧ gk + k = c.asg.length + 1 ∧ Below w.heap.size w wr ∧ Blk wr w.heap.size 109 cs ∧ v = .string (bs (spB ((c.asg.take k).map asgT)))
def RcW (w : World) (cs : Array Value) (c : Sm) (gk : Nat) (v i : Value) (wr : World) : Prop :=
  ∃ k, i = .int .i64 ((k : Nat) : Int) ∧ k ≤ c.words.length ∧ gk + k = c.words.length + 1 ∧ Below w.heap.size w wr ∧ Blk wr w.heap.size 109 cs ∧ v = .string (bs (spB (c.asg.map asgT ++ (c.words.take k).map (txtS false))))
theorem asgT_len {c : Sm} (h : TxSm c) : ∀ a ∈ c.asg, (asgT a).length ≤ 9000000 := by
  intro a ha
  obtain ⟨_, _, h3, _⟩ := h
  have h1 := (h3 a ha).1
  have h2 := (h3 a ha).2.len
  unfold asgT
  rw [List.length_append, List.length_cons]; omega
theorem rc_len1 {c : Sm} (h : TxSm c) (k : Nat) : (spB ((c.asg.take k).map asgT)).length ≤ 300000000 := by
  have h1 := spB_len 9000000 ((c.asg.take k).map asgT) (fun x hx => by
    obtain ⟨a, ha, rfl⟩ := List.mem_map.1 hx
    exact asgT_len h a (List.mem_of_mem_take ha))
  have h2 := h.1
  rw [List.length_map, List.length_take] at h1
  omega
theorem rc_len2 {c : Sm} (h : TxSm c) (k : Nat) : (spB (c.asg.map asgT ++ (c.words.take k).map (txtS false))).length ≤ 600000000 := by
  have h1 := spB_len 9000000 (c.asg.map asgT ++ (c.words.take k).map (txtS false)) (fun x hx => by
    rcases List.mem_append.1 hx with hx | hx
    · obtain ⟨a, ha, rfl⟩ := List.mem_map.1 hx
      exact asgT_len h a ha
    · obtain ⟨a, ha, rfl⟩ := List.mem_map.1 hx
      have := (h.2.2.2.1 a (List.mem_of_mem_take ha)).len
      omega)
  have h2 := h.1
  have h3 := h.2.1
  rw [List.length_append, List.length_map, List.length_map, List.length_take] at h1
  omega
theorem rc_next1 (c : Sm) (k : Nat) (hk : k < c.asg.length) : spB ((c.asg.take (k + 1)).map asgT) = spB ((c.asg.take k).map asgT) ++ [32] ++ (c.asg[k]).name ++ [61] ++ txtS false (c.asg[k]).value := by
  rw [List.take_succ_eq_append_getElem hk, List.map_append, spB_app]
  simp [spB, asgT]
theorem rc_next2 (A : List Bs) (c : Sm) (k : Nat) (hk : k < c.words.length) : spB (A ++ (c.words.take (k + 1)).map (txtS false)) = spB (A ++ (c.words.take k).map (txtS false)) ++ [32] ++ txtS false c.words[k] := by
  rw [List.take_succ_eq_append_getElem hk, List.map_append, ← List.append_assoc, spB_app]
  simp [spB]
theorem smL_ne {c : Sm} (h : smNone c = false) : smL c ≠ [] := by
  intro e
  unfold smL at e
  have h1 := List.append_eq_nil_iff.1 e
  have h2 := List.append_eq_nil_iff.1 h1.1
  unfold smNone at h
  rw [List.map_eq_nil_iff.1 h2.1, List.map_eq_nil_iff.1 h2.2] at h
  cases h
theorem rc_fin {c : Sm} (hne : smNone c = false) (P : Bs) (hP : spB (c.asg.map asgT ++ c.words.map (txtS false)) = P) : P ++ spB (redT c) = 32 :: smT c := by
  rw [← hP, ← spB_app]
  exact spB_join (smL c) (smL_ne hne)
theorem emp_t {x : Wd} (h : x.length = 0) : x.isEmpty = true := by obtain rfl := List.length_eq_zero_iff.1 h; rfl
theorem emp_f {x : Wd} (h : 0 < x.length) : x.isEmpty = false := by cases x with | nil => simp at h | cons a l => rfl
set_option maxRecDepth 100000 in
set_option maxHeartbeats 16000000 in
theorem rcmd_any (w : World) (va vb vi vo : Value) (c : Sm) (h : NSp 51 39 112 w ⟨va, vb, vi, vo⟩ c) (hlim : TxSm c) (hne : smNone c = false) :
    Calls Try.prog 66 #[.agg #[va, vb, vi, vo, .bool c.app]] w fun e w' => e = .returned (.string (bs (smT c))) ∧ Below w.heap.size w w' := by
  obtain ⟨hA, hW, hI, hO⟩ := h
  have HT1 := Lib.hid (rc_len1 hlim)
  have HT2 := Lib.hid (rc_len2 hlim)
  have HTL := Lib.hid hlim
  obtain ⟨l1, l2, l3, l4, l5, l6⟩ := hlim
  obtain ⟨Aa, ca, hva, xa, hA2⟩ := hA.all asgV_len
  obtain ⟨Ab, cb, hvb, xb, hW2⟩ := hW.all wdV_len
  obtain ⟨Ai, ci, hvi, _⟩ := Rd.form hI
  obtain ⟨Ao, co, hvo, _⟩ := Rd.form hO
  simp only at hva hvb hvi hvo hI hO
  subst hva hvb hvi hvo
  have HA := Lib.hid hA2
  have HW := Lib.hid hW2
  have HI := Lib.hid hI
  have HO := Lib.hid hO
  have HL3 := Lib.hid l3
  have HL4 := Lib.hid l4
  have HL5 := Lib.hid l5
  have HL6 := Lib.hid l6
  have HNE := Lib.hid hne
  clear hA hW hI hO l3 l4 hA2 hW2 l5 l6 hne
  go_enter Try.func66, Try.ntmps66
  have HX0 := Lib.hid (Blk.new w 109 #[.slice Aa c.asg.length ca, .slice Ab c.words.length cb, .slice Ai c.inn.length ci, .slice Ao c.out.length co, .bool c.app])
  have HB0 := Lib.hid ((Below.refl w.heap.size w).alloc (Nat.le_refl _) (.cells #[.slice Aa c.asg.length ca, .slice Ab c.words.length cb, .slice Ai c.inn.length ci, .slice Ao c.out.length co, .bool c.app] 109))
  go_upto_region 1 with (fail)
  generalize (w.alloc (.cells #[.slice Aa c.asg.length ca, .slice Ab c.words.length cb, .slice Ai c.inn.length ci, .slice Ao c.out.length co, .bool c.app] 109)) = wa at *
  go_wp2
  go_loopg [3, 4] (c.asg.length + 1) (fun gk v i wr => RcA w #[.slice Aa c.asg.length ca, .slice Ab c.words.length cb, .slice Ai c.inn.length ci, .slice Ao c.out.length co, .bool c.app] c gk v i wr)
  case atStart => exact ⟨0, rfl, Nat.zero_le _, by omega, HB0.out, HX0.out, rfl⟩
  case round =>
    obtain ⟨k, rfl, hk, hgk, hb, hX, rfl⟩ := hrel
    have HX := Lib.hid hX
    have HB := Lib.hid hb
    have x0 : wr.cell? ⟨w.heap.size, 0, none⟩ = some (.slice Aa c.asg.length ca) := HX.out.cell 0
    have hxl := HX.out.lt
    clear hX HX0 HB0
    by_cases hlt : k < c.asg.length
    · obtain ⟨b, o, u, rfl, hb0, hN, hx⟩ := HA.out k hlt
      have hlv := HL3.out c.asg[k] (List.getElem_mem hlt)
      have HNX := Lib.hid (rc_next1 c k hlt)
      have hacc := HT1.out k
      obtain ⟨a, ha⟩ : ∃ a, c.asg[k] = a := ⟨_, rfl⟩
      rw [ha] at hN hx hlv HNX
      obtain ⟨P, hP⟩ : ∃ P, spB ((c.asg.take k).map asgT) = P := ⟨_, rfl⟩
      rw [hP] at hacc HNX ⊢
      clear ha hP
      obtain ⟨Au, cu, rfl, _⟩ := Rd.form (show NWp 51 w u a.value from hN)
      have p0 := hx 0 _ rfl
      have p1 := hx 1 _ rfl
      have hbr : b < wr.heap.size := Nat.lt_of_lt_of_le hb0 hb.size
      have e0 : wr.cell? ⟨b, o + k * 2, none⟩ = some (.string (bs a.name)) := ((bcell hb).1 b (o + k * 2) hb0).trans (by simpa using p0)
      have e1 : wr.cell? ⟨b, o + k * 2 + 1, none⟩ = some (.slice Au a.value.length cu) := ((bcell hb).1 b (o + k * 2 + 1) hb0).trans (by rw [Nat.add_assoc]; exact p1)
      have i1 : (0 : Int) ≤ (k : Int) := by omega
      have i2 : (k : Int) < (c.asg.length : Int) := by omega
      have HLV := Lib.hid hlv.2
      have hT8 := hlv.2.len
      have hnm := hlv.1
      have HNV := Lib.hid (show NWp 51 wr _ a.value from NWp.next hN hb)
      obtain ⟨T, hT⟩ : ∃ T, txtS false a.value = T := ⟨_, rfl⟩
      rw [hT] at HNX hT8
      have HTT := Lib.hid hT
      clear hx p0 p1 hlv hN hT hb
      have hz4 : (bs T).size ≤ 8006000 := by rw [bs_size]; exact hT8
      have hz5 : (bs a.name).size ≤ 2000 := by rw [bs_size]; exact hnm
      have hz0 : (bs P).size ≤ 300000000 := by rw [bs_size]; exact hacc
      obtain ⟨P1, hP1, hy1, S1⟩ := cat_lit P [32] 300000000 hz0 (by decide)
      obtain ⟨P2, hP2, hy2, S2⟩ := cat_is P1 a.name 300000001 2000 hy1 hz5 (by omega)
      obtain ⟨P3, hP3, hy3, S3⟩ := cat_lit P2 [61] 300002001 hy2 (by decide)
      obtain ⟨P4, hP4, hy4, S4⟩ := cat_is P3 T 300002002 8006000 hy3 hz4 (by omega)
      rw [hP1, hP2, hP3, hP4] at HNX
      clear hP1 hP2 hP3 hP4
      go_wp2
      go_quiet ((go_at_call 91; exact quiet_left (rtext_is _ _ a.value T HNV.out HLV.out HTT.out)))
      go_wp2
      go_roundg (gk - 1)
      case rel => exact ⟨k + 1, by go_num, by omega, by omega, below_drewN HB.out _, HX.out.drewN _, str_eq (by rw [HNX.out])⟩
      case measure => omega
    · obtain rfl : k = c.asg.length := by omega
      have HZA := Lib.hid (show spB ((c.asg.take c.asg.length).map asgT) = spB (c.asg.map asgT ++ (c.words.take 0).map (txtS false)) by rw [List.take_length]; simp)
      clear hb
      rw [HZA.out]
      go_wp2
      clear x0 hxl hk hlt hgk
      go_loopg [3, 5] (c.words.length + 1) (fun gk v i wr => RcW w #[.slice Aa c.asg.length ca, .slice Ab c.words.length cb, .slice Ai c.inn.length ci, .slice Ao c.out.length co, .bool c.app] c gk v i wr)
      case atStart => exact ⟨0, rfl, Nat.zero_le _, by omega, HB.out, HX.out, rfl⟩
      case round =>
        obtain ⟨k, rfl, hk, hgk, hb, hX, rfl⟩ := hrel
        have HX := Lib.hid hX
        have HB := Lib.hid hb
        have x1 : wr.cell? ⟨w.heap.size, 1, none⟩ = some (.slice Ab c.words.length cb) := HX.out.cell 1
        have hxl := HX.out.lt
        clear hX
        by_cases hlt : k < c.words.length
        · obtain ⟨b, o, u, rfl, hb0, hN, hx⟩ := HW.out k hlt
          have hlv := HL4.out c.words[k] (List.getElem_mem hlt)
          have HNX := Lib.hid (rc_next2 (c.asg.map asgT) c k hlt)
          have hacc := HT2.out k
          obtain ⟨a, ha⟩ : ∃ a, c.words[k] = a := ⟨_, rfl⟩
          rw [ha] at hN hx hlv HNX
          obtain ⟨P, hP⟩ : ∃ P, spB (c.asg.map asgT ++ (c.words.take k).map (txtS false)) = P := ⟨_, rfl⟩
          rw [hP] at hacc HNX ⊢
          clear ha hP
          obtain ⟨Au, cu, rfl, _⟩ := Rd.form (show NWp 51 w u a from hN)
          have p0 := hx 0 _ rfl
          have hbr : b < wr.heap.size := Nat.lt_of_lt_of_le hb0 hb.size
          have e0 : wr.cell? ⟨b, o + k, none⟩ = some (.slice Au a.length cu) := ((bcell hb).1 b (o + k) hb0).trans (by simpa using p0)
          have i1 : (0 : Int) ≤ (k : Int) := by omega
          have i2 : (k : Int) < (c.words.length : Int) := by omega
          have HLV := Lib.hid hlv
          have hT8 := hlv.len
          have HNV := Lib.hid (show NWp 51 wr _ a from NWp.next hN hb)
          obtain ⟨T, hT⟩ : ∃ T, txtS false a = T := ⟨_, rfl⟩
          rw [hT] at HNX hT8
          have HTT := Lib.hid hT
          clear hx p0 hlv hN hT hb
          have hz4 : (bs T).size ≤ 8006000 := by rw [bs_size]; exact hT8
          have hz0 : (bs P).size ≤ 600000000 := by rw [bs_size]; exact hacc
          obtain ⟨P1, hP1, hy1, S1⟩ := cat_lit P [32] 600000000 hz0 (by decide)
          obtain ⟨P2, hP2, hy2, S2⟩ := cat_is P1 T 600000001 8006000 hy1 hz4 (by omega)
          rw [hP1, hP2] at HNX
          clear hP1 hP2
          go_wp2_with (go_at_call 91; (with_reducible refine (rtext_is _ _ a T HNV.out HLV.out HTT.out).mono ?_); rintro e w' ⟨rfl, rfl⟩)
          go_roundg (gk - 1)
          case rel => exact ⟨k + 1, by go_num, by omega, by omega, HB.out, HX.out, str_eq (by rw [HNX.out])⟩
          case measure => omega
        · obtain rfl : k = c.words.length := by omega
          have hacc := HT2.out c.words.length
          have HF := Lib.hid (fun P hP => rc_fin HNE.out P hP)
          rw [List.take_length] at hacc ⊢
          obtain ⟨P, hP⟩ : ∃ P, spB (c.asg.map asgT ++ c.words.map (txtS false)) = P := ⟨_, rfl⟩
          have HFP := Lib.hid (HF.out P hP)
          rw [hP] at hacc ⊢
          have x2 : wr.cell? ⟨w.heap.size, 2, none⟩ = some (.slice Ai c.inn.length ci) := HX.out.cell 2
          have x3 : wr.cell? ⟨w.heap.size, 3, none⟩ = some (.slice Ao c.out.length co) := HX.out.cell 3
          have x4 : wr.cell? ⟨w.heap.size, 4, none⟩ = some (.bool c.app) := HX.out.cell 4
          have HNI := Lib.hid (NWp.next HI.out hb)
          have HNO := Lib.hid (NWp.next HO.out hb)
          have hTi := HL5.out.len
          have hTo := HL6.out.len
          obtain ⟨Ti, hTi'⟩ : ∃ T, txtS false c.inn = T := ⟨_, rfl⟩
          obtain ⟨To, hTo'⟩ : ∃ T, txtS false c.out = T := ⟨_, rfl⟩
          have HTI := Lib.hid hTi'
          have HTO := Lib.hid hTo'
          rw [hTi'] at hTi
          rw [hTo'] at hTo
          clear hP hb HF hTi' hTo' hk hlt hgk
          have hzi : (bs Ti).size ≤ 8006000 := by rw [bs_size]; exact hTi
          have hzo : (bs To).size ≤ 8006000 := by rw [bs_size]; exact hTo
          have hz0 : (bs P).size ≤ 600000000 := by rw [bs_size]; exact hacc
          rcases Nat.eq_zero_or_pos c.inn.length with h1 | h1
          · have EI := Lib.hid (emp_t h1)
            have d1 : decide ((0 : Int) < (c.inn.length : Int)) = false := decide_eq_false (by omega)
            have d1n : ¬ 0 < c.inn.length := by omega
            clear h1
            rcases Nat.eq_zero_or_pos c.out.length with h2 | h2
            · have EO := Lib.hid (emp_t h2)
              have d2 : decide ((0 : Int) < (c.out.length : Int)) = false := decide_eq_false (by omega)
              have d2n : ¬ 0 < c.out.length := by omega
              clear h2
              have HE := Lib.hid (show P = 32 :: smT c by rw [← HFP.out]; unfold redT; rw [EI.out, EO.out, HTI.out, HTO.out]; simp [spB])
              have hz9 : 1 ≤ (bs P).size := by rw [HE.out, bs_size]; simp
              have hz8 : (bs P).size ≤ 700000000 := by omega
              clear HFP 
              go_wp2
              go_ret
              exact ⟨ret_str (by rw [HE.out, ext_tail]), HB.out⟩
            · have EO := Lib.hid (emp_f h2)
              have d2 : decide ((0 : Int) < (c.out.length : Int)) = true := decide_eq_true (by omega)
              have d2n : 0 < c.out.length := by omega
              clear h2
              cases hap : c.app with
              | true =>
                have HAP := Lib.hid hap
                rw [hap] at x4
                clear hap
                obtain ⟨P2, hP2, hy2, A2⟩ := cat_lit P [32, 62, 62, 32] 600000000 hz0 (by decide)
                obtain ⟨Q2, hQ2, hv2, C2⟩ := cat_is P2 To 600000004 8006000 hy2 hzo (by omega)
                have HE := Lib.hid (show Q2 = 32 :: smT c by rw [← hQ2, ← hP2, ← HFP.out]; unfold redT; rw [EI.out, EO.out, HTI.out, HTO.out]; simp [spB, HAP.out])
                have hz9 : 1 ≤ (bs Q2).size := by rw [HE.out, bs_size]; simp
                have hz8 : (bs Q2).size ≤ 700000000 := by omega
                clear HFP hP2 hQ2
                go_wp2_with (first | (go_at_call 91; (with_reducible refine (rtext_is _ _ c.inn Ti HNI.out HL5.out HTI.out).mono ?_); rintro e w1 ⟨rfl, rfl⟩) | (go_at_call 91; (with_reducible refine (rtext_is _ _ c.out To HNO.out HL6.out HTO.out).mono ?_); rintro e w1 ⟨rfl, rfl⟩))
                go_ret
                exact ⟨ret_str (by rw [HE.out, ext_tail]), HB.out⟩
              | false =>
                have HAP := Lib.hid hap
                rw [hap] at x4
                clear hap
                obtain ⟨P2, hP2, hy2, A2⟩ := cat_lit P [32, 62, 32] 600000000 hz0 (by decide)
                obtain ⟨Q2, hQ2, hv2, C2⟩ := cat_is P2 To 600000003 8006000 hy2 hzo (by omega)
                have HE := Lib.hid (show Q2 = 32 :: smT c by rw [← hQ2, ← hP2, ← HFP.out]; unfold redT; rw [EI.out, EO.out, HTI.out, HTO.out]; simp [spB, HAP.out])
                have hz9 : 1 ≤ (bs Q2).size := by rw [HE.out, bs_size]; simp
                have hz8 : (bs Q2).size ≤ 700000000 := by omega
                clear HFP hP2 hQ2
                go_wp2_with (first | (go_at_call 91; (with_reducible refine (rtext_is _ _ c.inn Ti HNI.out HL5.out HTI.out).mono ?_); rintro e w1 ⟨rfl, rfl⟩) | (go_at_call 91; (with_reducible refine (rtext_is _ _ c.out To HNO.out HL6.out HTO.out).mono ?_); rintro e w1 ⟨rfl, rfl⟩))
                go_ret
                exact ⟨ret_str (by rw [HE.out, ext_tail]), HB.out⟩
          · have EI := Lib.hid (emp_f h1)
            have d1 : decide ((0 : Int) < (c.inn.length : Int)) = true := decide_eq_true (by omega)
            have d1n : 0 < c.inn.length := by omega
            clear h1
            rcases Nat.eq_zero_or_pos c.out.length with h2 | h2
            · have EO := Lib.hid (emp_t h2)
              have d2 : decide ((0 : Int) < (c.out.length : Int)) = false := decide_eq_false (by omega)
              have d2n : ¬ 0 < c.out.length := by omega
              clear h2
              obtain ⟨P1, hP1, hy1, A1⟩ := cat_lit P [32, 60, 32] 600000000 hz0 (by decide)
              obtain ⟨Q1, hQ1, hv1, C1⟩ := cat_is P1 Ti 600000003 8006000 hy1 hzi (by omega)
              have HE := Lib.hid (show Q1 = 32 :: smT c by rw [← hQ1, ← hP1, ← HFP.out]; unfold redT; rw [EI.out, EO.out, HTI.out, HTO.out]; simp [spB])
              have hz9 : 1 ≤ (bs Q1).size := by rw [HE.out, bs_size]; simp
              have hz8 : (bs Q1).size ≤ 700000000 := by omega
              clear HFP hP1 hQ1
              go_wp2_with (first | (go_at_call 91; (with_reducible refine (rtext_is _ _ c.inn Ti HNI.out HL5.out HTI.out).mono ?_); rintro e w1 ⟨rfl, rfl⟩) | (go_at_call 91; (with_reducible refine (rtext_is _ _ c.out To HNO.out HL6.out HTO.out).mono ?_); rintro e w1 ⟨rfl, rfl⟩))
              go_ret
              exact ⟨ret_str (by rw [HE.out, ext_tail]), HB.out⟩
            · have EO := Lib.hid (emp_f h2)
              have d2 : decide ((0 : Int) < (c.out.length : Int)) = true := decide_eq_true (by omega)
              have d2n : 0 < c.out.length := by omega
              clear h2
              cases hap : c.app with
              | true =>
                have HAP := Lib.hid hap
                rw [hap] at x4
                clear hap
                obtain ⟨P1, hP1, hy1, A1⟩ := cat_lit P [32, 60, 32] 600000000 hz0 (by decide)
                obtain ⟨Q1, hQ1, hv1, C1⟩ := cat_is P1 Ti 600000003 8006000 hy1 hzi (by omega)
                obtain ⟨P2, hP2, hy2, A2⟩ := cat_lit Q1 [32, 62, 62, 32] 608006003 hv1 (by decide)
                obtain ⟨Q2, hQ2, hv2, C2⟩ := cat_is P2 To 608006007 8006000 hy2 hzo (by omega)
                have HE := Lib.hid (show Q2 = 32 :: smT c by rw [← hQ2, ← hP2, ← hQ1, ← hP1, ← HFP.out]; unfold redT; rw [EI.out, EO.out, HTI.out, HTO.out]; simp [spB, HAP.out])
                have hz9 : 1 ≤ (bs Q2).size := by rw [HE.out, bs_size]; simp
                have hz8 : (bs Q2).size ≤ 700000000 := by omega
                clear HFP hP1 hQ1 hP2 hQ2
                go_wp2_with (first | (go_at_call 91; (with_reducible refine (rtext_is _ _ c.inn Ti HNI.out HL5.out HTI.out).mono ?_); rintro e w1 ⟨rfl, rfl⟩) | (go_at_call 91; (with_reducible refine (rtext_is _ _ c.out To HNO.out HL6.out HTO.out).mono ?_); rintro e w1 ⟨rfl, rfl⟩))
                go_ret
                exact ⟨ret_str (by rw [HE.out, ext_tail]), HB.out⟩
              | false =>
                have HAP := Lib.hid hap
                rw [hap] at x4
                clear hap
                obtain ⟨P1, hP1, hy1, A1⟩ := cat_lit P [32, 60, 32] 600000000 hz0 (by decide)
                obtain ⟨Q1, hQ1, hv1, C1⟩ := cat_is P1 Ti 600000003 8006000 hy1 hzi (by omega)
                obtain ⟨P2, hP2, hy2, A2⟩ := cat_lit Q1 [32, 62, 32] 608006003 hv1 (by decide)
                obtain ⟨Q2, hQ2, hv2, C2⟩ := cat_is P2 To 608006006 8006000 hy2 hzo (by omega)
                have HE := Lib.hid (show Q2 = 32 :: smT c by rw [← hQ2, ← hP2, ← hQ1, ← hP1, ← HFP.out]; unfold redT; rw [EI.out, EO.out, HTI.out, HTO.out]; simp [spB, HAP.out])
                have hz9 : 1 ≤ (bs Q2).size := by rw [HE.out, bs_size]; simp
                have hz8 : (bs Q2).size ≤ 700000000 := by omega
                clear HFP hP1 hQ1 hP2 hQ2
                go_wp2_with (first | (go_at_call 91; (with_reducible refine (rtext_is _ _ c.inn Ti HNI.out HL5.out HTI.out).mono ?_); rintro e w1 ⟨rfl, rfl⟩) | (go_at_call 91; (with_reducible refine (rtext_is _ _ c.out To HNO.out HL6.out HTO.out).mono ?_); rintro e w1 ⟨rfl, rfl⟩))
                go_ret
                exact ⟨ret_str (by rw [HE.out, ext_tail]), HB.out⟩
end Go.Proofs.Ytiddchpkmcncdaa
/- Walks of layer 41: Print of the reference. -/
namespace Go.Proofs.Ytiddchpkmcncdaa
open Go.RowKit
set_option linter.unusedSimpArgs false
set_option linter.unusedVariables false
theorem rcmd_is (w : World) (va vb vi vo : Value) (c : Sm) (ap : Bool) (T : Bs) (h : NSp 51 39 112 w ⟨va, vb, vi, vo⟩ c) (hlim : TxSm c) (hne : smNone c = false) (ha : c.app = ap) (hT : smT c = T) :
    Calls Try.prog 66 #[.agg #[va, vb, vi, vo, .bool ap]] w fun e w' => e = .returned (.string (bs T)) ∧ Below w.heap.size w w' := by
  subst ha hT; exact rcmd_any w va vb vi vo c h hlim hne
theorem rCheck_is (w : World) (v : Value) (l : Ln) (bg : Bool) (e0 : Int) (h : RowRd 101 plV (NPp 51 39 112 109) w v l.parts) (hlim : LnIn l) (hb : l.bg = bg) (he : lchk l = e0) :
    Calls Try.prog 38 #[.agg #[v, .bool bg]] w fun e w' => e = .returned (.int .i64 e0) ∧ Below w.heap.size w w' := by
  subst hb he; exact rCheck_any w v l h hlim.big
def RpP (w : World) (cs : Array Value) (l : Ln) (gk : Nat) (v i : Value) (wr : World) : Prop :=
  ∃ k, i = .int .i64 ((k : Nat) : Int) ∧ k ≤ l.parts.length ∧ gk + k = l.parts.length + 1 ∧ Below w.heap.size w wr ∧ Blk wr w.heap.size 30 cs ∧ v = .string (bs (ptT true (l.parts.take k)))
def RpS (w : World) (cs : Array Value) (P : Bs) (q : Pl) (gk : Nat) (v i : Value) (wr : World) : Prop :=
  ∃ k, i = .int .i64 ((k : Nat) : Int) ∧ k ≤ q.stages.length ∧ gk + k = q.stages.length + 1 ∧ Below w.heap.size w wr ∧ Blk wr w.heap.size 30 cs ∧ v = .string (bs (P ++ stT true (q.stages.take k)))
def RpI (w : World) (cs : Array Value) (P : Bs) (v : Value) (wr : World) : Prop := v = .string (bs P) ∧ Below w.heap.size w wr ∧ Blk wr w.heap.size 30 cs
set_option maxRecDepth 100000 in
set_option maxHeartbeats 8000000 in
theorem rPrint_no (w : World) (v : Value) (l : Ln) (h : RowRd 101 plV (NPp 51 39 112 109) w v l.parts) (hlim : LnIn l) (ev : Int) (hev : lchk l = ev) (hz : ev ≠ 0) :
    Calls Try.prog 36 #[.agg #[v, .bool l.bg]] w fun e w' => PrtP w l e w' := by
  obtain ⟨A, c, rfl, xa⟩ := h.form
  have HV := Lib.hid hev
  have HZ := Lib.hid hz
  have n1 : (ev == 0) = false := beq_false_of_ne hz
  have n2 : (ev != 0) = true := by simpa using hz
  have HB := Lib.hid ((Below.refl w.heap.size w).alloc (Nat.le_refl _) (.cells #[.slice A l.parts.length c, .bool l.bg] 30))
  have HR := Lib.hid (h.next HB.out (fun _ _ h => NPp.next h HB.out))
  have HI := Lib.hid hlim
  clear h hev hz hlim
  go_enter Try.func36, Try.ntmps36
  go_wp2_with (go_at_call 38; (with_reducible refine (rCheck_is _ _ l l.bg ev HR.out HI.out rfl HV.out).mono ?_); rintro e w1 ⟨rfl, hb1⟩; have HB1 := Lib.hid (HB.out.trans (hb1.mono HB.out.size)); clear hb1)
  go_ret2
  exact prt_ret (prtS_1 HV.out HZ.out) HB1.out
set_option maxRecDepth 100000 in
set_option maxHeartbeats 16000000 in
theorem rPrint_go (w : World) (v : Value) (l : Ln) (h : RowRd 101 plV (NPp 51 39 112 109) w v l.parts) (hlim : LnIn l) (hev : lchk l = 0) :
    Calls Try.prog 36 #[.agg #[v, .bool l.bg]] w fun e w' => PrtP w l e w' := by
  have h0 := lchk_0 hev
  have hall := pchks_0 h0.2.2
  have HQ := Lib.hid (show ∀ k (hk : k < l.parts.length), 0 ≤ (l.parts[k]).wh ∧ (l.parts[k]).wh < 3 ∧ (l.parts[k]).stages.length ≤ 8 ∧ (∀ c ∈ (l.parts[k]).stages, smNone c = false ∧ TxSm c) ∧ (stT true (l.parts[k]).stages).length ≤ 6000000000 from fun k hk => by
    have h1 := pchk_0 (hall k hk)
    have hin := (hlim.2 _ (List.getElem_mem hk)).2
    have hc : ∀ c ∈ (l.parts[k]).stages, smNone c = false ∧ TxSm c := fun c hc => by
      have h2 := schk_0 (h1.2.2.2.2.2 c hc)
      exact ⟨h2.1, (hin c hc).tx h2.2.1 h2.2.2.1⟩
    refine ⟨h1.1, by omega, h1.2.2.2.2.1, hc, ?_⟩
    have h3 := stT_len (l.parts[k]).stages true (fun c hc' => smT_len (hc c hc').2)
    have h4 : (l.parts[k]).stages.length * 700000003 ≤ 8 * 700000003 := Nat.mul_le_mul_right _ h1.2.2.2.2.1
    omega)
  have h16 : l.parts.length ≤ 16 := h0.2.1
  have HPT := Lib.hid (show ∀ k, (ptT true (l.parts.take k)).length ≤ 100000000000 from fun k => by
    have h1 := ptT_len (l.parts.take k) true (fun q hq => by
      obtain ⟨j, hj, rfl⟩ := List.getElem_of_mem (List.mem_of_mem_take hq)
      exact (HQ.out j hj).2.2.2.2)
    have h2 : (l.parts.take k).length ≤ 16 := by rw [List.length_take]; omega
    have h3 : (l.parts.take k).length * 6000000004 ≤ 16 * 6000000004 := Nat.mul_le_mul_right _ h2
    omega)
  have HV := Lib.hid hev
  have HI := Lib.hid hlim
  clear h0 hall hev hlim
  obtain ⟨A, c, rfl, xa, hA2⟩ := h.all plV_len
  have HA := Lib.hid hA2
  have HB := Lib.hid ((Below.refl w.heap.size w).alloc (Nat.le_refl _) (.cells #[.slice A l.parts.length c, .bool l.bg] 30))
  have HX := Lib.hid (Blk.new w 30 #[.slice A l.parts.length c, .bool l.bg])
  have HR := Lib.hid (h.next HB.out (fun _ _ h => NPp.next h HB.out))
  clear h hA2
  go_enter Try.func36, Try.ntmps36
  go_upto_region 1 with (fail)
  generalize (w.alloc (.cells #[.slice A l.parts.length c, .bool l.bg] 30)) = wa at *
  have x0 : wa.cell? ⟨w.heap.size, 0, none⟩ = some (.slice A l.parts.length c) := HX.out.cell 0
  have x1 : wa.cell? ⟨w.heap.size, 1, none⟩ = some (.bool l.bg) := HX.out.cell 1
  go_upto_region 4 with (go_at_call 38; (with_reducible refine (rCheck_is _ _ l l.bg 0 HR.out HI.out rfl HV.out).mono ?_); rintro e w1 ⟨rfl, hb1⟩; have HB1 := Lib.hid (HB.out.trans (hb1.mono HB.out.size)); have HX1 := Lib.hid (HX.out.next hb1 HX.out.lt); clear hb1)
  clear x0 x1 HB HX HR
  go_wp2
  go_loopg [5, 6] (l.parts.length + 1) (fun gk v i wr => RpP w #[.slice A l.parts.length c, .bool l.bg] l gk v i wr)
  case atStart => exact ⟨0, rfl, Nat.zero_le _, by omega, HB1.out, HX1.out, rfl⟩
  case round =>
    obtain ⟨k, rfl, hk, hgk, hb, hX, rfl⟩ := hrel
    have HX := Lib.hid hX
    have HB := Lib.hid hb
    clear hX HB1 HX1
    have x0 : wr.cell? ⟨w.heap.size, 0, none⟩ = some (.slice A l.parts.length c) := HX.out.cell 0
    have hxl := HX.out.lt
    by_cases hlt : k < l.parts.length
    · obtain ⟨b, o, u, rfl, hb0, hN, hx⟩ := HA.out k hlt
      obtain ⟨hw0, hw3, hs8, hcs, hst⟩ := HQ.out k hlt
      have HPN := Lib.hid (ptT_next l.parts k hlt)
      have hpt := HPT.out k
      obtain ⟨P, hP⟩ : ∃ P, ptT true (l.parts.take k) = P := ⟨_, rfl⟩
      rw [hP] at HPN hpt ⊢
      obtain ⟨q, hq⟩ : ∃ q, l.parts[k] = q := ⟨_, rfl⟩
      rw [hq] at hN hx hw0 hw3 hs8 hcs hst HPN
      clear hq hP
      obtain ⟨Au, cu, rfl, xq, hSt⟩ := RowRd.all (show RowRd 109 smV (NSp 51 39 112) w u q.stages from hN) smV_len
      have HSS := Lib.hid hSt
      have p0 := hx 0 _ rfl
      have p1 := hx 1 _ rfl
      rw [Nat.add_zero] at p0
      rw [← Nat.add_assoc] at p1
      have P1 := Lib.hid p1
      have hbr : b < wr.heap.size := Nat.lt_of_lt_of_le hb0 hb.size
      have e0 := ((bcell hb).1 b _ hb0).trans p0
      have i1 : (0 : Int) ≤ (k : Int) := by omega
      have i2 : (k : Int) < (l.parts.length : Int) := by omega
      have HCS := Lib.hid hcs
      clear hx p0 p1 hb hN hcs hSt
      go_upto_if 21 with (fail)
      go_cut [5] (fun s5 wx => RpI w #[.slice (some ⟨b, o, none⟩) l.parts.length c, .bool l.bg] (P ++ (if k = 0 then [] else sepT q.wh)) s5 wx)
      case first =>
        rcases Nat.eq_zero_or_pos k with h0 | h0
        · have f1 : decide ((0 : Int) < (k : Int)) = false := decide_eq_false (by omega)
          have f2 : ¬ 0 < k := by omega
          have HPE := Lib.hid (show P ++ (if k = 0 then [] else sepT q.wh) = P by rw [if_pos h0, List.append_nil])
          clear h0
          go_wp2_with fail
          go_meet
          case rel => exact ⟨by rw [HPE.out], HB.out, HX.out⟩
        · have f1 : decide ((0 : Int) < (k : Int)) = true := decide_eq_true (by omega)
          have f2 : 0 < k := h0
          have HPE := Lib.hid (show P ++ (if k = 0 then [] else sepT q.wh) = P ++ sepT q.wh by rw [if_neg (by omega)])
          have hz1 : (bs P).size ≤ 100000000000 := by rw [bs_size]; exact hpt
          have hz2 : (bs (sepT q.wh)).size ≤ 4 := by rw [bs_size]; exact sepT_len _
          obtain ⟨P2, hP2, hz3, S1⟩ := cat_is P (sepT q.wh) 100000000000 4 hz1 hz2 (by omega)
          have HS := Lib.hid (Blk.new wr 9 #[.string ⟨#[59, 32]⟩, .string ⟨#[32, 38, 38, 32]⟩, .string ⟨#[32, 124, 124, 32]⟩])
          have HB2 := Lib.hid (HB.out.alloc HB.out.size (.cells #[.string ⟨#[59, 32]⟩, .string ⟨#[32, 38, 38, 32]⟩, .string ⟨#[32, 124, 124, 32]⟩] 9))
          have HX2 := Lib.hid (HX.out.alloc (.cells #[.string ⟨#[59, 32]⟩, .string ⟨#[32, 38, 38, 32]⟩, .string ⟨#[32, 124, 124, 32]⟩] 9))
          have c5 : (wr.alloc (.cells #[.string ⟨#[59, 32]⟩, .string ⟨#[32, 38, 38, 32]⟩, .string ⟨#[32, 124, 124, 32]⟩] 9)).cell? ⟨wr.heap.size, q.wh.toNat, none⟩ = some (.string (bs (sepT q.wh))) := by
            rw [HS.out.cell]
            have : q.wh = 0 ∨ q.wh = 1 ∨ q.wh = 2 := by omega
            rcases this with h | h | h <;> rw [h] <;> rfl
          have hwi : (q.wh : Int) < 3 := hw3
          clear h0
          rcases (show q.wh = 0 ∨ q.wh = 1 ∨ q.wh = 2 by omega) with h | h | h
          all_goals
            have HWH := Lib.hid h
            rw [h] at e0
            have HSP := Lib.hid (show P2 = P ++ sepT q.wh from hP2.symm)
            rw [h] at S1
            clear c5 h hwi hw0 hw3
            go_wp2_with fail
            go_meet
            case rel => exact ⟨by rw [HPE.out, bs_app, HWH.out]; rfl, HB2.out, HX2.out⟩
      obtain ⟨rfl, hb, hX⟩ := hcut
      have HB0 := Lib.hid hb
      have HX0 := Lib.hid hX
      have HPE := Lib.hid (show ptT true (l.parts.take (k + 1)) = (P ++ (if k = 0 then [] else sepT q.wh)) ++ stT true q.stages from HPN.out)
      have hpt2 : (P ++ (if k = 0 then [] else sepT q.wh)).length ≤ 100000000004 := by
        have := sepT_len q.wh
        rw [List.length_append]
        split
        · simp; omega
        · omega
      generalize (P ++ (if k = 0 then [] else sepT q.wh)) = PP at *
      have HSL := Lib.hid (show ∀ j, (stT true (q.stages.take j)).length ≤ 6000000000 from fun j => by
        have h3 := stT_len (q.stages.take j) true (fun c hc => smT_len (HCS.out c (List.mem_of_mem_take hc)).2)
        have h4 : (q.stages.take j).length ≤ 8 := by rw [List.length_take]; omega
        have h5 : (q.stages.take j).length * 700000003 ≤ 8 * 700000003 := Nat.mul_le_mul_right _ h4
        omega)
      obtain ⟨gk0, rfl⟩ : ∃ gk0 : Nat, gk0 = gk := ⟨_, rfl⟩
      clear hb hX HB HX x0 hxl e0 hbr hpt HPN
      go_wp2
      go_loopg [5, 7] (q.stages.length + 1) (fun gk v i wr => RpS w #[.slice (some ⟨b, o, none⟩) l.parts.length c, .bool l.bg] PP q gk v i wr)
      case atStart => exact ⟨0, rfl, Nat.zero_le _, by omega, HB0.out, HX0.out, str_eq (by rw [List.take_zero]; simp [stT])⟩
      case round =>
        obtain ⟨j, rfl, hj, hgj, hb, hX, rfl⟩ := hrel
        have HX := Lib.hid hX
        have HB := Lib.hid hb
        clear hX
        have x0 : wr.cell? ⟨w.heap.size, 0, none⟩ = some (.slice (some ⟨b, o, none⟩) l.parts.length c) := HX.out.cell 0
        have hxl := HX.out.lt
        have hbr : b < wr.heap.size := Nat.lt_of_lt_of_le hb0 hb.size
        have e1 := ((bcell hb).1 b _ hb0).trans P1.out
        by_cases hjl : j < q.stages.length
        · obtain ⟨b3, o3, u4, rfl, hb3, hN, hx⟩ := HSS.out j hjl
          obtain ⟨hne, htx⟩ := HCS.out q.stages[j] (List.getElem_mem hjl)
          have HPN := Lib.hid (stT_next q.stages j hjl)
          have hsl := HSL.out j
          obtain ⟨d, hd⟩ : ∃ d, q.stages[j] = d := ⟨_, rfl⟩
          rw [hd] at hN hx hne htx HPN
          clear hd
          have HP3 := Lib.hid (show PP ++ stT true (q.stages.take (j + 1)) = ((PP ++ stT true (q.stages.take j)) ++ (if j = 0 then [] else [32, 124, 32])) ++ smT d by rw [HPN.out]; simp)
          have hP2 : (PP ++ stT true (q.stages.take j)).length ≤ 200000000000 := by rw [List.length_append]; omega
          obtain ⟨P2, hp2⟩ : ∃ P2, PP ++ stT true (q.stages.take j) = P2 := ⟨_, rfl⟩
          rw [hp2] at HP3 hP2 ⊢
          clear hp2 HPN hsl
          obtain ⟨sa, na, sb, nb, si, ni, so, no, rfl⟩ := hN.forms
          have p0 := hx 0 _ rfl
          have p1 := hx 1 _ rfl
          have p2 := hx 2 _ rfl
          have p3 := hx 3 _ rfl
          have p4 := hx 4 _ rfl
          rw [← Nat.add_assoc] at p1 p2 p3 p4
          rw [Nat.add_zero] at p0
          have f0 := ((bcell hb).1 b3 _ hb3).trans p0
          have f1 := ((bcell hb).1 b3 _ hb3).trans p1
          have f2 := ((bcell hb).1 b3 _ hb3).trans p2
          have f3 := ((bcell hb).1 b3 _ hb3).trans p3
          have f4 := ((bcell hb).1 b3 _ hb3).trans p4
          have hbr3 : b3 < wr.heap.size := Nat.lt_of_lt_of_le hb3 hb.size
          have i3 : (0 : Int) ≤ (j : Int) := by omega
          have i4 : (j : Int) < (q.stages.length : Int) := by omega
          have HTX := Lib.hid htx
          have HNE := Lib.hid hne
          have HNC := Lib.hid (show NSp 51 39 112 wr _ d from NSp.next (w := w) hN hb)
          have htl := smT_len htx
          obtain ⟨T, hT⟩ : ∃ T, smT d = T := ⟨_, rfl⟩
          have HTT := Lib.hid hT
          have hT8 : T.length ≤ 700000000 := by rw [← hT]; exact htl
          rw [hT] at HP3
          have hzT : (bs T).size ≤ 700000000 := by rw [bs_size]; exact hT8
          have hzP : (bs P2).size ≤ 200000000000 := by rw [bs_size]; exact hP2
          clear hx p0 p1 p2 p3 p4 hb hN hne htx htl hT
          rcases Nat.eq_zero_or_pos j with h0 | h0
          · have g1 : decide ((0 : Int) < (j : Int)) = false := decide_eq_false (by omega)
            have g2 : ¬ 0 < j := by omega
            obtain ⟨P3, hP3, hy3, S2⟩ := cat_is P2 T 200000000000 700000000 hzP hzT (by omega)
            have HQ3 := Lib.hid (show PP ++ stT true (q.stages.take (j + 1)) = P3 by rw [HP3.out, if_pos h0, List.append_nil, hP3])
            have H0 := Lib.hid h0
            clear h0 hP3
            go_wp2_with (go_at_call 66; (with_reducible refine (rcmd_is _ _ _ _ _ d d.app T HNC.out HTX.out HNE.out rfl HTT.out).mono ?_); rintro e w5 ⟨rfl, hb5⟩; have HB5 := Lib.hid (HB.out.trans (hb5.mono HB.out.size)); have HX5 := Lib.hid (HX.out.next hb5 HX.out.lt); clear hb5)
            go_roundg (gk - 1)
            case rel => exact ⟨j + 1, by go_num, by omega, by omega, HB5.out, HX5.out, str_eq (by rw [HQ3.out])⟩
            case measure => omega
          · have g1 : decide ((0 : Int) < (j : Int)) = true := decide_eq_true (by omega)
            have g2 : 0 < j := h0
            obtain ⟨P3, hP3, hy3, S1⟩ := cat_lit P2 [32, 124, 32] 200000000000 hzP (by decide)
            obtain ⟨P4, hP4, hy4, S2⟩ := cat_is P3 T 200000000003 700000000 hy3 hzT (by omega)
            have HQ3 := Lib.hid (show PP ++ stT true (q.stages.take (j + 1)) = P4 by rw [HP3.out, if_neg (by omega), hP3, hP4])
            clear h0 hP3 hP4
            go_wp2_with (go_at_call 66; (with_reducible refine (rcmd_is _ _ _ _ _ d d.app T HNC.out HTX.out HNE.out rfl HTT.out).mono ?_); rintro e w5 ⟨rfl, hb5⟩; have HB5 := Lib.hid (HB.out.trans (hb5.mono HB.out.size)); have HX5 := Lib.hid (HX.out.next hb5 HX.out.lt); clear hb5)
            go_roundg (gk - 1)
            case rel => exact ⟨j + 1, by go_num, by omega, by omega, HB5.out, HX5.out, str_eq (by rw [HQ3.out])⟩
            case measure => omega
        · obtain rfl : j = q.stages.length := by omega
          have HPZ := Lib.hid (show PP ++ stT true (q.stages.take q.stages.length) = ptT true (l.parts.take (k + 1)) by rw [HPE.out, List.take_length])
          clear hb
          go_wp2
          go_roundg (gk0 - 1)
          case rel => exact ⟨k + 1, by go_num, by omega, by omega, HB.out, HX.out, str_eq (by rw [HPZ.out])⟩
          case measure => omega
    · obtain rfl : k = l.parts.length := by omega
      have hpt := HPT.out l.parts.length
      obtain ⟨P, hP⟩ : ∃ P, ptT true (l.parts.take l.parts.length) = P := ⟨_, rfl⟩
      rw [hP] at hpt ⊢
      have HLN := Lib.hid (show lnT l = P ++ if l.bg then [32, 38] else [] by unfold lnT; rw [← hP, List.take_length])
      have x1 : wr.cell? ⟨w.heap.size, 1, none⟩ = some (.bool l.bg) := HX.out.cell 1
      have hxl := HX.out.lt
      have hz : (bs P).size ≤ 100000000000 := by rw [bs_size]; exact hpt
      clear hb hP
      cases hbg : l.bg with
      | false =>
        rw [hbg] at x1 HLN
        have HL2 := Lib.hid (show lnT l = P by rw [HLN.out]; simp)
        clear hbg
        by_cases hlong : 1024 < P.length
        · have d1 : decide ((1024 : Int) < ((bs P).size : Int)) = true := decide_eq_true (by rw [bs_size]; omega)
          have d2 : 1024 < (bs P).size := by rw [bs_size]; exact hlong
          have HR2 := Lib.hid (prtS_2 HV.out (by rw [HL2.out]; exact hlong))
          clear hlong
          go_wp2
          go_ret2
          exact prt_ret HR2.out HB.out
        · have d1 : decide ((1024 : Int) < ((bs P).size : Int)) = false := decide_eq_false (by rw [bs_size]; omega)
          have d2 : ¬ 1024 < (bs P).size := by rw [bs_size]; exact hlong
          have HR2 := Lib.hid (prtS_3 HV.out (by rw [HL2.out]; exact hlong))
          clear hlong
          go_wp2
          go_ret2
          rw [← HL2.out]
          exact prt_ret HR2.out HB.out
      | true =>
        rw [hbg] at x1 HLN
        have HL2 := Lib.hid (show lnT l = P ++ [32, 38] by rw [HLN.out]; simp)
        have S1 := str_add (bs P) (⟨#[32, 38]⟩ : ByteArray) (bs (P ++ [32, 38])) (by show (bs P).size + 2 ≤ _; omega) (bs_app _ _).symm
        have hz4 : (bs (P ++ [32, 38])).size ≤ 100000000002 := by rw [bs_size, List.length_append]; simp; omega
        clear hbg
        obtain ⟨P2, hP2⟩ : ∃ P2, P ++ [32, 38] = P2 := ⟨_, rfl⟩
        rw [hP2] at S1 HL2 hz4
        clear hP2
        by_cases hlong : 1024 < P2.length
        · have d1 : decide ((1024 : Int) < ((bs P2).size : Int)) = true := decide_eq_true (by rw [bs_size]; omega)
          have d2 : 1024 < (bs P2).size := by rw [bs_size]; exact hlong
          have HR2 := Lib.hid (prtS_2 HV.out (by rw [HL2.out]; exact hlong))
          clear hlong
          go_wp2
          go_ret2
          exact prt_ret HR2.out HB.out
        · have d1 : decide ((1024 : Int) < ((bs P2).size : Int)) = false := decide_eq_false (by rw [bs_size]; omega)
          have d2 : ¬ 1024 < (bs P2).size := by rw [bs_size]; exact hlong
          have HR2 := Lib.hid (prtS_3 HV.out (by rw [HL2.out]; exact hlong))
          clear hlong
          go_wp2
          go_ret2
          rw [← HL2.out]
          exact prt_ret HR2.out HB.out
theorem rPrint_any (w : World) (v : Value) (l : Ln) (h : RowRd 101 plV (NPp 51 39 112 109) w v l.parts) (hlim : LnIn l) :
    Calls Try.prog 36 #[.agg #[v, .bool l.bg]] w fun e w' => PrtP w l e w' := by
  by_cases hz : lchk l = 0
  · exact rPrint_go w v l h hlim hz
  · exact rPrint_no w v l h hlim _ rfl hz
end Go.Proofs.Ytiddchpkmcncdaa
