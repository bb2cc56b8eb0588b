/- Walks of layer 21: Print. -/
import Derived.Test.YtdhfkokinnmfhaaDoorS1
import Derived.Test.YtdhfkokinnmfhaaDoorQ14
namespace Go.Proofs.YtdhfkokinnmfhaaDoor
open Go.RowKit
set_option linter.unusedSimpArgs false
set_option linter.unusedVariables false
theorem info9 : (Tryd.prog.info? 9).map (fun i => (i.zero, i.size, i.bytes)) = some (some (.string ⟨#[]⟩), 1, 16) := by kernel_rfl
theorem new1s (w : World) (n : Nat) (hn : w.heap.size = n) (v0 : Value) (t : TypeId) (j : Nat) (u : Value) (h : [v0][j]? = some u) : (w.alloc (.cells #[v0] t)).cell? ((⟨n, 0, none⟩ : Addr).add j) = some u := by
  subst hn; exact new1 w v0 t j u h
def strC (X : Nat → ByteArray) (m : Nat) : List Value := (List.range m).map fun i => Value.string (X i)
theorem strC_snoc (X : Nat → ByteArray) (m : Nat) : strC X (m + 1) = strC X m ++ [.string (X m)] := by unfold strC; rw [List.range_succ, List.map_append]; rfl
set_option maxRecDepth 100000 in
set_option maxHeartbeats 2000000 in
theorem print_any (g n cap : Nat) (t : ByteArray) (l : List (Att × Nat)) (w : World) (hn : n = l.length + 1) (hn2 : n ≤ 4000) (hS : scanS t = .ok l) (hts : t.size ≤ 4000) (hT : Toks w g t (toksL t l)) :
    Calls Tryd.prog 26 #[.slice (some ⟨g, 0, none⟩) n cap] w fun e w' => e = .returned (.string (txF spS (textAt t l) l.length)) ∧ Below w.heap.size w w' := by
  obtain ⟨i0, hi, hz0, hz1, hzb⟩ := info_parts info9
  have HN := Lib.hid hn
  have HS := Lib.hid hS
  have HLEN := Lib.hid (toksL_len t l)
  have HKIND : Hid (∀ (i : Nat) (u : Att × Nat), i < l.length → (toksL t l)[i]? = some u → u.1.kind ≠ 0) := fun i u hi hu => by
    rcases toksL_at t l i u hu with ⟨_, h1⟩ | ⟨h1, _⟩
    · exact tok_kind _ (scan_tok t l hS u (List.mem_of_getElem? h1))
    · omega
  have hll : l.length ≤ 4000 := by omega
  clear hn hS
  go_enter Tryd.func26, Tryd.ntmps26
  go_wp2
  go_loopw [3, 8] (fun v i wr => ∃ k : Nat, k ≤ n ∧ i = .int .i64 k ∧ wr.ownsRow w.heap.size 9 1 v (min k l.length) (strC (textAt t l) (min k l.length)) ∧ Below w.heap.size w wr) (fun _ i _ => n - (intOf i).toNat)
  case atStart => exact ⟨0, Nat.zero_le _, rfl, by rw [Nat.zero_min]; exact ⟨rfl, .inl ⟨rfl, rfl⟩⟩, Below.refl _ _⟩
  case round =>
    obtain ⟨k, hk, rfl, hown, hb⟩ := hrel
    have hbs := hb.size
    by_cases hlt : k < n
    · obtain ⟨u, hu⟩ : ∃ u, (toksL t l)[k]? = some u := ⟨_, List.getElem?_eq_getElem (by rw [HLEN.out, ← HN.out]; exact hlt)⟩
      have hTr := hT.next hb
      obtain ⟨c0, c1, c2, c3, c4, c5⟩ := hTr.2 k u hu
      have hgl := hTr.1
      have HTX := Lib.hid (textAt_eq t l k u hu)
      by_cases hkl : k < l.length
      · have hkd := HKIND.out k u hkl hu
        have hkd' : (u.1.kind != 0) = true := by simpa using hkd
        obtain ⟨⟨kind, text, value, bytes, size, off, e0⟩, q⟩ := u
        simp only at c0 c1 c2 c3 c4 c5 hkd'
        have HM := Lib.hid (show min k l.length = k by omega)
        rw [HM.out] at hown
        clear hu hkd
        go_wp2_with (at_builtin; refine wpList_append_own _ rfl _ _ 40 rfl w.heap.size 9 i0 (.string ⟨#[]⟩) 1 16 Tryd.underlying40 hi hz0 hz1 hzb rfl (by decide) _ _ _ rfl ((hown.alloc _).alloc _) ⟨wr.heap.size + 1, 0, none⟩ 1 1 [.string text] rfl rfl ?c1 ?c2 ?c3 ?c4 ?c5 ?_)
        case c2 => rfl
        case c3 => unfold maxLen; omega
        case c4 => omega
        case c5 => omega
        intro v' w3 hown3 hg3 _
        have hB3 : Below w.heap.size w w3 := ((hb.alloc hbs _).alloc (by simp; omega) _).grown hg3 (by simp; omega) (fun g hg => own_ge hown hg)
        have HOWN := Lib.hid (show w3.ownsRow w.heap.size 9 1 v' (min (k + 1) l.length) (strC (textAt t l) (min (k + 1) l.length)) by
          rw [show min (k + 1) l.length = k + 1 by omega, strC_snoc, HTX.out]; exact hown3)
        clear hown hown3 hg3 hb
        go_wp2
        go_roundw
        case rel => exact ⟨k + 1, by omega, by go_num, HOWN.out, hB3⟩
        case measure => simp [intOf]; omega
      · have hke : k = l.length := by have := HN.out; omega
        have hlast : u = (endA, t.size) := by
          rcases toksL_at t l k u hu with ⟨h1, _⟩ | ⟨_, h1⟩
          · omega
          · exact h1
        have hk0 : wr.cell? ⟨g, k * 6, none⟩ = some (.int .i64 0) := by rw [c0, hlast]; rfl
        obtain ⟨⟨kind, text, value, bytes, size, off, e0⟩, q⟩ := u
        simp only at c0 c1 c2 c3 c4 c5
        have HOWN := Lib.hid (show wr.ownsRow w.heap.size 9 1 u3 (min (k + 1) l.length) (strC (textAt t l) (min (k + 1) l.length)) by
          rw [show min (k + 1) l.length = min k l.length by omega]; exact hown)
        clear hown hu hlast hke c0
        go_wp2
        go_roundw
        case rel => exact ⟨k + 1, by omega, by go_num, HOWN.out.alloc _, hb.alloc hbs _⟩
        case measure => simp [intOf]; omega
    · have HM := Lib.hid (show min k l.length = l.length by have := HN.out; omega)
      rw [HM.out] at hown
      have HJ := Lib.hid (join_tx (textAt t l) l.length)
      have hsz := tx_bd t l HS.out spS 1 spS_size l.length (by omega)
      by_cases h0 : l.length = 0
      · obtain ⟨_, ⟨rfl, _⟩ | ⟨gv, vc, cur, rfl, _⟩⟩ := id hown
        · have HT0 := Lib.hid (show txF spS (textAt t l) l.length = ⟨#[]⟩ by rw [h0]; rfl)
          clear h0
          go_wp2_with (go_at_call 40; refine (Tryd.strings_Join_none _ _ _ _).mono ?_; rintro e w' ⟨rfl, rfl⟩)
          go_ret
          exact ⟨by rw [HT0.out]; rfl, hb⟩
        · have HT0 := Lib.hid (show txF spS (textAt t l) l.length = ⟨#[]⟩ by rw [h0]; rfl)
          rw [h0]
          clear h0
          go_wp2_with (go_at_call 40; refine (Tryd.strings_Join_none _ _ _ _).mono ?_; rintro e w' ⟨rfl, rfl⟩)
          go_ret
          exact ⟨by rw [HT0.out]; rfl, hb⟩
      · obtain ⟨_, ⟨_, h1⟩ | ⟨gv, vc, cur, rfl, hgv, hcur, hvc, _⟩⟩ := id hown
        · exact absurd h1 h0
        have hgl := sc_lt hcur
        have HX := Lib.hid (show ((List.range l.length).map (textAt t l)).length = l.length by simp)
        have HC : Hid (∀ (j : Nat) x, ((List.range l.length).map (textAt t l))[j]? = some x → wr.cell? ⟨gv, 0 + j, none⟩ = some (.string x)) := fun j x hx => by
          have hj : j < l.length := by have := (List.getElem?_eq_some_iff.1 hx).1; simpa using this
          obtain ⟨_, _, hc, _⟩ := own_cell hown j (by simp [strC]; exact hj)
          rw [Nat.zero_add, hc]
          simp [strC, hj] at hx ⊢
          exact hx
        have HJ2 := Lib.hid (show Lib.join (((List.range l.length).map (textAt t l)).map (·.data.toList)) [32] = (txF spS (textAt t l) l.length).data.toList by rw [List.map_map]; exact HJ.out)
        go_wp2_with fail
        have hjoin := Tryd.strings_Join gv 0 vc ((List.range l.length).map (textAt t l)) ⟨#[32]⟩ wr HC.out hgl (by rw [HX.out]; omega) (by rw [HX.out]; exact hvc) (by show (Lib.join _ [32]).length ≤ _; rw [HJ2.out]; simp; omega)
        rw [HX.out] at hjoin
        have hj2 : Calls Tryd.prog 40 #[.slice (some ⟨gv, 0, none⟩) l.length vc, .string ⟨#[32]⟩] wr fun e w' => e = .returned (.string (txF spS (textAt t l) l.length)) ∧ Below wr.heap.size wr w' := hjoin.mono fun e w' hh => by
          refine ⟨hh.1.trans ?_, hh.2⟩
          have e1 : (⟨(Lib.join (((List.range l.length).map (textAt t l)).map (·.data.toList)) [32]).toArray⟩ : ByteArray) = txF spS (textAt t l) l.length := by rw [HJ2.out]
          exact congrArg (fun x => Ending.returned (.string x)) e1
        clear hjoin
        refine hj2.mono ?_
        rintro e w5 ⟨rfl, k5⟩
        go_wp2
        go_ret
        exact ⟨rfl, bnext hb k5⟩
end Go.Proofs.YtdhfkokinnmfhaaDoor
