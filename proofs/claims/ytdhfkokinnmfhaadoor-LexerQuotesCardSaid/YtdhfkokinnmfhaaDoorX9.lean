/- Walks of layer 21: quoted. -/
import Derived.Test.YtdhfkokinnmfhaaDoorX5
import Derived.Test.YtdhfkokinnmfhaaDoorQ3
import Derived.OwnWalk
import Derived.RegionTactic
import Derived.BigRegion
namespace Go.Proofs.YtdhfkokinnmfhaaDoor
open Go.RowKit
set_option linter.unusedSimpArgs false
set_option linter.unusedVariables false
theorem bcell {W w1 : World} {B : Nat} (hb : Below B W w1) : (∀ b o, b < B → w1.cell? ⟨b, o, none⟩ = W.cell? ⟨b, o, none⟩) ∧ (∀ b o, b < B → w1.frozen? ⟨b, o, none⟩ = W.frozen? ⟨b, o, none⟩) :=
  ⟨fun b o h => hb.cell (p := ⟨b, o, none⟩) h, fun b o h => hb.frozen (p := ⟨b, o, none⟩) h⟩
theorem own_next {w w' : World} {base : Nat} {e : TypeId} {size : Nat} {v : Value} {n : Nat} {xs : List Value} (h : w.ownsRow base e size v n xs) (hb : Below w.heap.size w w') : w'.ownsRow base e size v n xs := by
  obtain ⟨h1, h2⟩ := h
  refine ⟨h1, ?_⟩
  rcases h2 with h2 | ⟨g, cap, cur, hv, hg, hh, r⟩
  · exact .inl h2
  · have hlt : g < w.heap.size := (Array.getElem?_eq_some_iff.1 hh).1
    exact .inr ⟨g, cap, cur, hv, hg, by rw [hb.block g hlt]; exact hh, r⟩
theorem own_ge {w : World} {base : Nat} {e : TypeId} {size : Nat} {v : Value} {n : Nat} {xs : List Value} (h : w.ownsRow base e size v n xs) {g : Nat} (hg : v.ownBlock = some g) : base ≤ g := by
  obtain ⟨_, ⟨rfl, _⟩ | ⟨g', cap', cur, rfl, hb, _⟩⟩ := h
  · simp [Value.ownBlock] at hg
  · simp [Value.ownBlock] at hg
    omega
theorem own_cell {w : World} {base : Nat} {e : TypeId} {size : Nat} {g off len cap : Nat} {n : Nat} {xs : List Value} (h : w.ownsRow base e size (.slice (some ⟨g, off, none⟩) len cap) n xs) (i : Nat) (hi : i < xs.length) : off = 0 ∧ len = n ∧ w.cell? ⟨g, i, none⟩ = xs[i]? ∧ g < w.heap.size := by
  obtain ⟨h1, h2⟩ := h
  rcases h2 with ⟨h2, _⟩ | ⟨g', cap', cur, hv, hg, hh, hn, hc, hcs, hx⟩
  · cases h2
  · cases hv
    refine ⟨rfl, rfl, ?_, (Array.getElem?_eq_some_iff.1 hh).1⟩
    have e : w.cell? ⟨g, i, none⟩ = cur[i]? := by simp [World.cell?, hh]
    rw [e, ← hx, List.getElem?_take, if_pos (by rw [← h1]; exact hi)]
    simp
theorem new1 (w : World) (v0 : Value) (t : TypeId) (j : Nat) (u : Value) (h : [v0][j]? = some u) : (w.alloc (.cells #[v0] t)).cell? ((⟨w.heap.size, 0, none⟩ : Addr).add j) = some u := by
  have e : (w.alloc (.cells #[v0] t)).heap[w.heap.size]? = some (.cells #[v0] t) := by
    show (w.heap.push _)[w.heap.size]? = _
    simp
  have e2 : ((⟨w.heap.size, 0, none⟩ : Addr).add j) = ⟨w.heap.size, j, none⟩ := by
    unfold Addr.add
    split
    · rename_i h; subst h; rfl
    · simp
  rw [e2]
  simp only [World.cell?, e]
  simpa using h
theorem below9 {B : Nat} {W w : World} (g : Nat) (hg : B ≤ g) (v0 v1 v2 v3 v4 v5 v6 v7 v8 : Value) (h : Below B W w) : Below B W (((((((((w.setCell ⟨g, 0, none⟩ v0).setCell ⟨g, 1, none⟩ v1).setCell ⟨g, 2, none⟩ v2).setCell ⟨g, 3, none⟩ v3).setCell ⟨g, 4, none⟩ v4).setCell ⟨g, 5, none⟩ v5).setCell ⟨g, 6, none⟩ v6).setCell ⟨g, 7, none⟩ v7).setCell ⟨g, 8, none⟩ v8) :=
  ((((((((h.setCell hg _).setCell hg _).setCell hg _).setCell hg _).setCell hg _).setCell hg _).setCell hg _).setCell hg _).setCell hg _
theorem info5 : (Tryd.prog.info? 5).map (fun i => (i.zero, i.size, i.bytes)) = some (some (.int .u8 0), 1, 1) := by kernel_rfl
/-- Bytes that a slice of the call's own holds, as a text. -/
theorem own_text {w : World} {base : Nat} {v : Value} {acc : List Int} (h : w.ownsRow base 5 1 v acc.length (acc.map (Value.int .u8))) : (convert 42 9 v).run Tryd.prog w = .ok (.string (strOfNums acc)) w := by
  obtain ⟨h1, h2⟩ := id h
  rcases h2 with ⟨rfl, h2⟩ | ⟨g, cap, cur, rfl, hg, hh, _⟩
  · have : acc = [] := by simpa using h2
    subst this
    exact run_convert_bytes_nil w 42 5 Tryd.underlying42 Tryd.underlying5 0 0 9 Tryd.underlying9
  · refine run_convert_bytes_arg w 42 5 Tryd.underlying42 Tryd.underlying5 g 0 acc.length cap acc rfl (fun i hi => ?_) 9 Tryd.underlying9
    obtain ⟨_, _, hc, _⟩ := own_cell h i (by simpa using hi)
    rw [Nat.zero_add, hc]
    simp [hi]
set_option maxRecDepth 100000 in
set_option maxHeartbeats 4000000 in
theorem quoted_any (s : ByteArray) (w : World) (ho : EscAt w) (h : 0 < s.size) (hs : s.size ≤ 100000) :
    Calls Tryd.prog 46 #[.string s] w fun e w' => e = .returned (attR (quoS s)) ∧ Below w.heap.size w w' := by
  have hx := bt_of s 0 h
  by_cases h1 : bt s 0 ≠ 34
  · have HS := Lib.hid (show quoS s = none by unfold quoS; rw [if_pos h1])
    have h1' : (bt s 0 != 34) = true := by simpa using h1
    clear h1
    go_enter Tryd.func46, Tryd.ntmps46
    go_wp2
    refine bodyPost_ret (v := attR none) (by simp [results, Tryd.results46, go_sem, attR, attV, attE]) rfl ⟨by rw [HS.out], (Below.refl _ _).alloc (Nat.le_refl _) _⟩
  have h1' : (bt s 0 != 34) = false := by simpa using h1
  have HS := Lib.hid (show quoS s = some (quoL s s.size 1 []) by unfold quoS; rw [if_neg h1])
  obtain ⟨fu, hfu⟩ : ∃ fu, s.size = fu + 1 := ⟨s.size - 1, by omega⟩
  have HFU := Lib.hid hfu
  clear h1 hfu
  obtain ⟨i0, hi, hz0, hz1, hz2⟩ := info_parts info5
  go_enter Tryd.func46, Tryd.ntmps46
  go_wp2
  clear h1' hx
  go_loopw [4, 5] (fun v at' wr => ∃ (k : Nat) (acc : List Int), 1 ≤ k ∧ k ≤ s.size ∧ acc.length ≤ k ∧ at' = .int .i64 k ∧ wr.ownsRow (w.heap.size + 1) 5 1 v acc.length (acc.map (Value.int .u8)) ∧ Below (w.heap.size + 1) (w.alloc (.cells #[.int .i64 0, .string ⟨#[]⟩, .int .i64 0, .string ⟨#[]⟩, .int .i64 0, .int .i64 0, .int .i64 0, .int .i64 0, .int .i64 0] 55)) wr ∧ quoL s s.size 1 [] = quoL s s.size k acc) (fun _ a _ => s.size - (intOf a).toNat)
  case atStart => exact ⟨1, [], Nat.le_refl _, h, by simp, rfl, ⟨rfl, .inl ⟨rfl, rfl⟩⟩, Below.refl _ _, rfl⟩
  case round =>
    obtain ⟨k, acc, hk1, hk, hacc, rfl, hown, hb, hQ⟩ := hrel
    have hQ2 : Hid (quoL s s.size 1 [] = _) := hQ.trans ((congrArg (fun f => quoL s f k acc) HFU.out).trans (quoL_step s fu k acc))
    clear hQ
    have ho' : EscAt wr := (ho.next ((Below.refl _ _).alloc (Nat.le_refl _) _)).next (hb.mono (by simp))
    by_cases hq : k < s.size ∧ bt s k = 34
    · obtain ⟨hlt, hq⟩ := hq
      have hbk := bt_of s k hlt
      have e1 : ((k : Int) == (s.size : Int)) = false := beq_false_of_ne (by omega)
      have e2 : (bt s k != 34) = false := by simpa using hq
      have HQ := Lib.hid (hQ2.out.trans (if_pos ⟨hlt, hq⟩))
      clear hQ2 hq
      have htx := own_text hown.drew
      by_cases hl : 200 < acc.length
      · have HQ2 := Lib.hid (HQ.out.trans (if_pos hl))
        clear HQ
        obtain ⟨hc, hf⟩ := bcell hb
        obtain ⟨_, ⟨rfl, h0⟩ | ⟨g, vc, cur, rfl, _⟩⟩ := id hown
        · have : acc = [] := by simpa using h0
          subst this; simp at hl
        go_wp2
        refine bodyPost_ret (v := attR (some (attE 0 5))) (by simp [results, Tryd.results46, go_sem, attR, attV, attE, hc]) rfl ⟨by rw [HS.out, HQ2.out], ?_⟩
        exact below9 _ (Nat.le_refl _) _ _ _ _ _ _ _ _ _ (((Below.refl _ _).alloc (Nat.le_refl _) _).trans (hb.mono (Nat.le_succ _)))
      · have HQ2 := Lib.hid (HQ.out.trans (if_neg hl))
        clear HQ
        obtain ⟨hc, hf⟩ := bcell hb
        obtain ⟨_, ⟨rfl, h0⟩ | ⟨g, vc, cur, rfl, _⟩⟩ := id hown
        · have h00 : acc = [] := by simpa using h0
          subst h00
          go_wp2
          go_region
          all_goals
            go_wp2
            refine bodyPost_ret (v := attR (some (⟨3, s.extract 0 (k + 1), 0, strOfNums [], k + 1, 0, 0⟩ : Att))) (by simp [results, Tryd.results46, go_sem, attR, attV, attE, hc]) rfl ⟨by rw [HS.out, HQ2.out], ?_⟩
            exact (below9 _ (Nat.le_refl _) _ _ _ _ _ _ _ _ _ (((Below.refl _ _).alloc (Nat.le_refl _) _).trans (hb.mono (Nat.le_succ _)))).drew
        · go_wp2
          go_region
          all_goals
            go_wp2
            refine bodyPost_ret (v := attR (some (⟨3, s.extract 0 (k + 1), 0, strOfNums acc, k + 1, 0, 0⟩ : Att))) (by simp [results, Tryd.results46, go_sem, attR, attV, attE, hc]) rfl ⟨by rw [HS.out, HQ2.out], ?_⟩
            exact (below9 _ (Nat.le_refl _) _ _ _ _ _ _ _ _ _ (((Below.refl _ _).alloc (Nat.le_refl _) _).trans (hb.mono (Nat.le_succ _)))).drew
    · have HQ := Lib.hid (hQ2.out.trans (if_neg hq))
      clear hQ2
      by_cases he : (oneS s k 34).2.2 ≠ 0
      · obtain ⟨b, a, e0, hO⟩ := oneS_trip s k 34
        rw [hO] at he
        have HQ2 := Lib.hid (HQ.out.trans (if_pos (by rw [hO]; exact he)))
        rw [hO] at HQ2
        have he' : (e0 != 0) = true := by simpa using he
        have HO := Lib.hid hO
        clear HQ hO he
        obtain ⟨hc, hf⟩ := bcell hb
        by_cases hks : k = s.size
        · have e1 : ((k : Int) == (s.size : Int)) = true := by simp; omega
          clear hq hks
          go_wp2_with (go_at_call 58; refine (one_any s k 34 _ ho' hk hs).mono ?_; rintro e w' ⟨rfl, rfl⟩; rw [HO.out, trip])
          refine bodyPost_ret (v := attR (some (attE a e0))) (by simp [results, Tryd.results46, go_sem, attR, attV, attE, hc]) rfl ⟨by rw [HS.out, HQ2.out], ?_⟩
          exact below9 _ (Nat.le_refl _) _ _ _ _ _ _ _ _ _ (((Below.refl _ _).alloc (Nat.le_refl _) _).trans (hb.mono (Nat.le_succ _)))
        · have e1 : ((k : Int) == (s.size : Int)) = false := beq_false_of_ne (by omega)
          have hlt : k < s.size := by omega
          have hbk := bt_of s k hlt
          have e2 : (bt s k != 34) = true := by rw [bne_iff_ne]; exact fun h => hq ⟨hlt, h⟩
          clear hq hks
          go_wp2_with (go_at_call 58; refine (one_any s k 34 _ ho' hk hs).mono ?_; rintro e w' ⟨rfl, rfl⟩; rw [HO.out, trip])
          refine bodyPost_ret (v := attR (some (attE a e0))) (by simp [results, Tryd.results46, go_sem, attR, attV, attE, hc]) rfl ⟨by rw [HS.out, HQ2.out], ?_⟩
          exact below9 _ (Nat.le_refl _) _ _ _ _ _ _ _ _ _ (((Below.refl _ _).alloc (Nat.le_refl _) _).trans (hb.mono (Nat.le_succ _)))
      · obtain ⟨b, m, hO, hm1, hm2, hb0, hb1, hlt⟩ := oneS_ok s k 34 hk (by simpa using he)
        have HQ2 := Lib.hid (show quoL s s.size 1 [] = quoL s s.size m (acc ++ [b]) from (HQ.out.trans (if_neg he)).trans (by rw [hO]; exact (quoL_fuel s fu s.size m (acc ++ [b]) hm2 (by have := HFU.out; omega) (by omega))))
        have HO := Lib.hid hO
        have e1 : ((k : Int) == (s.size : Int)) = false := beq_false_of_ne (by omega)
        have hbk := bt_of s k hlt
        have e2 : (bt s k != 34) = true := by rw [bne_iff_ne]; exact fun h => hq ⟨hlt, h⟩
        have HL := Lib.hid (show (acc ++ [b]).length = acc.length + 1 by simp)
        have HM := Lib.hid (show (acc ++ [b]).map (Value.int .u8) = acc.map (Value.int .u8) ++ [.int .u8 b] by simp)
        clear HQ hO he hq
        have hbs := hb.size
        simp at hbs
        go_wp2_with (first | (go_at_call 58; refine (one_any s k 34 _ ho' hk hs).mono ?_; rintro e w' ⟨rfl, rfl⟩; rw [HO.out, trip]) | (at_builtin; refine wpList_append_own _ rfl _ _ 42 rfl (w.heap.size + 1) 5 i0 (.int .u8 0) 1 1 Tryd.underlying42 hi hz0 hz1 hz2 rfl (by decide) _ _ _ rfl (hown.alloc _) ⟨wr.heap.size, 0, none⟩ 1 1 [.int .u8 b] rfl rfl ?c1 ?c2 ?c3 ?c4 ?c5 ?_))
        case c1 => exact fun j u h => new1 _ _ _ j u h
        case c2 => intro u hu; simp at hu; subst hu; rfl
        case c3 => unfold maxLen; omega
        case c4 => omega
        case c5 => simp; omega
        intro v' w2 hown2 hg2 _
        have hB2 : Below (w.heap.size + 1) (w.alloc (.cells #[.int .i64 0, .string ⟨#[]⟩, .int .i64 0, .string ⟨#[]⟩, .int .i64 0, .int .i64 0, .int .i64 0, .int .i64 0, .int .i64 0] 55)) w2 := (hb.alloc hbs _).grown hg2 (by simp; omega) (fun g hg => own_ge hown hg)
        have hown3 : w2.ownsRow (w.heap.size + 1) 5 1 v' (acc ++ [b]).length ((acc ++ [b]).map (Value.int .u8)) := by rw [HL.out, HM.out]; exact hown2
        clear hown hown2 hg2 hb
        go_wp2
        go_roundw
        case rel => exact ⟨m, acc ++ [b], by omega, hm2, by rw [HL.out]; omega, rfl, hown3, hB2, HQ2.out⟩
        case measure => simp [intOf]; omega
end Go.Proofs.YtdhfkokinnmfhaaDoor
