/- Walks of layer 21: Scan of the reference. -/
import Derived.Test.YtdhfkokinnmfhaaDoorY8
namespace Go.Proofs.YtdhfkokinnmfhaaDoor
open Go.RowKit
set_option linter.unusedSimpArgs false
set_option linter.unusedVariables false
def rtokC (t : Att × Nat) : List Value := [.int .i64 t.1.kind, .string t.1.text, .int .i64 t.1.value, .string t.1.bytes, .int .i64 t.2]
def rtoksC (l : List (Att × Nat)) : List Value := l.flatMap rtokC
theorem rtoksC_snoc (l : List (Att × Nat)) (t : Att × Nat) : rtoksC (l ++ [t]) = rtoksC l ++ rtokC t := by simp [rtoksC]
theorem rtoksC_len (l : List (Att × Nat)) : (rtoksC l).length = l.length * 5 := by
  induction l with
  | nil => rfl
  | cons t l ih =>
    show (rtokC t ++ rtoksC l).length = _
    rw [List.length_append, ih]
    show 5 + l.length * 5 = (l.length + 1) * 5
    omega
theorem rtoksC_get : ∀ (l : List (Att × Nat)) (i j : Nat) (t : Att × Nat), l[i]? = some t → j < 5 → (rtoksC l)[i * 5 + j]? = (rtokC t)[j]?
  | [], i, j, t, h, _ => by simp at h
  | u :: l, 0, j, t, h, hj => by
    simp at h; subst h
    show (rtokC u ++ rtoksC l)[0 * 5 + j]? = _
    rw [Nat.zero_mul, Nat.zero_add, List.getElem?_append_left (by simpa [rtokC] using hj)]
  | u :: l, i + 1, j, t, h, hj => by
    have := rtoksC_get l i j t (by simpa using h) hj
    show (rtokC u ++ rtoksC l)[(i + 1) * 5 + j]? = _
    have h6 : (rtokC u).length = 5 := rfl
    rw [List.getElem?_append_right (by omega), show (i + 1) * 5 + j - (rtokC u).length = i * 5 + j by omega]
    exact this
/-- What Scan of the reference leaves. -/
def RScanPost (s : ByteArray) (w : World) (e : Ending) (w' : World) : Prop :=
  Below w.heap.size w w' ∧ match scanS s with
  | .ok l => ∃ v, w'.ownsRow w.heap.size 37 5 v (l.length + 1) (rtoksC (l ++ [(endA, s.size)])) ∧ e = .returned (.tuple #[v, .int .i64 0, .int .i64 0])
  | .err p off er => e = .returned (.tuple #[.slice none 0 0, .int .i64 ((p : Int) + off), .int .i64 er])
theorem RScanPost.ok {s : ByteArray} {w : World} {e : Ending} {w' : World} {l : List (Att × Nat)} {v : Value} (hs : scanS s = .ok l) (hb : Below w.heap.size w w') (hv : w'.ownsRow w.heap.size 37 5 v (l.length + 1) (rtoksC (l ++ [(endA, s.size)]))) (he : e = .returned (.tuple #[v, .int .i64 0, .int .i64 0])) : RScanPost s w e w' := by
  refine ⟨hb, ?_⟩
  rw [hs]
  exact ⟨v, hv, he⟩
theorem RScanPost.err {s : ByteArray} {w : World} {e : Ending} {w' : World} {p : Nat} {off er : Int} (hs : scanS s = .err p off er) (hb : Below w.heap.size w w') (he : e = .returned (.tuple #[.slice none 0 0, .int .i64 ((p : Int) + off), .int .i64 er])) : RScanPost s w e w' := by
  refine ⟨hb, ?_⟩
  rw [hs]
  exact he
theorem info37 : (Tryd.prog.info? 37).map (fun i => (i.zero, i.size, i.bytes)) = some (some (.agg #[.int .i64 0, .string ⟨#[]⟩, .int .i64 0, .string ⟨#[]⟩, .int .i64 0]), 5, 56) := by kernel_rfl
theorem new5s (w : World) (n : Nat) (hn : w.heap.size = n) (v0 v1 v2 v3 v4 : Value) (t : TypeId) (j : Nat) (u : Value) (h : [v0, v1, v2, v3, v4][j]? = some u) : (w.alloc (.cells #[v0, v1, v2, v3, v4] t)).cell? ((⟨n, 0, none⟩ : Addr).add j) = some u := by
  subst hn
  have e : (w.alloc (.cells #[v0, v1, v2, v3, v4] t)).heap[w.heap.size]? = some (.cells #[v0, v1, v2, v3, v4] t) := by
    show (w.heap.push _)[w.heap.size]? = _
    simp
  have e2 : ((⟨w.heap.size, 0, none⟩ : Addr).add j) = ⟨w.heap.size, j, none⟩ := by
    unfold Addr.add
    split
    · rename_i h; subst h; rfl
    · simp
  rw [e2]
  simp only [World.cell?, e]
  simpa using h
theorem own_len' {w : World} {base : Nat} {e : TypeId} {k : Nat} {v : Value} {n : Nat} {xs : List Value} (h : w.ownsRow base e k v n xs) : ∃ a c, v = .slice a n c := by
  obtain ⟨h1, ⟨rfl, rfl⟩ | ⟨g, cap, cur, rfl, _⟩⟩ := h
  · exact ⟨none, 0, rfl⟩
  · exact ⟨_, _, rfl⟩
/-- What the loop keeps. -/
def RScanRel (s : ByteArray) (w : World) (v a : Value) (wr : World) : Prop :=
  ∃ (p : Nat) (acc : List (Att × Nat)), p ≤ s.size ∧ acc.length ≤ p ∧ a = .int .i64 p ∧ wr.ownsRow w.heap.size 37 5 v acc.length (rtoksC acc) ∧ Below w.heap.size w wr ∧ scanS s = (scanP s (s.size + 1) p).pre acc
theorem ret_r3 {a b c d : Int} (h : a = b) (h' : c = d) : Ending.returned (.tuple #[.slice none 0 0, .int .i64 a, .int .i64 c]) = .returned (.tuple #[.slice none 0 0, .int .i64 b, .int .i64 d]) := by rw [h, h']
set_option maxRecDepth 100000 in
set_option maxHeartbeats 4000000 in
theorem refScan_any (s : ByteArray) (w : World) (hs : s.size ≤ 4000) :
    Calls Tryd.prog 12 #[.string s] w (RScanPost s w) := by
  obtain ⟨i0, hi, hz0, hz1, hzb⟩ := info_parts info37
  have hs2 : s.size ≤ 100000 := by omega
  go_enter Tryd.func12, Tryd.ntmps12
  go_wp2_with (go_at_call 29; refine (refSkip_any s 0 _ (Nat.zero_le _) hs2).mono ?_; rintro e w' ⟨rfl, rfl⟩)
  go_loopw [5, 6] (fun v a wr => RScanRel s w v a wr) (fun _ a _ => s.size - (intOf a).toNat)
  case atStart => exact ⟨skp s 0, [], (skp_le s 0 (Nat.zero_le _)).2, Nat.zero_le _, rfl, ⟨rfl, .inl ⟨rfl, rfl⟩⟩, Below.refl _ _, by rw [Res.pre_nil]; rfl⟩
  case round =>
    obtain ⟨p, acc, hp, hacc, rfl, hown, hb, hS⟩ := hrel
    have HS := Lib.hid hS
    clear hS
    obtain ⟨av, cv, rfl⟩ := own_len' hown
    have hne : ((acc.length : Int) == 4096) = false := by simp; omega
    by_cases hlt : p < s.size
    · cases hfd : findS (s.extract p s.size) with
      | none =>
        have HF := Lib.hid (show refF (findS (s.extract p s.size)) p = refE p 6 p by rw [hfd]; rfl)
        have HE := Lib.hid (HS.out.trans (congrArg (Res.pre acc) (scan_none s p hlt hfd)))
        clear hfd HS
        go_wp2_with fail
        refine (refOne_any s p _ hlt hs2).mono ?_
        rintro e w2 ⟨rfl, k2⟩
        rw [HF.out]
        rw [refE]
        go_wp2
        go_ret3
        exact RScanPost.err HE.out ((hb.trans (k2.mono hb.size)).alloc (Nat.le_trans hb.size k2.size) _) (ret_r3 (by omega) rfl)
      | some a =>
        obtain ⟨kind, text, value, bytes, size, off, e0⟩ := a
        by_cases he : e0 ≠ 0
        · have HE := Lib.hid (HS.out.trans (congrArg (Res.pre acc) (scan_bad s p _ hlt hfd he)))
          have HF := Lib.hid (show refF (findS (s.extract p s.size)) p = refE p e0 ((p : Int) + off) by rw [hfd]; exact if_neg he)
          have he' : (e0 != 0) = true := by simpa using he
          clear hfd HS he
          go_wp2_with fail
          refine (refOne_any s p _ hlt hs2).mono ?_
          rintro e w2 ⟨rfl, k2⟩
          rw [HF.out]
          rw [refE]
          go_wp2
          go_ret3
          exact RScanPost.err HE.out ((hb.trans (k2.mono hb.size)).alloc (Nat.le_trans hb.size k2.size) _) (ret_r3 rfl rfl)
        · obtain rfl : e0 = 0 := by simpa using he
          have HE := Lib.hid (HS.out.trans (congrArg (Res.pre acc) (scan_next s p _ hlt hfd rfl)))
          obtain ⟨g1, g2, rfl, g4, g5⟩ := rest_good s p _ hlt hfd rfl
          have HF := Lib.hid (show refF (findS (s.extract p s.size)) p = refO ⟨kind, text, value, bytes, size, 0, 0⟩ p from refF_ok hfd rfl)
          have hk4 := skp_le s (p + size) g2
          clear hfd HS he g4 g5
          go_wp2_with fail
          refine (refOne_any s p _ hlt hs2).mono ?_
          rintro e w2 ⟨rfl, k2⟩
          rw [HF.out]
          simp only [refO]
          have hown2 := own_next hown k2
          have hs2' := k2.size
          have hbs := hb.size
          go_wp2_with (first | (at_builtin; refine wpList_append_own _ rfl _ _ 27 rfl w.heap.size 37 i0 (.agg #[.int .i64 0, .string ⟨#[]⟩, .int .i64 0, .string ⟨#[]⟩, .int .i64 0]) 5 56 Tryd.underlying27 hi hz0 hz1 hzb rfl (by decide) _ _ _ rfl ((hown2.alloc _).alloc _) ⟨w2.heap.size + 1, 0, none⟩ 1 1 [.int .i64 kind, .string text, .int .i64 value, .string bytes, .int .i64 p] rfl rfl ?c1 ?c2 ?c3 ?c4 ?c5 ?_))
          case c1 => exact fun j u h => new5s _ _ (by simp) _ _ _ _ _ _ j u h
          case c2 => intro u hu; simp at hu; rcases hu with rfl | rfl | rfl | rfl | rfl <;> rfl
          case c3 => unfold maxLen; omega
          case c4 => omega
          case c5 => simp; omega
          intro v' w3 hown3 hg3 _
          have hB3 : Below w.heap.size w w3 := (((hb.trans (k2.mono hbs)).alloc (by omega) _).alloc (by simp; omega) _).grown hg3 (by simp; omega) (fun g hg => own_ge hown2 hg)
          have HOWN := Lib.hid (show w3.ownsRow w.heap.size 37 5 v' (acc ++ [((⟨kind, text, value, bytes, size, 0, 0⟩ : Att), p)]).length (rtoksC (acc ++ [((⟨kind, text, value, bytes, size, 0, 0⟩ : Att), p)])) by
            rw [rtoksC_snoc, List.length_append]; exact hown3)
          clear hown hown2 hown3 hg3 k2 hb
          go_wp2_with (go_at_call 29; refine (refSkip_any s (p + size) _ g2 hs2).mono ?_; rintro e w' ⟨rfl, rfl⟩)
          go_roundw
          case rel => exact ⟨skp s (p + size), _, hk4.2, by simp; omega, rfl, HOWN.out, hB3, by rw [HE.out, Res.pre_pre]⟩
          case measure => simp [intOf]; omega
    · obtain rfl : p = s.size := by omega
      have HE := Lib.hid (HS.out.trans (congrArg (Res.pre acc) (scan_end s s.size (Nat.le_refl _))))
      have hbs := hb.size
      clear HS
      go_wp2_with (at_builtin; refine wpList_append_own _ rfl _ _ 27 rfl w.heap.size 37 i0 (.agg #[.int .i64 0, .string ⟨#[]⟩, .int .i64 0, .string ⟨#[]⟩, .int .i64 0]) 5 56 Tryd.underlying27 hi hz0 hz1 hzb rfl (by decide) _ _ _ rfl (hown.alloc _) ⟨wr.heap.size, 0, none⟩ 1 1 [.int .i64 0, .string ⟨#[]⟩, .int .i64 0, .string ⟨#[]⟩, .int .i64 s.size] rfl rfl ?d1 ?d2 ?d3 ?d4 ?d5 ?_)
      case d1 => exact fun j u h => new5s _ _ rfl _ _ _ _ _ _ j u h
      case d2 => intro u hu; simp at hu; rcases hu with rfl | rfl | rfl | rfl | rfl <;> rfl
      case d3 => unfold maxLen; omega
      case d4 => omega
      case d5 => simp; omega
      intro v' w3 hown3 hg3 _
      have hB3 : Below w.heap.size w w3 := (hb.alloc hbs _).grown hg3 (by simp; omega) (fun g hg => own_ge hown hg)
      go_wp2
      go_ret3
      exact RScanPost.ok (l := acc) (by rw [HE.out]; simp [Res.pre]) hB3 (by rw [rtoksC_snoc]; exact hown3) rfl
/-- The five cells of token number i. -/
def RTokAt (w : World) (g : Nat) (i : Nat) (t : Att × Nat) : Prop :=
  w.cell? ⟨g, i * 5, none⟩ = some (.int .i64 t.1.kind) ∧ w.cell? ⟨g, i * 5 + 1, none⟩ = some (.string t.1.text) ∧ w.cell? ⟨g, i * 5 + 2, none⟩ = some (.int .i64 t.1.value) ∧ w.cell? ⟨g, i * 5 + 3, none⟩ = some (.string t.1.bytes) ∧ w.cell? ⟨g, i * 5 + 4, none⟩ = some (.int .i64 t.2)
def RToks (w : World) (g : Nat) (L : List (Att × Nat)) : Prop := g < w.heap.size ∧ ∀ i t, L[i]? = some t → RTokAt w g i t
theorem RToks.next {w w' : World} {g : Nat} {L : List (Att × Nat)} (h : RToks w g L) (hb : Below w.heap.size w w') : RToks w' g L := by
  obtain ⟨hc, _⟩ := bcell hb
  refine ⟨Nat.lt_of_lt_of_le h.1 hb.size, fun i t ht => ?_⟩
  obtain ⟨h0, h1, h2, h3, h4⟩ := h.2 i t ht
  exact ⟨by rw [hc _ _ h.1]; exact h0, by rw [hc _ _ h.1]; exact h1, by rw [hc _ _ h.1]; exact h2, by rw [hc _ _ h.1]; exact h3, by rw [hc _ _ h.1]; exact h4⟩
theorem rtoks_of {w : World} {base g len cap n : Nat} {L : List (Att × Nat)} (h : w.ownsRow base 37 5 (.slice (some ⟨g, 0, none⟩) len cap) n (rtoksC L)) (h0 : 0 < L.length) : RToks w g L := by
  have hl := rtoksC_len L
  have key : ∀ i t j, L[i]? = some t → j < 5 → w.cell? ⟨g, i * 5 + j, none⟩ = (rtokC t)[j]? := fun i t j ht hj => by
    have hi : i < L.length := (List.getElem?_eq_some_iff.1 ht).1
    obtain ⟨_, _, hc, _⟩ := own_cell h (i * 5 + j) (by omega)
    rw [hc, rtoksC_get L i j t ht hj]
  refine ⟨?_, fun i t ht => ⟨by rw [show i * 5 = i * 5 + 0 from rfl, key i t 0 ht (by omega)]; rfl, by rw [key i t 1 ht (by omega)]; rfl, by rw [key i t 2 ht (by omega)]; rfl, by rw [key i t 3 ht (by omega)]; rfl, by rw [key i t 4 ht (by omega)]; rfl⟩⟩
  exact (own_cell h 0 (by omega)).2.2.2
theorem refScan_ok (s : ByteArray) (w : World) (l : List (Att × Nat)) (hs : s.size ≤ 4000) (hl : scanS s = .ok l) :
    Calls Tryd.prog 12 #[.string s] w fun e w' => ∃ g cap, e = .returned (.tuple #[.slice (some ⟨g, 0, none⟩) (l.length + 1) cap, .int .i64 0, .int .i64 0]) ∧ RToks w' g (l ++ [(endA, s.size)]) ∧ l.length + 1 ≤ cap ∧ Below w.heap.size w w' := by
  refine (refScan_any s w hs).mono ?_
  rintro e w' ⟨hb, hp⟩
  rw [hl] at hp
  obtain ⟨v, hv, rfl⟩ := hp
  obtain ⟨_, ⟨_, h0⟩ | ⟨g, cap, cur, rfl, hg, hh, hc, _⟩⟩ := id hv
  · omega
  · exact ⟨g, cap, rfl, rtoks_of hv (by simp), hc, hb⟩
theorem refScan_no (s : ByteArray) (w : World) (p : Nat) (off er : Int) (hs : s.size ≤ 4000) (hl : scanS s = .err p off er) :
    Calls Tryd.prog 12 #[.string s] w fun e w' => e = .returned (.tuple #[.slice none 0 0, .int .i64 ((p : Int) + off), .int .i64 er]) ∧ Below w.heap.size w w' := by
  refine (refScan_any s w hs).mono ?_
  rintro e w' ⟨hb, hp⟩
  rw [hl] at hp
  exact ⟨hp, hb⟩
end Go.Proofs.YtdhfkokinnmfhaaDoor
