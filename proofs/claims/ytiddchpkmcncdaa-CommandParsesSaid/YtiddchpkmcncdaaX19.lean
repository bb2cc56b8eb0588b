/- Walks of layer 41: pipeline. -/
import Derived.Test.YtiddchpkmcncdaaX18
namespace Go.Proofs.Ytiddchpkmcncdaa
open Go.RowKit
set_option linter.unusedSimpArgs false
set_option linter.unusedVariables false
theorem field128_0 (a b c d : Value) (w : World) : (Instr.field 128 (.agg #[a, b, c, d]) 0).run Try.prog w = .ok a w := by kernel_rfl
theorem field128_1 (a b c d : Value) (w : World) : (Instr.field 128 (.agg #[a, b, c, d]) 1).run Try.prog w = .ok b w := by kernel_rfl
theorem pip_bad (en m : Nat) (ts : List Tk) (a : List Sm) (q : Nat) (e : Int) (h : simS en ts smE = .err q e) : pipS en (m + 1) ts a = .err q e := by
  rw [pipS, h]
theorem pip_end (en m : Nat) (ts : List Tk) (a : List Sm) (c : Sm) (ts' : List Tk) (h : simS en ts smE = .ok (c, ts')) (hu : (hdT en ts').op ≠ [124]) : pipS en (m + 1) ts a = .ok (a ++ [c], ts') := by
  rw [pipS, h]
  cases ts' with
  | nil => rfl
  | cons t r =>
    simp only
    rw [if_neg (by simpa [hdT] using hu)]
theorem pip_full (en : Nat) (ts : List Tk) (a : List Sm) (c : Sm) (t : Tk) (r : List Tk) (h : simS en ts smE = .ok (c, t :: r)) (hu : t.op = [124]) : pipS en 1 ts a = .err t.pos 9 := by
  rw [pipS, h]
  simp only
  rw [if_pos (by simpa using hu)]
  simp
theorem pip_more (en m : Nat) (ts : List Tk) (a : List Sm) (c : Sm) (t : Tk) (r : List Tk) (h : simS en ts smE = .ok (c, t :: r)) (hu : t.op = [124]) (hm : m ≠ 0) : pipS en (m + 1) ts a = pipS en m r (a ++ [c]) := by
  rw [pipS, h]
  simp only
  rw [if_pos (by simpa using hu), if_neg hm]
theorem hd_bar (en : Nat) (ts : List Tk) (o : Bs) (ho : o ≠ []) (h : (hdT en ts).op = o) : ∃ t r, ts = t :: r ∧ t.op = o := by
  cases ts with
  | nil => exact absurd h.symm ho
  | cons t r => exact ⟨t, r, rfl, h⟩
/-- What the loop of pipeline keeps. -/
def PRel (w : World) (pb en N : Nat) (ts : List Tk) (gk : Nat) (v : Value) (wr : World) : Prop :=
  ∃ acc ts1, RowOwn 46 5 smV NS wr w.heap.size v acc ∧ PAt wr pb ts1 en 0 0 ∧ w.grownBy wr (some pb) ∧ (∀ t ∈ ts1, TkOk N t) ∧ ts1.length ≤ 90000 ∧ gk + acc.length = 9 ∧ acc.length < 8 ∧ pipS en 8 ts [] = pipS en (8 - acc.length) ts1 acc
/-- What pipeline gives. -/
def PipP (w : World) (pb en : Nat) (ts : List Tk) (r : Ending) (w' : World) : Prop :=
  ∃ v l, r = .returned v ∧ RowRd 46 smV NS w' v l ∧ w.grownBy w' (some pb) ∧
    ((∃ ts', pipS en 8 ts [] = .ok (l, ts') ∧ PAt w' pb ts' en 0 0) ∨ ∃ q e, pipS en 8 ts [] = .err q e ∧ e ≠ 0 ∧ PAt w' pb [] en q e)
theorem NS.next {w w' : World} {v : V4} {c : Sm} (h : NS w v c) (hb : Below w.heap.size w w') : NS w' v c := h.keep (Kept.of_below [] hb) rfl rfl rfl
theorem RowOwn46.keep {w w' : World} {base : Nat} {v : Value} {l : List Sm} {L : List TypeId} (h : RowOwn 46 5 smV NS w base v l) (k : Kept L w w') (h0 : L.contains 46 = false) (h1 : L.contains 61 = false) (h2 : L.contains 140 = false) (h3 : L.contains 42 = false) : RowOwn 46 5 smV NS w' base v l :=
  RowOwn.keep h k h0 (fun _ _ h => NS.keep h k h1 h2 h3)
/-- A stage is appended. -/
theorem pip_push {w W W' w1 : World} {pb en : Nat} {ts : List Tk} {wh er : Int} {v v' : Value} {acc : List Sm} {vs : List V4} {c : Sm} {v4 : V4} (hP : PAt W pb ts en wh er) (h2 : RowW NS W acc vs) (h3 : W.ownsRow w.heap.size 46 5 v acc.length (rowC smV acc vs)) (hg : w.grownBy W (some pb))
    (hb : Below W.heap.size W W') (hk : W'.grownBy w1 v.ownBlock) (hown : w1.ownsRow w.heap.size 46 5 v' (acc.length + 1) (rowC smV acc vs ++ smV c v4)) (hu : NS W v4 c) :
    RowOwn 46 5 smV NS w1 w.heap.size v' (acc ++ [c]) ∧ PAt w1 pb ts en wh er ∧ w.grownBy w1 (some pb) := by
  have K : Kept [46] W w1 := (Kept.of_below _ hb).trans (Kept.of_own [46] (own_next h3 hb) hk rfl)
  exact ⟨RowOwn.push h2 hown (fun _ _ h => NS.keep h K rfl rfl rfl) (hu.keep K rfl rfl rfl), hP.keep K rfl rfl rfl, only_row (grown_trans hg (only_of_below hb _)) hk (fun i e => own_ge h3 e)⟩
set_option maxRecDepth 100000 in
set_option maxHeartbeats 16000000 in
theorem pipeline_any (w : World) (pb en N : Nat) (ts : List Tk) (h : PAt w pb ts en 0 0) (hok : ∀ t ∈ ts, TkOk N t) (hN : N ≤ 90000) (hlen : ts.length ≤ 90000) :
    Calls Try.prog 74 #[ptr pb] w fun r w' => PipP w pb en ts r w' := by
  obtain ⟨i0, hi, hz0, hz1, hz2⟩ := info_parts info46
  have hf1 := field128_1
  have H0 := Lib.hid h
  have HOK0 := Lib.hid hok
  clear h hok
  go_enter Try.func74, Try.ntmps74
  go_wp2
  go_loopg [3] 9 (fun gk v wr => PRel w pb en N ts gk v wr)
  case atStart => exact ⟨[], ts, RowOwn.nil, H0.out, World.grownBy.refl _ _, HOK0.out, hlen, rfl, by simp, rfl⟩
  case round =>
    obtain ⟨acc, ts1, hR, hP, hgr, hok1, hl1, hgk, hacc, hr⟩ := hrel
    have HR := Lib.hid hR
    have HP := Lib.hid hP
    have HOK := Lib.hid hok1
    obtain ⟨m, hm⟩ : ∃ m, 8 - acc.length = m + 1 := ⟨7 - acc.length, by omega⟩
    rw [hm] at hr
    have hm' : m + acc.length = 7 := by omega
    have HM := Lib.hid hm'
    have hgk' : gk = m + 2 := by omega
    subst hgk'
    have HRR := Lib.hid hr
    clear hR hP hok1 hr hm hgk hm' H0 HOK0
    obtain ⟨at0, ct0, hvv, _⟩ := HR.out.rd.form
    subst hvv
    go_wp2_with fail
    refine (simple_any _ pb en N ts1 HP.out HOK.out hN hl1).mono ?_
    rintro e w1 ⟨v4, c, rfl, hn4, hg1, halt⟩
    have HK := Lib.hid (HP.out.kept hg1)
    have HRO := Lib.hid (RowOwn46.keep HR.out HK.out rfl rfl rfl rfl)
    have hgr1 := grown_trans hgr hg1
    have HN4 := Lib.hid hn4
    obtain ⟨va, vb, vc, vd⟩ := v4
    obtain ⟨Aa, ca, rfl, _⟩ := hn4.1.form
    obtain ⟨Ab, cc, rfl, _⟩ := hn4.2.1.form
    obtain ⟨Ai, ci, rfl, _⟩ := Rd.form hn4.2.2.1
    obtain ⟨Ao, co, rfl, _⟩ := Rd.form hn4.2.2.2
    obtain ⟨vs, hvs, hrow⟩ := HRO.out
    have HVS := Lib.hid hvs
    have HALT := Lib.hid halt
    have hbase : w.heap.size ≤ w1.heap.size := hgr1.size
    clear HP HR hgr hg1 hn4 hvs halt HK
    dsimp only
    rcases HALT.out with ⟨ts2, hs2, hp2⟩ | ⟨q, e0, hs2, he0, hp2⟩
    · have HS2 := Lib.hid hs2
      have HP2 := Lib.hid hp2
      have hlt := simS_less en ts1 c ts2 hs2
      have HOK2 := Lib.hid (fun x hx => HOK.out x (hlt.1.mem hx) : ∀ x ∈ ts2, TkOk N x)
      have hl2 : ts2.length ≤ 90000 := by have := hlt.2; omega
      clear hs2 hp2 HALT hlt HOK
      obtain ⟨u, hu⟩ : ∃ u : Tk, hdT en ts2 = u := ⟨_, rfl⟩
      have HU := Lib.hid hu
      clear hu
      by_cases ho : u.op = [124]
      · have k1 : ((bs u.op).toList == [124]) = true := by rw [bs_tl]; simpa using ho
        obtain ⟨t, r, ht, hto⟩ := hd_bar en ts2 [124] (by simp) (by rw [HU.out]; exact ho)
        subst ht
        obtain rfl : t = u := HU.out
        have HS3 := Lib.hid HS2.out
        clear HS2 hto ho
        go_wp2_with (at_builtin; refine wpList_append_lies _ rfl _ _ _ rfl w.heap.size 46 i0 _ 5 104 Try.underlying47 hi hz0 hz1 hz2 rfl (by omega) (.slice at0 acc.length ct0) acc.length (rowC smV acc vs) rfl (hrow.alloc _) ⟨w1.heap.size, 0, none⟩ 1 1 [.slice Aa c.asg.length ca, .slice Ab c.words.length cc, .slice Ai c.inn.length ci, .slice Ao c.out.length co, .bool c.app] rfl rfl (World.news_of_block (cs := #[.slice Aa c.asg.length ca, .slice Ab c.words.length cc, .slice Ai c.inn.length ci, .slice Ao c.out.length co, .bool c.app]) (t := 46) (fr := (0, 0)) (heap_alloc_new w1 _)) (by simp [Value.oneCell']) (by omega) (by unfold maxLen; omega) (by omega) (by simp; omega) (w1.heap.size + 1) (by simp) ?_; intro gg cap w2 hown1 hgrow hat hlt1)
        have HX := Lib.hid (pip_push (c := c) (v4 := ⟨.slice Aa c.asg.length ca, .slice Ab c.words.length cc, .slice Ai c.inn.length ci, .slice Ao c.out.length co⟩) HP2.out HVS.out hrow hgr1 ((Below.refl _ _).alloc (Nat.le_refl _) _) hgrow hown1 HN4.out)
        clear hown1 hgrow hrow HRO HN4 HVS
        go_wp2_with fail
        refine (next_hd _ pb (t :: r) en _ _ t HU.out HX.out.2.1 (Nat.le_trans hl2 (by decide))).mono ?_
        rintro e w3 ⟨v3, rfl, hv3, hb3⟩
        unfold tokA
        obtain ⟨A3, c3, rfl, _⟩ := Rd.form hv3
        have HX3 := Lib.hid (show RowOwn 46 5 smV NS w3 w.heap.size _ (acc ++ [c]) from RowOwn46.keep HX.out.1 (Kept.of_below [] hb3) rfl rfl rfl rfl)
        have HP3 := Lib.hid (HX.out.2.1.next hb3)
        have hgr3 := grown_trans HX.out.2.2 (only_of_below hb3 _)
        clear HX hv3 hb3
        go_wp2_with fail
        refine (take_one _ pb t r en 0 0 HP3.out (Nat.le_trans hl2 (by decide))).mono ?_
        rintro e w4 ⟨v4, rfl, hv4, hp4, hg4⟩
        unfold tokA
        have K4 := Lib.hid (HP3.out.kept hg4)
        have HX4 := Lib.hid (RowOwn46.keep HX3.out K4.out rfl rfl rfl rfl)
        have hgr4 := grown_trans hgr3 hg4
        obtain ⟨A4, c4, rfl, _⟩ := Rd.form hv4
        have HX5 := Lib.hid (RowOwn46.keep HX4.out (Kept.of_below [] ((Below.refl _ _).alloc (Nat.le_refl _) (.cells #[.int .i64 (t.pos : Int), .string (bs t.op), .slice A4 t.word.length c4, .string (bs t.name)] 128))) rfl rfl rfl rfl)
        have HP5 := Lib.hid (hp4.next ((Below.refl _ _).alloc (Nat.le_refl _) (.cells #[.int .i64 (t.pos : Int), .string (bs t.op), .slice A4 t.word.length c4, .string (bs t.name)] 128)))
        have hgr5 := only_alloc hgr4 (.cells #[.int .i64 (t.pos : Int), .string (bs t.op), .slice A4 t.word.length c4, .string (bs t.name)] 128)
        clear HX3 HP3 hgr3 K4 HX4 hgr4 hv4 hp4 hg4
        by_cases hm0 : m = 0
        · subst hm0
          have HRE := Lib.hid (HRR.out.trans (pip_full en ts1 acc c t r HS3.out (by have := k1; rw [bs_tl] at this; simpa using this)))
          have hl8 : ((acc.length : Int) + 1 == 8) = true := beq_iff_eq.2 (by have := HM.out; omega)
          have hA : acc.length = 7 := by have := HM.out; omega
          have HA := Lib.hid hA
          clear hA
          go_wp2_with fail
          refine (pfail_first _ pb r en 0 t.pos 9 HP5.out).mono ?_
          rintro e w6 ⟨rfl, hp6, hg6⟩
          have HX6 := Lib.hid (RowOwn46.keep HX5.out (HP5.out.kept hg6) rfl rfl rfl rfl)
          have HP6 := Lib.hid hp6
          have hgr6 := grown_trans hgr5 hg6
          clear hp6 hg6
          go_wp2
          go_ret
          exact ⟨_, _, rfl, HX6.out.rd, hgr6, .inr ⟨t.pos, 9, HRE.out, by decide, HP6.out⟩⟩
        · have HRE := Lib.hid (HRR.out.trans (pip_more en m ts1 acc c t r HS3.out (by have := k1; rw [bs_tl] at this; simpa using this) hm0))
          have hl8 : ((acc.length : Int) + 1 == 8) = false := beq_false_of_ne (by have := HM.out; omega)
          go_wp2
          go_roundg (m + 1)
          case rel => exact ⟨acc ++ [c], r, HX5.out, HP5.out, hgr5, fun x hx => HOK2.out x (List.mem_cons_of_mem _ hx), by simp at hl2; omega, by simp; have := HM.out; omega, by simp; have := HM.out; omega, by rw [HRE.out]; congr 1; simp; have := HM.out; omega⟩
          case measure => omega
      · have k1 : ((bs u.op).toList == [124]) = false := by rw [bs_tl]; simpa using ho
        have HRE := Lib.hid (HRR.out.trans (pip_end en m ts1 acc c ts2 HS2.out (by rw [HU.out]; exact ho)))
        clear ho
        go_wp2_with (at_builtin; refine wpList_append_lies _ rfl _ _ _ rfl w.heap.size 46 i0 _ 5 104 Try.underlying47 hi hz0 hz1 hz2 rfl (by omega) (.slice at0 acc.length ct0) acc.length (rowC smV acc vs) rfl (hrow.alloc _) ⟨w1.heap.size, 0, none⟩ 1 1 [.slice Aa c.asg.length ca, .slice Ab c.words.length cc, .slice Ai c.inn.length ci, .slice Ao c.out.length co, .bool c.app] rfl rfl (World.news_of_block (cs := #[.slice Aa c.asg.length ca, .slice Ab c.words.length cc, .slice Ai c.inn.length ci, .slice Ao c.out.length co, .bool c.app]) (t := 46) (fr := (0, 0)) (heap_alloc_new w1 _)) (by simp [Value.oneCell']) (by omega) (by unfold maxLen; omega) (by omega) (by simp; omega) (w1.heap.size + 1) (by simp) ?_; intro gg cap w2 hown1 hgrow hat hlt1)
        have HX := Lib.hid (pip_push (c := c) (v4 := ⟨.slice Aa c.asg.length ca, .slice Ab c.words.length cc, .slice Ai c.inn.length ci, .slice Ao c.out.length co⟩) HP2.out HVS.out hrow hgr1 ((Below.refl _ _).alloc (Nat.le_refl _) _) hgrow hown1 HN4.out)
        clear hown1 hgrow hrow HRO HN4 HVS
        go_wp2_with fail
        refine (next_hd _ pb ts2 en _ _ u HU.out HX.out.2.1 (Nat.le_trans hl2 (by decide))).mono ?_
        rintro e w3 ⟨v3, rfl, hv3, hb3⟩
        unfold tokA
        obtain ⟨A3, c3, rfl, _⟩ := Rd.form hv3
        have HX3 := Lib.hid (show RowOwn 46 5 smV NS w3 w.heap.size _ (acc ++ [c]) from RowOwn46.keep HX.out.1 (Kept.of_below [] hb3) rfl rfl rfl rfl)
        have HP3 := Lib.hid (HX.out.2.1.next hb3)
        have hgr3 := grown_trans HX.out.2.2 (only_of_below hb3 _)
        clear HX hv3 hb3
        go_wp2
        go_ret
        exact ⟨_, _, rfl, HX3.out.rd, hgr3, .inl ⟨ts2, HRE.out, HP3.out⟩⟩
    · have HP2 := Lib.hid hp2
      have HRE := Lib.hid (HRR.out.trans (pip_bad en m ts1 acc q e0 hs2))
      have HE0 := Lib.hid he0
      clear hs2 hp2 HALT he0
      obtain ⟨u, hu⟩ : ∃ u : Tk, hdT en [] = u := ⟨_, rfl⟩
      have HU := Lib.hid hu
      have k1 : ((bs u.op).toList == [124]) = false := by rw [bs_tl, ← hu]; rfl
      clear hu
      go_wp2_with (at_builtin; refine wpList_append_lies _ rfl _ _ _ rfl w.heap.size 46 i0 _ 5 104 Try.underlying47 hi hz0 hz1 hz2 rfl (by omega) (.slice at0 acc.length ct0) acc.length (rowC smV acc vs) rfl (hrow.alloc _) ⟨w1.heap.size, 0, none⟩ 1 1 [.slice Aa c.asg.length ca, .slice Ab c.words.length cc, .slice Ai c.inn.length ci, .slice Ao c.out.length co, .bool c.app] rfl rfl (World.news_of_block (cs := #[.slice Aa c.asg.length ca, .slice Ab c.words.length cc, .slice Ai c.inn.length ci, .slice Ao c.out.length co, .bool c.app]) (t := 46) (fr := (0, 0)) (heap_alloc_new w1 _)) (by simp [Value.oneCell']) (by omega) (by unfold maxLen; omega) (by omega) (by simp; omega) (w1.heap.size + 1) (by simp) ?_; intro gg cap w2 hown1 hgrow hat hlt1)
      have HX := Lib.hid (pip_push (c := c) (v4 := ⟨.slice Aa c.asg.length ca, .slice Ab c.words.length cc, .slice Ai c.inn.length ci, .slice Ao c.out.length co⟩) HP2.out HVS.out hrow hgr1 ((Below.refl _ _).alloc (Nat.le_refl _) _) hgrow hown1 HN4.out)
      clear hown1 hgrow hrow HRO HN4 HVS
      go_wp2_with fail
      refine (next_hd _ pb [] en _ _ u HU.out HX.out.2.1 (by simp)).mono ?_
      rintro e w3 ⟨v3, rfl, hv3, hb3⟩
      unfold tokA
      obtain ⟨A3, c3, rfl, _⟩ := Rd.form hv3
      have HX3 := Lib.hid (show RowOwn 46 5 smV NS w3 w.heap.size _ (acc ++ [c]) from RowOwn46.keep HX.out.1 (Kept.of_below [] hb3) rfl rfl rfl rfl)
      have HP3 := Lib.hid (HX.out.2.1.next hb3)
      have hgr3 := grown_trans HX.out.2.2 (only_of_below hb3 _)
      clear HX hv3 hb3
      go_wp2
      go_ret
      exact ⟨_, _, rfl, HX3.out.rd, hgr3, .inr ⟨q, e0, HRE.out, HE0.out, HP3.out⟩⟩
end Go.Proofs.Ytiddchpkmcncdaa
