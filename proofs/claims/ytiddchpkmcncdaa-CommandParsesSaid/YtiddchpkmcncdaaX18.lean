/- Walks of layer 41: simple. -/
import Derived.Test.YtiddchpkmcncdaaX17
import Derived.Test.YtiddchpkmcncdaaK5
namespace Go.Proofs.Ytiddchpkmcncdaa
open Go.RowKit
set_option linter.unusedSimpArgs false
set_option linter.unusedVariables false
/-- A simple command that is nothing. -/
abbrev zS : Obj := .cells #[.slice none 0 0, .slice none 0 0, .slice none 0 0, .slice none 0 0, .bool false] 46
theorem next_hd (w : World) (pb : Nat) (ts : List Tk) (en : Nat) (wh er : Int) (u : Tk) (hu : hdT en ts = u) (h : PAt w pb ts en wh er) (hn : ts.length ≤ 100000) :
    Calls Try.prog 77 #[ptr pb] w fun r w' => ∃ v, r = .returned (tokA u v) ∧ RdW w' v u.word ∧ Below w.heap.size w w' := by
  subst hu; exact next_any w pb ts en wh er h hn
theorem isRed_is (w : World) (t : Tk) (v : Value) (b : Bool) (hb : redS t.op = b) : Calls Try.prog 111 #[tokA t v] w fun r w' => r = .returned (.bool b) ∧ Below w.heap.size w w' := by
  subst hb; exact isRed_any w t v
/-- What the loop of simple keeps. -/
def SRel (w : World) (pb en N : Nat) (ts0 : List Tk) (gk : Nat) (wr : World) : Prop :=
  (∃ ts c, SSt (w.alloc zS) pb (w.heap.size + 1) ts en 0 0 c wr ∧ (∀ t ∈ ts, TkOk N t) ∧ ts.length + 1 < gk ∧ ts.length ≤ 90000 ∧ c.words.length ≤ 32 ∧ c.asg.length ≤ 32 ∧ simS en ts0 smE = simS en ts c) ∨
  ∃ c q e, SSt (w.alloc zS) pb (w.heap.size + 1) [] en ((q : Nat) : Int) e c wr ∧ 0 < gk ∧ e ≠ 0 ∧ simS en ts0 smE = .err q e
/-- What simple gives. -/
def SmP (w : World) (pb en : Nat) (ts : List Tk) (r : Ending) (w' : World) : Prop :=
  ∃ v4 c, r = .returned (.agg #[V4.a v4, v4.b, v4.c, v4.d, .bool (Sm.app c)]) ∧ NS w' v4 c ∧ w.grownBy w' (some pb) ∧
    ((∃ ts', simS en ts smE = .ok (c, ts') ∧ PAt w' pb ts' en 0 0) ∨ ∃ q e, simS en ts smE = .err q e ∧ e ≠ 0 ∧ PAt w' pb [] en q e)
theorem sst_begin {w : World} {pb en : Nat} {ts : List Tk} (h : PAt w pb ts en 0 0) : SSt (w.alloc zS) pb (w.heap.size + 1) ts en 0 0 smE ((w.alloc zS).alloc zS) := by
  have hb : Below w.heap.size w ((w.alloc zS).alloc zS) := ((Below.refl _ _).alloc (Nat.le_refl _) _).alloc (by simp) _
  refine ⟨h.next hb, ⟨.slice none 0 0, .slice none 0 0, .slice none 0 0, .slice none 0 0, ?_, RowOwn.nil, RowOwn.nil, rdw_nil _, rdw_nil _⟩, only_alloc (World.grownBy.refl _ _) _, ?_, by simp⟩
  · have := Blk.new (w.alloc zS) 46 #[.slice none 0 0, .slice none 0 0, .slice none 0 0, .slice none 0 0, .bool false]
    simpa [smE] using this
  · have := h.lt
    simp; omega
theorem sm_cells {w0 w : World} {pb cb en : Nat} {ts : List Tk} {wh er : Int} {c : Sm} (h : SSt w0 pb cb ts en wh er c w) : ∃ Aa ca Ab cc Ai ci Ao co, Blk w cb 46 #[.slice Aa c.asg.length ca, .slice Ab c.words.length cc, .slice Ai c.inn.length ci, .slice Ao c.out.length co, .bool c.app] ∧
    NS w ⟨.slice Aa c.asg.length ca, .slice Ab c.words.length cc, .slice Ai c.inn.length ci, .slice Ao c.out.length co⟩ c := by
  obtain ⟨h1, ⟨va, vb, vi, vo, b, ra, rb, ri, ro⟩, h3, h4, h5⟩ := h
  obtain ⟨Aa, ca, rfl, _⟩ := ra.rd.form
  obtain ⟨Ab, cc, rfl, _⟩ := rb.rd.form
  obtain ⟨Ai, ci, rfl, _⟩ := Rd.form ri
  obtain ⟨Ao, co, rfl, _⟩ := Rd.form ro
  exact ⟨_, _, _, _, _, _, _, _, b, ra.rd, rb.rd, ri, ro⟩
/-- The block of the result. -/
theorem sm_res {w W : World} {pb cb en : Nat} {ts : List Tk} {wh er : Int} {c : Sm} (h : SSt (w.alloc zS) pb cb ts en wh er c W) (hp : pb < w.heap.size) : Blk W w.heap.size 46 #[.slice none 0 0, .slice none 0 0, .slice none 0 0, .slice none 0 0, .bool false] :=
  (Blk.new w 46 _).grown h.2.2.1 (by intro e; injection e with e; omega)
theorem simple_end {w W w' : World} {pb en : Nat} {ts : List Tk} {wh er : Int} {c : Sm} {v4 : V4} {cr : Array Value} (h : SSt (w.alloc zS) pb (w.heap.size + 1) ts en wh er c W) (hn : NS W v4 c) (hr : Blk W w.heap.size 46 cr) (hg : W.grownBy w' (some w.heap.size)) :
    NS w' v4 c ∧ w.grownBy w' (some pb) ∧ PAt w' pb ts en wh er := by
  have K := Kept.of_blk [46] hr hg rfl
  refine ⟨hn.keep K rfl rfl rfl, ?_, h.1.keep K rfl rfl rfl⟩
  have g0 : w.grownBy W (some pb) := grown_trans (only_alloc (World.grownBy.refl _ _) _) h.2.2.1
  exact only_row g0 hg (fun i e => by injection e with e; omega)
theorem simple_ok {w W w' : World} {pb en : Nat} {ts ts' : List Tk} {c : Sm} {v4 : V4} {cr : Array Value} (hs : simS en ts smE = .ok (c, ts')) (h : SSt (w.alloc zS) pb (w.heap.size + 1) ts' en 0 0 c W) (hn : NS W v4 c) (hr : Blk W w.heap.size 46 cr) (hg : W.grownBy w' (some w.heap.size)) :
    SmP w pb en ts (.returned (.agg #[v4.a, v4.b, v4.c, v4.d, .bool c.app])) w' := by
  have HE := simple_end h hn hr hg
  exact ⟨v4, c, rfl, HE.1, HE.2.1, .inl ⟨ts', hs, HE.2.2⟩⟩
theorem simple_bad {w W w' : World} {pb en : Nat} {ts : List Tk} {q : Nat} {e : Int} {c : Sm} {v4 : V4} {cr : Array Value} (hs : simS en ts smE = .err q e) (he : e ≠ 0) (h : SSt (w.alloc zS) pb (w.heap.size + 1) [] en q e c W) (hn : NS W v4 c) (hr : Blk W w.heap.size 46 cr) (hg : W.grownBy w' (some w.heap.size)) :
    SmP w pb en ts (.returned (.agg #[v4.a, v4.b, v4.c, v4.d, .bool c.app])) w' := by
  have HE := simple_end h hn hr hg
  exact ⟨v4, c, rfl, HE.1, HE.2.1, .inr ⟨q, e, hs, he, HE.2.2⟩⟩
set_option maxRecDepth 100000 in
set_option maxHeartbeats 16000000 in
theorem simple_any (w : World) (pb en N : Nat) (ts : List Tk) (h : PAt w pb ts en 0 0) (hok : ∀ t ∈ ts, TkOk N t) (hN : N ≤ 90000) (hlen : ts.length ≤ 90000) :
    Calls Try.prog 101 #[ptr pb] w fun r w' => SmP w pb en ts r w' := by
  have H0 := Lib.hid (sst_begin h)
  have HOK := Lib.hid hok
  have hpb := h.lt
  clear h hok
  go_enter Try.func101, Try.ntmps101
  go_wp2
  go_loopg [4] (ts.length + 2) (fun gk _ wr => SRel w pb en N ts gk wr)
  case atStart => exact .inl ⟨ts, smE, H0.out, HOK.out, by omega, hlen, by simp [smE], by simp [smE], rfl⟩
  case round =>
    rcases hrel with ⟨ts1, c, hs, hok1, hgk, hl1, hcw, hca, hr⟩ | ⟨c, q, e0, hs, hgk, he, hr⟩
    · have HR0 := Lib.hid hr
      have HS := Lib.hid hs
      have HOK1 := Lib.hid hok1
      clear hs hr hok1 H0 HOK
      cases ts1 with
      | nil =>
        have HWE := Lib.hid (show List.length (Tk.word ⟨en, [], [], []⟩) = 0 from rfl)
        obtain ⟨u, hu⟩ : ∃ u : Tk, u = ⟨en, [], [], []⟩ := ⟨_, rfl⟩
        have HUU := Lib.hid hu
        rw [← hu] at HWE
        clear hu
        go_wp2_with fail
        refine (next_hd _ pb [] en 0 0 u HUU.out.symm HS.out.1 (by simp)).mono ?_
        rintro e w1 ⟨v1, rfl, hv1, hb1⟩
        unfold tokA
        have HS1 := Lib.hid ((HS.out.next hb1).next ((Below.refl _ _).alloc (Nat.le_refl _) (.cells #[.int .i64 (Tk.pos u : Int), .string (bs (Tk.op u)), v1, .string (bs (Tk.name u))] 128)))
        have HT1 := Lib.hid (Blk.new w1 128 #[.int .i64 (Tk.pos u : Int), .string (bs (Tk.op u)), v1, .string (bs (Tk.name u))])
        have HV1 := Lib.hid (Rd.next hv1 ((Below.refl _ _).alloc (Nat.le_refl _) (.cells #[.int .i64 (Tk.pos u : Int), .string (bs (Tk.op u)), v1, .string (bs (Tk.name u))] 128)))
        obtain ⟨A1, c1, rfl, _⟩ := Rd.form hv1
        clear hv1 hb1 HS
        go_upto_region 6 with (fail)
        generalize (w1.alloc (.cells #[.int .i64 (Tk.pos u : Int), .string (bs (Tk.op u)), .slice A1 (List.length (Tk.word u)) c1, .string (bs (Tk.name u))] 128)) = wa at *
        generalize w1.heap.size = tb at *
        have t0 : wa.cell? ⟨tb, 0, none⟩ = some (.int .i64 (Tk.pos u : Int)) := HT1.out.cell 0
        have t1 : wa.cell? ⟨tb, 1, none⟩ = some (.string (bs (Tk.op u))) := HT1.out.cell 1
        have t2 : wa.cell? ⟨tb, 2, none⟩ = some (.slice A1 (List.length (Tk.word u)) c1) := HT1.out.cell 2
        have t3 : wa.cell? ⟨tb, 3, none⟩ = some (.string (bs (Tk.name u))) := HT1.out.cell 3
        have htb : tb < wa.heap.size := HT1.out.lt
        go_wp2_with fail
        refine (isRed_is _ u _ false (by rw [HUU.out]; rfl)).mono ?_
        rintro e w2 ⟨rfl, hb2⟩
        have HS2 := Lib.hid (HS1.out.next hb2)
        have HT2 := Lib.hid (HT1.out.next hb2 htb)
        have HV2 := Lib.hid (Rd.next HV1.out hb2)
        clear HS1 HT1 HV1 hb2 t0 t1 t2 t3 htb
        have t0 : w2.cell? ⟨tb, 0, none⟩ = some (.int .i64 (Tk.pos u : Int)) := HT2.out.cell 0
        have t1 : w2.cell? ⟨tb, 1, none⟩ = some (.string (bs (Tk.op u))) := HT2.out.cell 1
        have t2 : w2.cell? ⟨tb, 2, none⟩ = some (.slice A1 (List.length (Tk.word u)) c1) := HT2.out.cell 2
        have t3 : w2.cell? ⟨tb, 3, none⟩ = some (.string (bs (Tk.name u))) := HT2.out.cell 3
        have htb : tb < w2.heap.size := HT2.out.lt
        go_wp2_with fail
        refine (isWord_no _ u _ HV2.out HWE.out).mono ?_
        rintro e w3 ⟨rfl, hb3⟩
        have HS3 := Lib.hid (HS2.out.next hb3)
        have HT3 := Lib.hid (HT2.out.next hb3 htb)
        clear HS2 HT2 HV2 hb3 t0 t1 t2 t3 htb
        have t0 : w3.cell? ⟨tb, 0, none⟩ = some (.int .i64 (Tk.pos u : Int)) := HT3.out.cell 0
        have htb : tb < w3.heap.size := HT3.out.lt
        obtain ⟨Aa, ca, Ab, cc, Ai, ci, Ao, co, hB, hN4⟩ := sm_cells HS3.out
        have HB := Lib.hid hB
        have HN4 := Lib.hid hN4
        have hR := sm_res HS3.out hpb
        have HR := Lib.hid hR
        have b0 : w3.cell? ⟨w.heap.size + 1, 0, none⟩ = some (.slice Aa c.asg.length ca) := hB.cell 0
        have b1 : w3.cell? ⟨w.heap.size + 1, 1, none⟩ = some (.slice Ab c.words.length cc) := hB.cell 1
        have b2 : w3.cell? ⟨w.heap.size + 1, 2, none⟩ = some (.slice Ai c.inn.length ci) := hB.cell 2
        have b3 : w3.cell? ⟨w.heap.size + 1, 3, none⟩ = some (.slice Ao c.out.length co) := hB.cell 3
        have b4 : w3.cell? ⟨w.heap.size + 1, 4, none⟩ = some (.bool c.app) := hB.cell 4
        have r0 : w3.cell? ⟨w.heap.size, 0, none⟩ = some (.slice none 0 0) := hR.cell 0
        have r1 : w3.cell? ⟨w.heap.size, 1, none⟩ = some (.slice none 0 0) := hR.cell 1
        have r2 : w3.cell? ⟨w.heap.size, 2, none⟩ = some (.slice none 0 0) := hR.cell 2
        have r3 : w3.cell? ⟨w.heap.size, 3, none⟩ = some (.slice none 0 0) := hR.cell 3
        have r4 : w3.cell? ⟨w.heap.size, 4, none⟩ = some (.bool false) := hR.cell 4
        have rf0 := hR.frozen 0
        have rf1 := hR.frozen 1
        have rf2 := hR.frozen 2
        have rf3 := hR.frozen 3
        have rf4 := hR.frozen 4
        have hcb : w.heap.size + 1 < w3.heap.size := hB.lt
        have hrb : w.heap.size < w3.heap.size := hR.lt
        clear hB hN4 hR
        by_cases ha : c.asg.length = 0
        · have m1 : ((c.asg.length : Int) == 0) = true := beq_iff_eq.2 (by omega)
          by_cases hwd : c.words.length = 0
          · have m2 : ((c.words.length : Int) == 0) = true := beq_iff_eq.2 (by omega)
            have HNO := Lib.hid (show smNone c = true by unfold smNone; rw [List.length_eq_zero_iff.1 ha, List.length_eq_zero_iff.1 hwd]; rfl)
            have HA := Lib.hid ha
            have HWD := Lib.hid hwd
            clear ha hwd
            go_wp2_with fail
            refine (pfail_first _ pb _ en 0 (Tk.pos u) 30 HS3.out.1).mono ?_
            rintro e w4 ⟨rfl, hp4, hg4⟩
            have HS4 := Lib.hid (HS3.out.par hg4 hp4)
            clear hp4 hg4 t0 htb b0 b1 b2 b3 b4 r0 r1 r2 r3 r4 rf0 rf1 rf2 rf3 rf4 HB HN4 HR hcb hrb
            clear m1 m2
            obtain ⟨Aa, ca, Ab, cc, Ai, ci, Ao, co, hB, hN4⟩ := sm_cells HS4.out
            have HB := Lib.hid hB
            have HN4 := Lib.hid hN4
            have hR := sm_res HS4.out hpb
            have HR := Lib.hid hR
            have b0 : w4.cell? ⟨w.heap.size + 1, 0, none⟩ = some (.slice Aa c.asg.length ca) := hB.cell 0
            have b1 : w4.cell? ⟨w.heap.size + 1, 1, none⟩ = some (.slice Ab c.words.length cc) := hB.cell 1
            have b2 : w4.cell? ⟨w.heap.size + 1, 2, none⟩ = some (.slice Ai c.inn.length ci) := hB.cell 2
            have b3 : w4.cell? ⟨w.heap.size + 1, 3, none⟩ = some (.slice Ao c.out.length co) := hB.cell 3
            have b4 : w4.cell? ⟨w.heap.size + 1, 4, none⟩ = some (.bool c.app) := hB.cell 4
            have r0 : w4.cell? ⟨w.heap.size, 0, none⟩ = some (.slice none 0 0) := hR.cell 0
            have r1 : w4.cell? ⟨w.heap.size, 1, none⟩ = some (.slice none 0 0) := hR.cell 1
            have r2 : w4.cell? ⟨w.heap.size, 2, none⟩ = some (.slice none 0 0) := hR.cell 2
            have r3 : w4.cell? ⟨w.heap.size, 3, none⟩ = some (.slice none 0 0) := hR.cell 3
            have r4 : w4.cell? ⟨w.heap.size, 4, none⟩ = some (.bool false) := hR.cell 4
            have rf0 := hR.frozen 0
            have rf1 := hR.frozen 1
            have rf2 := hR.frozen 2
            have rf3 := hR.frozen 3
            have rf4 := hR.frozen 4
            have hcb : w.heap.size + 1 < w4.heap.size := hB.lt
            have hrb : w.heap.size < w4.heap.size := hR.lt
            clear hB hN4 hR
            go_wp2
            refine bodyPost_ret (v := .agg #[.slice Aa c.asg.length ca, .slice Ab c.words.length cc, .slice Ai c.inn.length ci, .slice Ao c.out.length co, .bool c.app]) (by simp [results, Try.results101, go_sem, hrb, r0, r1, r2, r3, r4]) rfl ?_
            refine simple_bad (e := 30) (by rw [HR0.out, simS_nil, if_pos HNO.out, HUU.out]) (by decide) HS4.out HN4.out HR.out ?_
            repeat' first | with_reducible exact World.grownBy.refl _ _ | (refine only_setCell ?_ (.inl rfl) _)
          · have m2 : ((c.words.length : Int) == 0) = false := beq_false_of_ne (by omega)
            have HNO := Lib.hid (show smNone c = false by
              unfold smNone
              cases hh : c.words with
              | nil => rw [hh] at hwd; simp at hwd
              | cons a l => simp)
            have HA := Lib.hid ha
            clear ha
            go_wp2
            refine bodyPost_ret (v := .agg #[.slice Aa c.asg.length ca, .slice Ab c.words.length cc, .slice Ai c.inn.length ci, .slice Ao c.out.length co, .bool c.app]) (by simp [results, Try.results101, go_sem, hrb, r0, r1, r2, r3, r4]) rfl ?_
            refine simple_ok (by rw [HR0.out, simS_nil, if_neg (by rw [HNO.out]; decide)]) HS3.out HN4.out HR.out ?_
            repeat' first | with_reducible exact World.grownBy.refl _ _ | (refine only_setCell ?_ (.inl rfl) _)
        · have m1 : ((c.asg.length : Int) == 0) = false := beq_false_of_ne (by omega)
          have HNO := Lib.hid (show smNone c = false by
            unfold smNone
            cases hh : c.asg with
            | nil => rw [hh] at ha; simp at ha
            | cons a l => simp)
          go_wp2
          refine bodyPost_ret (v := .agg #[.slice Aa c.asg.length ca, .slice Ab c.words.length cc, .slice Ai c.inn.length ci, .slice Ao c.out.length co, .bool c.app]) (by simp [results, Try.results101, go_sem, hrb, r0, r1, r2, r3, r4]) rfl ?_
          refine simple_ok (by rw [HR0.out, simS_nil, if_neg (by rw [HNO.out]; decide)]) HS3.out HN4.out HR.out ?_
          repeat' first | with_reducible exact World.grownBy.refl _ _ | (refine only_setCell ?_ (.inl rfl) _)

      | cons t ts2 =>
        have HUT := Lib.hid (show hdT en (t :: ts2) = t from rfl)
        have HTO := Lib.hid (HOK1.out t (by simp))
        have HOK2 := Lib.hid (fun x hx => HOK1.out x (List.mem_cons_of_mem _ hx) : ∀ x ∈ ts2, TkOk N x)
        cases hre : redS t.op with
        | true =>
          have HRE := Lib.hid hre
          clear hre
          have HR1 := Lib.hid (HR0.out.trans (simS_red en t ts2 c HRE.out))
          obtain ⟨u, hu⟩ : ∃ u : Tk, hdT en ts2 = u := ⟨_, rfl⟩
          rw [hu] at HR1
          have HU := Lib.hid hu
          clear hu
          go_wp2_with fail
          refine (next_hd _ pb (t :: ts2) en 0 0 t HUT.out HS.out.1 (Nat.le_trans hl1 (by decide))).mono ?_
          rintro e w1 ⟨v1, rfl, hv1, hb1⟩
          unfold tokA
          have HS1 := Lib.hid ((HS.out.next hb1).next ((Below.refl _ _).alloc (Nat.le_refl _) (.cells #[.int .i64 (Tk.pos t : Int), .string (bs (Tk.op t)), v1, .string (bs (Tk.name t))] 128)))
          have HT1 := Lib.hid (Blk.new w1 128 #[.int .i64 (Tk.pos t : Int), .string (bs (Tk.op t)), v1, .string (bs (Tk.name t))])
          have HV1 := Lib.hid (Rd.next hv1 ((Below.refl _ _).alloc (Nat.le_refl _) (.cells #[.int .i64 (Tk.pos t : Int), .string (bs (Tk.op t)), v1, .string (bs (Tk.name t))] 128)))
          obtain ⟨A1, c1, rfl, _⟩ := Rd.form hv1
          clear hv1 hb1 HS
          go_upto_region 6 with (fail)
          generalize (w1.alloc (.cells #[.int .i64 (Tk.pos t : Int), .string (bs (Tk.op t)), .slice A1 (List.length (Tk.word t)) c1, .string (bs (Tk.name t))] 128)) = wa at *
          generalize w1.heap.size = tb at *
          have t0 : wa.cell? ⟨tb, 0, none⟩ = some (.int .i64 (Tk.pos t : Int)) := HT1.out.cell 0
          have t1 : wa.cell? ⟨tb, 1, none⟩ = some (.string (bs (Tk.op t))) := HT1.out.cell 1
          have t2 : wa.cell? ⟨tb, 2, none⟩ = some (.slice A1 (List.length (Tk.word t)) c1) := HT1.out.cell 2
          have t3 : wa.cell? ⟨tb, 3, none⟩ = some (.string (bs (Tk.name t))) := HT1.out.cell 3
          have htb : tb < wa.heap.size := HT1.out.lt
          go_wp2_with fail
          refine (isRed_is _ t _ true HRE.out).mono ?_
          rintro e w2 ⟨rfl, hb2⟩
          have HS2 := Lib.hid (HS1.out.next hb2)
          have HT2 := Lib.hid (HT1.out.next hb2 htb)
          have HV2 := Lib.hid (Rd.next HV1.out hb2)
          clear HS1 HT1 HV1 hb2 t0 t1 t2 t3 htb
          by_cases ho : t.op = [60]
          · have HO := Lib.hid ho
            have hb : (t.op == [60]) = true := by simpa using ho
            have HB1 := Lib.hid hb
            clear ho hb
            by_cases hd : c.inn.length = 0
            · have HD := Lib.hid (show dupS t c = false by unfold dupS; rw [HB1.out]; simp [List.length_eq_zero_iff.1 hd])
              by_cases hw : u.word.length = 0
              · have HR2 := Lib.hid ((HR1.out.trans (if_neg (by rw [HD.out]; decide))).trans (if_pos (by rw [List.length_eq_zero_iff.1 hw]; rfl)))
                have HWL := Lib.hid hw
                have HDL := Lib.hid hd
                clear hw hd
                go_wp2_with fail
                refine (red_bad_in _ _ pb _ t ts2 en c HS2.out (Nat.le_trans hl1 (by decide)) HO.out HDL.out u HU.out HWL.out).mono ?_
                rintro e w3 ⟨rfl, k3⟩
                clear HT2 HV2
                go_wp2
                go_roundg (gk - 1)
                case rel => exact .inr ⟨c, u.pos, 30, k3, by omega, by decide, HR2.out⟩
                case measure => omega
              · have HR2 := Lib.hid ((HR1.out.trans (if_neg (by rw [HD.out]; decide))).trans (if_neg (by intro e; exact hw (by rw [List.isEmpty_iff.1 e]; rfl))))
                have hw' : 0 < u.word.length := by omega
                have HWL := Lib.hid hw'
                have HDL := Lib.hid hd
                clear hw hd hw'
                go_wp2_with fail
                refine (red_ok_in _ _ pb _ t ts2 en c HS2.out (Nat.le_trans hl1 (by decide)) HO.out HDL.out u HU.out HWL.out).mono ?_
                rintro e w3 ⟨rfl, k3⟩
                clear HT2 HV2
                have htl : ts2.tail.length ≤ ts2.length := by simp
                simp only [List.length_cons] at hgk hl1
                go_wp2
                go_roundg (gk - 1)
                case rel => exact .inl ⟨ts2.tail, _, k3, fun x hx => HOK2.out x (List.mem_of_mem_tail hx), by omega, by omega, hcw, hca, by rw [HR2.out]; unfold redC; rw [HB1.out]; rfl⟩
                case measure => omega
            · have HD := Lib.hid (show dupS t c = true by
                unfold dupS; rw [HB1.out]
                cases hh : c.inn with
                | nil => rw [hh] at hd; simp at hd
                | cons a l => rfl)
              have HR2 := Lib.hid (HR1.out.trans (if_pos HD.out))
              have hd' : 0 < c.inn.length := by omega
              have HDL := Lib.hid hd'
              clear hd hd'
              go_wp2_with fail
              refine (red_dup_in _ _ pb _ t ts2 en c HS2.out (Nat.le_trans hl1 (by decide)) HO.out HDL.out).mono ?_
              rintro e w3 ⟨rfl, k3⟩
              clear HT2 HV2
              go_wp2
              go_roundg (gk - 1)
              case rel => exact .inr ⟨c, t.pos, 7, k3, by omega, by decide, HR2.out⟩
              case measure => omega
          · have HO := Lib.hid ho
            have hb : (t.op == [60]) = false := by simpa using ho
            have HB1 := Lib.hid hb
            clear ho hb
            by_cases hd : c.out.length = 0
            · have HD := Lib.hid (show dupS t c = false by unfold dupS; rw [HB1.out]; simp [List.length_eq_zero_iff.1 hd])
              by_cases hw : u.word.length = 0
              · have HR2 := Lib.hid ((HR1.out.trans (if_neg (by rw [HD.out]; decide))).trans (if_pos (by rw [List.length_eq_zero_iff.1 hw]; rfl)))
                have HWL := Lib.hid hw
                have HDL := Lib.hid hd
                clear hw hd
                go_wp2_with fail
                refine (red_bad_out _ _ pb _ t ts2 en c HS2.out (Nat.le_trans hl1 (by decide)) HO.out HDL.out u HU.out HWL.out).mono ?_
                rintro e w3 ⟨rfl, k3⟩
                clear HT2 HV2
                go_wp2
                go_roundg (gk - 1)
                case rel => exact .inr ⟨c, u.pos, 30, k3, by omega, by decide, HR2.out⟩
                case measure => omega
              · have HR2 := Lib.hid ((HR1.out.trans (if_neg (by rw [HD.out]; decide))).trans (if_neg (by intro e; exact hw (by rw [List.isEmpty_iff.1 e]; rfl))))
                have hw' : 0 < u.word.length := by omega
                have HWL := Lib.hid hw'
                have HDL := Lib.hid hd
                clear hw hd hw'
                go_wp2_with fail
                refine (red_ok_out _ _ pb _ t ts2 en c HS2.out (Nat.le_trans hl1 (by decide)) HO.out HDL.out u HU.out HWL.out).mono ?_
                rintro e w3 ⟨rfl, k3⟩
                clear HT2 HV2
                have htl : ts2.tail.length ≤ ts2.length := by simp
                simp only [List.length_cons] at hgk hl1
                go_wp2
                go_roundg (gk - 1)
                case rel => exact .inl ⟨ts2.tail, _, k3, fun x hx => HOK2.out x (List.mem_of_mem_tail hx), by omega, by omega, hcw, hca, by rw [HR2.out]; unfold redC; rw [HB1.out]; rfl⟩
                case measure => omega
            · have HD := Lib.hid (show dupS t c = true by
                unfold dupS; rw [HB1.out]
                cases hh : c.out with
                | nil => rw [hh] at hd; simp at hd
                | cons a l => rfl)
              have HR2 := Lib.hid (HR1.out.trans (if_pos HD.out))
              have hd' : 0 < c.out.length := by omega
              have HDL := Lib.hid hd'
              clear hd hd'
              go_wp2_with fail
              refine (red_dup_out _ _ pb _ t ts2 en c HS2.out (Nat.le_trans hl1 (by decide)) HO.out HDL.out).mono ?_
              rintro e w3 ⟨rfl, k3⟩
              clear HT2 HV2
              go_wp2
              go_roundg (gk - 1)
              case rel => exact .inr ⟨c, t.pos, 7, k3, by omega, by decide, HR2.out⟩
              case measure => omega
        | false =>
          have HRE := Lib.hid hre
          clear hre
          by_cases hw : t.word.length = 0
          · have HWE := Lib.hid hw
            have HR1 := Lib.hid (HR0.out.trans (simS_stop en t ts2 c HRE.out (by rw [List.length_eq_zero_iff.1 hw]; rfl)))
            clear hw
            go_wp2_with fail
            refine (next_hd _ pb (t :: ts2) en 0 0 t HUT.out HS.out.1 (Nat.le_trans hl1 (by decide))).mono ?_
            rintro e w1 ⟨v1, rfl, hv1, hb1⟩
            unfold tokA
            have HS1 := Lib.hid ((HS.out.next hb1).next ((Below.refl _ _).alloc (Nat.le_refl _) (.cells #[.int .i64 (Tk.pos t : Int), .string (bs (Tk.op t)), v1, .string (bs (Tk.name t))] 128)))
            have HT1 := Lib.hid (Blk.new w1 128 #[.int .i64 (Tk.pos t : Int), .string (bs (Tk.op t)), v1, .string (bs (Tk.name t))])
            have HV1 := Lib.hid (Rd.next hv1 ((Below.refl _ _).alloc (Nat.le_refl _) (.cells #[.int .i64 (Tk.pos t : Int), .string (bs (Tk.op t)), v1, .string (bs (Tk.name t))] 128)))
            obtain ⟨A1, c1, rfl, _⟩ := Rd.form hv1
            clear hv1 hb1 HS
            go_upto_region 6 with (fail)
            generalize (w1.alloc (.cells #[.int .i64 (Tk.pos t : Int), .string (bs (Tk.op t)), .slice A1 (List.length (Tk.word t)) c1, .string (bs (Tk.name t))] 128)) = wa at *
            generalize w1.heap.size = tb at *
            have t0 : wa.cell? ⟨tb, 0, none⟩ = some (.int .i64 (Tk.pos t : Int)) := HT1.out.cell 0
            have t1 : wa.cell? ⟨tb, 1, none⟩ = some (.string (bs (Tk.op t))) := HT1.out.cell 1
            have t2 : wa.cell? ⟨tb, 2, none⟩ = some (.slice A1 (List.length (Tk.word t)) c1) := HT1.out.cell 2
            have t3 : wa.cell? ⟨tb, 3, none⟩ = some (.string (bs (Tk.name t))) := HT1.out.cell 3
            have htb : tb < wa.heap.size := HT1.out.lt
            go_wp2_with fail
            refine (isRed_is _ t _ false HRE.out).mono ?_
            rintro e w2 ⟨rfl, hb2⟩
            have HS2 := Lib.hid (HS1.out.next hb2)
            have HT2 := Lib.hid (HT1.out.next hb2 htb)
            have HV2 := Lib.hid (Rd.next HV1.out hb2)
            clear HS1 HT1 HV1 hb2 t0 t1 t2 t3 htb
            have t0 : w2.cell? ⟨tb, 0, none⟩ = some (.int .i64 (Tk.pos t : Int)) := HT2.out.cell 0
            have t1 : w2.cell? ⟨tb, 1, none⟩ = some (.string (bs (Tk.op t))) := HT2.out.cell 1
            have t2 : w2.cell? ⟨tb, 2, none⟩ = some (.slice A1 (List.length (Tk.word t)) c1) := HT2.out.cell 2
            have t3 : w2.cell? ⟨tb, 3, none⟩ = some (.string (bs (Tk.name t))) := HT2.out.cell 3
            have htb : tb < w2.heap.size := HT2.out.lt
            go_wp2_with fail
            refine (isWord_no _ t _ HV2.out HWE.out).mono ?_
            rintro e w3 ⟨rfl, hb3⟩
            have HS3 := Lib.hid (HS2.out.next hb3)
            have HT3 := Lib.hid (HT2.out.next hb3 htb)
            clear HS2 HT2 HV2 hb3 t0 t1 t2 t3 htb
            have t0 : w3.cell? ⟨tb, 0, none⟩ = some (.int .i64 (Tk.pos t : Int)) := HT3.out.cell 0
            have htb : tb < w3.heap.size := HT3.out.lt
            obtain ⟨Aa, ca, Ab, cc, Ai, ci, Ao, co, hB, hN4⟩ := sm_cells HS3.out
            have HB := Lib.hid hB
            have HN4 := Lib.hid hN4
            have hR := sm_res HS3.out hpb
            have HR := Lib.hid hR
            have b0 : w3.cell? ⟨w.heap.size + 1, 0, none⟩ = some (.slice Aa c.asg.length ca) := hB.cell 0
            have b1 : w3.cell? ⟨w.heap.size + 1, 1, none⟩ = some (.slice Ab c.words.length cc) := hB.cell 1
            have b2 : w3.cell? ⟨w.heap.size + 1, 2, none⟩ = some (.slice Ai c.inn.length ci) := hB.cell 2
            have b3 : w3.cell? ⟨w.heap.size + 1, 3, none⟩ = some (.slice Ao c.out.length co) := hB.cell 3
            have b4 : w3.cell? ⟨w.heap.size + 1, 4, none⟩ = some (.bool c.app) := hB.cell 4
            have r0 : w3.cell? ⟨w.heap.size, 0, none⟩ = some (.slice none 0 0) := hR.cell 0
            have r1 : w3.cell? ⟨w.heap.size, 1, none⟩ = some (.slice none 0 0) := hR.cell 1
            have r2 : w3.cell? ⟨w.heap.size, 2, none⟩ = some (.slice none 0 0) := hR.cell 2
            have r3 : w3.cell? ⟨w.heap.size, 3, none⟩ = some (.slice none 0 0) := hR.cell 3
            have r4 : w3.cell? ⟨w.heap.size, 4, none⟩ = some (.bool false) := hR.cell 4
            have rf0 := hR.frozen 0
            have rf1 := hR.frozen 1
            have rf2 := hR.frozen 2
            have rf3 := hR.frozen 3
            have rf4 := hR.frozen 4
            have hcb : w.heap.size + 1 < w3.heap.size := hB.lt
            have hrb : w.heap.size < w3.heap.size := hR.lt
            clear hB hN4 hR
            by_cases ha : c.asg.length = 0
            · have m1 : ((c.asg.length : Int) == 0) = true := beq_iff_eq.2 (by omega)
              by_cases hwd : c.words.length = 0
              · have m2 : ((c.words.length : Int) == 0) = true := beq_iff_eq.2 (by omega)
                have HNO := Lib.hid (show smNone c = true by unfold smNone; rw [List.length_eq_zero_iff.1 ha, List.length_eq_zero_iff.1 hwd]; rfl)
                have HA := Lib.hid ha
                have HWD := Lib.hid hwd
                clear ha hwd
                go_wp2_with fail
                refine (pfail_first _ pb _ en 0 (Tk.pos t) 30 HS3.out.1).mono ?_
                rintro e w4 ⟨rfl, hp4, hg4⟩
                have HS4 := Lib.hid (HS3.out.par hg4 hp4)
                clear hp4 hg4 t0 htb b0 b1 b2 b3 b4 r0 r1 r2 r3 r4 rf0 rf1 rf2 rf3 rf4 HB HN4 HR hcb hrb
                clear m1 m2
                obtain ⟨Aa, ca, Ab, cc, Ai, ci, Ao, co, hB, hN4⟩ := sm_cells HS4.out
                have HB := Lib.hid hB
                have HN4 := Lib.hid hN4
                have hR := sm_res HS4.out hpb
                have HR := Lib.hid hR
                have b0 : w4.cell? ⟨w.heap.size + 1, 0, none⟩ = some (.slice Aa c.asg.length ca) := hB.cell 0
                have b1 : w4.cell? ⟨w.heap.size + 1, 1, none⟩ = some (.slice Ab c.words.length cc) := hB.cell 1
                have b2 : w4.cell? ⟨w.heap.size + 1, 2, none⟩ = some (.slice Ai c.inn.length ci) := hB.cell 2
                have b3 : w4.cell? ⟨w.heap.size + 1, 3, none⟩ = some (.slice Ao c.out.length co) := hB.cell 3
                have b4 : w4.cell? ⟨w.heap.size + 1, 4, none⟩ = some (.bool c.app) := hB.cell 4
                have r0 : w4.cell? ⟨w.heap.size, 0, none⟩ = some (.slice none 0 0) := hR.cell 0
                have r1 : w4.cell? ⟨w.heap.size, 1, none⟩ = some (.slice none 0 0) := hR.cell 1
                have r2 : w4.cell? ⟨w.heap.size, 2, none⟩ = some (.slice none 0 0) := hR.cell 2
                have r3 : w4.cell? ⟨w.heap.size, 3, none⟩ = some (.slice none 0 0) := hR.cell 3
                have r4 : w4.cell? ⟨w.heap.size, 4, none⟩ = some (.bool false) := hR.cell 4
                have rf0 := hR.frozen 0
                have rf1 := hR.frozen 1
                have rf2 := hR.frozen 2
                have rf3 := hR.frozen 3
                have rf4 := hR.frozen 4
                have hcb : w.heap.size + 1 < w4.heap.size := hB.lt
                have hrb : w.heap.size < w4.heap.size := hR.lt
                clear hB hN4 hR
                go_wp2
                refine bodyPost_ret (v := .agg #[.slice Aa c.asg.length ca, .slice Ab c.words.length cc, .slice Ai c.inn.length ci, .slice Ao c.out.length co, .bool c.app]) (by simp [results, Try.results101, go_sem, hrb, r0, r1, r2, r3, r4]) rfl ?_
                refine simple_bad (e := 30) (by rw [HR1.out, if_pos HNO.out]) (by decide) HS4.out HN4.out HR.out ?_
                repeat' first | with_reducible exact World.grownBy.refl _ _ | (refine only_setCell ?_ (.inl rfl) _)
              · have m2 : ((c.words.length : Int) == 0) = false := beq_false_of_ne (by omega)
                have HNO := Lib.hid (show smNone c = false by
                  unfold smNone
                  cases hh : c.words with
                  | nil => rw [hh] at hwd; simp at hwd
                  | cons a l => simp)
                have HA := Lib.hid ha
                clear ha
                go_wp2
                refine bodyPost_ret (v := .agg #[.slice Aa c.asg.length ca, .slice Ab c.words.length cc, .slice Ai c.inn.length ci, .slice Ao c.out.length co, .bool c.app]) (by simp [results, Try.results101, go_sem, hrb, r0, r1, r2, r3, r4]) rfl ?_
                refine simple_ok (by rw [HR1.out, if_neg (by rw [HNO.out]; decide)]) HS3.out HN4.out HR.out ?_
                repeat' first | with_reducible exact World.grownBy.refl _ _ | (refine only_setCell ?_ (.inl rfl) _)
            · have m1 : ((c.asg.length : Int) == 0) = false := beq_false_of_ne (by omega)
              have HNO := Lib.hid (show smNone c = false by
                unfold smNone
                cases hh : c.asg with
                | nil => rw [hh] at ha; simp at ha
                | cons a l => simp)
              go_wp2
              refine bodyPost_ret (v := .agg #[.slice Aa c.asg.length ca, .slice Ab c.words.length cc, .slice Ai c.inn.length ci, .slice Ao c.out.length co, .bool c.app]) (by simp [results, Try.results101, go_sem, hrb, r0, r1, r2, r3, r4]) rfl ?_
              refine simple_ok (by rw [HR1.out, if_neg (by rw [HNO.out]; decide)]) HS3.out HN4.out HR.out ?_
              repeat' first | with_reducible exact World.grownBy.refl _ _ | (refine only_setCell ?_ (.inl rfl) _)
          · have HR1 := Lib.hid (HR0.out.trans (simS_word en t ts2 c HRE.out (by cases hh : t.word with | nil => rw [hh] at hw; exact absurd rfl hw | cons a l => rfl)))
            have hw' : 0 < t.word.length := by omega
            have HWE := Lib.hid hw'
            clear hw hw'
            go_wp2_with fail
            refine (next_hd _ pb (t :: ts2) en 0 0 t HUT.out HS.out.1 (Nat.le_trans hl1 (by decide))).mono ?_
            rintro e w1 ⟨v1, rfl, hv1, hb1⟩
            unfold tokA
            have HS1 := Lib.hid ((HS.out.next hb1).next ((Below.refl _ _).alloc (Nat.le_refl _) (.cells #[.int .i64 (Tk.pos t : Int), .string (bs (Tk.op t)), v1, .string (bs (Tk.name t))] 128)))
            have HT1 := Lib.hid (Blk.new w1 128 #[.int .i64 (Tk.pos t : Int), .string (bs (Tk.op t)), v1, .string (bs (Tk.name t))])
            have HV1 := Lib.hid (Rd.next hv1 ((Below.refl _ _).alloc (Nat.le_refl _) (.cells #[.int .i64 (Tk.pos t : Int), .string (bs (Tk.op t)), v1, .string (bs (Tk.name t))] 128)))
            obtain ⟨A1, c1, rfl, _⟩ := Rd.form hv1
            clear hv1 hb1 HS
            go_upto_region 6 with (fail)
            generalize (w1.alloc (.cells #[.int .i64 (Tk.pos t : Int), .string (bs (Tk.op t)), .slice A1 (List.length (Tk.word t)) c1, .string (bs (Tk.name t))] 128)) = wa at *
            generalize w1.heap.size = tb at *
            have t0 : wa.cell? ⟨tb, 0, none⟩ = some (.int .i64 (Tk.pos t : Int)) := HT1.out.cell 0
            have t1 : wa.cell? ⟨tb, 1, none⟩ = some (.string (bs (Tk.op t))) := HT1.out.cell 1
            have t2 : wa.cell? ⟨tb, 2, none⟩ = some (.slice A1 (List.length (Tk.word t)) c1) := HT1.out.cell 2
            have t3 : wa.cell? ⟨tb, 3, none⟩ = some (.string (bs (Tk.name t))) := HT1.out.cell 3
            have htb : tb < wa.heap.size := HT1.out.lt
            go_wp2_with fail
            refine (isRed_is _ t _ false HRE.out).mono ?_
            rintro e w2 ⟨rfl, hb2⟩
            have HS2 := Lib.hid (HS1.out.next hb2)
            have HT2 := Lib.hid (HT1.out.next hb2 htb)
            have HV2 := Lib.hid (Rd.next HV1.out hb2)
            clear HS1 HT1 HV1 hb2 t0 t1 t2 t3 htb
            have t0 : w2.cell? ⟨tb, 0, none⟩ = some (.int .i64 (Tk.pos t : Int)) := HT2.out.cell 0
            have t1 : w2.cell? ⟨tb, 1, none⟩ = some (.string (bs (Tk.op t))) := HT2.out.cell 1
            have t2 : w2.cell? ⟨tb, 2, none⟩ = some (.slice A1 (List.length (Tk.word t)) c1) := HT2.out.cell 2
            have t3 : w2.cell? ⟨tb, 3, none⟩ = some (.string (bs (Tk.name t))) := HT2.out.cell 3
            have htb : tb < w2.heap.size := HT2.out.lt
            go_wp2_with fail
            refine (isWord_yes _ t _ HV2.out HWE.out).mono ?_
            rintro e w3 ⟨rfl, hb3⟩
            have HS3 := Lib.hid (HS2.out.next hb3)
            have HT3 := Lib.hid (HT2.out.next hb3 htb)
            clear HS2 HT2 HV2 hb3 t0 t1 t2 t3 htb
            simp only [List.length_cons] at hgk hl1
            by_cases hn : 0 < t.name.length ∧ c.words.length = 0
            · have HR2 := Lib.hid (HR1.out.trans (if_pos (by rw [List.length_eq_zero_iff.1 hn.2]; cases hh : t.name with | nil => rw [hh] at hn; simp at hn | cons a l => rfl)))
              obtain ⟨hn1, hn2⟩ := hn
              by_cases ha : c.asg.length = 32
              · have HR3 := Lib.hid (HR2.out.trans (if_pos ha))
                have HN2 := Lib.hid hn2
                have HA := Lib.hid ha
                clear hn2 ha
                go_wp2_with fail
                refine (word_asg_full _ _ pb _ t ts2 en c HS3.out (by simp; omega) hn1 HN2.out HA.out).mono ?_
                rintro e w4 ⟨rfl, k3⟩
                clear HT3
                go_wp2
                go_roundg (gk - 1)
                case rel => exact .inr ⟨c, t.pos, 9, k3, by omega, by decide, HR3.out⟩
                case measure => omega
              · have HR3 := Lib.hid (HR2.out.trans (if_neg ha))
                have ha' : c.asg.length < 32 := by omega
                have HN2 := Lib.hid hn2
                obtain ⟨f, r, hf, hfl⟩ := HTO.out.2.2.1 (by intro e; rw [e] at hn1; simp at hn1)
                have hrl : r.length ≤ 100000 := by have := HTO.out.1; rw [hf] at this; simp at this; omega
                have hnl : t.name.length ≤ 100000 := by have := HTO.out.2.1; omega
                have HF := Lib.hid hf
                clear hn2 ha hf
                go_wp2_with fail
                refine (word_asg _ _ pb _ t ts2 en c HS3.out (by simp; omega) hn1 HN2.out ha' f r HF.out hfl hnl hrl).mono ?_
                rintro e w4 ⟨rfl, k3⟩
                clear HT3 hfl
                go_wp2
                go_roundg (gk - 1)
                case rel => exact .inl ⟨ts2, _, k3, HOK2.out, by omega, by omega, hcw, by simp; omega, HR3.out⟩
                case measure => omega
            · have HR2 := Lib.hid (HR1.out.trans (if_neg (by
                intro e
                simp only [Bool.and_eq_true, Bool.not_eq_true'] at e
                refine hn ⟨?_, by rw [List.isEmpty_iff.1 e.2]; rfl⟩
                cases hh : t.name with
                | nil => rw [hh] at e; simp at e
                | cons a l => simp)))
              by_cases hw2 : c.words.length = 32
              · have HR3 := Lib.hid (HR2.out.trans (if_pos hw2))
                have HW2 := Lib.hid hw2
                clear hw2 hn
                go_wp2_with fail
                refine (word_full _ _ pb _ t ts2 en c HS3.out (by simp; omega) HW2.out).mono ?_
                rintro e w4 ⟨rfl, k3⟩
                clear HT3
                go_wp2
                go_roundg (gk - 1)
                case rel => exact .inr ⟨c, t.pos, 9, k3, by omega, by decide, HR3.out⟩
                case measure => omega
              · have HR3 := Lib.hid (HR2.out.trans (if_neg hw2))
                have hw3 : c.words.length < 32 := by omega
                by_cases hn0 : t.name.length = 0
                · have HN0 := Lib.hid hn0
                  clear hw2 hn hn0
                  go_wp2_with fail
                  refine (word_push0 _ _ pb _ t ts2 en c HS3.out (by simp; omega) HN0.out hw3).mono ?_
                  rintro e w4 ⟨rfl, k3⟩
                  clear HT3
                  go_wp2
                  go_roundg (gk - 1)
                  case rel => exact .inl ⟨ts2, _, k3, HOK2.out, by omega, by omega, by simp; omega, hca, HR3.out⟩
                  case measure => omega
                · have hn1 : 0 < t.name.length := by omega
                  have hw4 : 0 < c.words.length := by
                    rcases Nat.eq_zero_or_pos c.words.length with h | h
                    · exact absurd ⟨hn1, h⟩ hn
                    · exact h
                  clear hw2 hn hn0
                  go_wp2_with fail
                  refine (word_push1 _ _ pb _ t ts2 en c HS3.out (by simp; omega) hn1 hw4 hw3).mono ?_
                  rintro e w4 ⟨rfl, k3⟩
                  clear HT3
                  go_wp2
                  go_roundg (gk - 1)
                  case rel => exact .inl ⟨ts2, _, k3, HOK2.out, by omega, by omega, by simp; omega, hca, HR3.out⟩
                  case measure => omega
    · have HR0 := Lib.hid hr
      have HS := Lib.hid hs
      have HE0 := Lib.hid he
      clear hs hr H0 HOK he
      have HWE := Lib.hid (show List.length (Tk.word ⟨en, [], [], []⟩) = 0 from rfl)
      obtain ⟨u, hu⟩ : ∃ u : Tk, u = ⟨en, [], [], []⟩ := ⟨_, rfl⟩
      have HUU := Lib.hid hu
      rw [← hu] at HWE
      clear hu
      go_wp2_with fail
      refine (next_hd _ pb [] en q e0 u HUU.out.symm HS.out.1 (by simp)).mono ?_
      rintro e w1 ⟨v1, rfl, hv1, hb1⟩
      unfold tokA
      have HS1 := Lib.hid ((HS.out.next hb1).next ((Below.refl _ _).alloc (Nat.le_refl _) (.cells #[.int .i64 (Tk.pos u : Int), .string (bs (Tk.op u)), v1, .string (bs (Tk.name u))] 128)))
      have HT1 := Lib.hid (Blk.new w1 128 #[.int .i64 (Tk.pos u : Int), .string (bs (Tk.op u)), v1, .string (bs (Tk.name u))])
      have HV1 := Lib.hid (Rd.next hv1 ((Below.refl _ _).alloc (Nat.le_refl _) (.cells #[.int .i64 (Tk.pos u : Int), .string (bs (Tk.op u)), v1, .string (bs (Tk.name u))] 128)))
      obtain ⟨A1, c1, rfl, _⟩ := Rd.form hv1
      clear hv1 hb1 HS
      go_upto_region 6 with (fail)
      generalize (w1.alloc (.cells #[.int .i64 (Tk.pos u : Int), .string (bs (Tk.op u)), .slice A1 (List.length (Tk.word u)) c1, .string (bs (Tk.name u))] 128)) = wa at *
      generalize w1.heap.size = tb at *
      have t0 : wa.cell? ⟨tb, 0, none⟩ = some (.int .i64 (Tk.pos u : Int)) := HT1.out.cell 0
      have t1 : wa.cell? ⟨tb, 1, none⟩ = some (.string (bs (Tk.op u))) := HT1.out.cell 1
      have t2 : wa.cell? ⟨tb, 2, none⟩ = some (.slice A1 (List.length (Tk.word u)) c1) := HT1.out.cell 2
      have t3 : wa.cell? ⟨tb, 3, none⟩ = some (.string (bs (Tk.name u))) := HT1.out.cell 3
      have htb : tb < wa.heap.size := HT1.out.lt
      go_wp2_with fail
      refine (isRed_is _ u _ false (by rw [HUU.out]; rfl)).mono ?_
      rintro e w2 ⟨rfl, hb2⟩
      have HS2 := Lib.hid (HS1.out.next hb2)
      have HT2 := Lib.hid (HT1.out.next hb2 htb)
      have HV2 := Lib.hid (Rd.next HV1.out hb2)
      clear HS1 HT1 HV1 hb2 t0 t1 t2 t3 htb
      have t0 : w2.cell? ⟨tb, 0, none⟩ = some (.int .i64 (Tk.pos u : Int)) := HT2.out.cell 0
      have t1 : w2.cell? ⟨tb, 1, none⟩ = some (.string (bs (Tk.op u))) := HT2.out.cell 1
      have t2 : w2.cell? ⟨tb, 2, none⟩ = some (.slice A1 (List.length (Tk.word u)) c1) := HT2.out.cell 2
      have t3 : w2.cell? ⟨tb, 3, none⟩ = some (.string (bs (Tk.name u))) := HT2.out.cell 3
      have htb : tb < w2.heap.size := HT2.out.lt
      go_wp2_with fail
      refine (isWord_no _ u _ HV2.out HWE.out).mono ?_
      rintro e w3 ⟨rfl, hb3⟩
      have HS3 := Lib.hid (HS2.out.next hb3)
      have HT3 := Lib.hid (HT2.out.next hb3 htb)
      clear HS2 HT2 HV2 hb3 t0 t1 t2 t3 htb
      have t0 : w3.cell? ⟨tb, 0, none⟩ = some (.int .i64 (Tk.pos u : Int)) := HT3.out.cell 0
      have htb : tb < w3.heap.size := HT3.out.lt
      obtain ⟨Aa, ca, Ab, cc, Ai, ci, Ao, co, hB, hN4⟩ := sm_cells HS3.out
      have HB := Lib.hid hB
      have HN4 := Lib.hid hN4
      have hR := sm_res HS3.out hpb
      have HR := Lib.hid hR
      have b0 : w3.cell? ⟨w.heap.size + 1, 0, none⟩ = some (.slice Aa c.asg.length ca) := hB.cell 0
      have b1 : w3.cell? ⟨w.heap.size + 1, 1, none⟩ = some (.slice Ab c.words.length cc) := hB.cell 1
      have b2 : w3.cell? ⟨w.heap.size + 1, 2, none⟩ = some (.slice Ai c.inn.length ci) := hB.cell 2
      have b3 : w3.cell? ⟨w.heap.size + 1, 3, none⟩ = some (.slice Ao c.out.length co) := hB.cell 3
      have b4 : w3.cell? ⟨w.heap.size + 1, 4, none⟩ = some (.bool c.app) := hB.cell 4
      have r0 : w3.cell? ⟨w.heap.size, 0, none⟩ = some (.slice none 0 0) := hR.cell 0
      have r1 : w3.cell? ⟨w.heap.size, 1, none⟩ = some (.slice none 0 0) := hR.cell 1
      have r2 : w3.cell? ⟨w.heap.size, 2, none⟩ = some (.slice none 0 0) := hR.cell 2
      have r3 : w3.cell? ⟨w.heap.size, 3, none⟩ = some (.slice none 0 0) := hR.cell 3
      have r4 : w3.cell? ⟨w.heap.size, 4, none⟩ = some (.bool false) := hR.cell 4
      have rf0 := hR.frozen 0
      have rf1 := hR.frozen 1
      have rf2 := hR.frozen 2
      have rf3 := hR.frozen 3
      have rf4 := hR.frozen 4
      have hcb : w.heap.size + 1 < w3.heap.size := hB.lt
      have hrb : w.heap.size < w3.heap.size := hR.lt
      clear hB hN4 hR
      by_cases ha : c.asg.length = 0
      · have m1 : ((c.asg.length : Int) == 0) = true := beq_iff_eq.2 (by omega)
        by_cases hwd : c.words.length = 0
        · have m2 : ((c.words.length : Int) == 0) = true := beq_iff_eq.2 (by omega)
          have HNO := Lib.hid (show smNone c = true by unfold smNone; rw [List.length_eq_zero_iff.1 ha, List.length_eq_zero_iff.1 hwd]; rfl)
          have HA := Lib.hid ha
          have HWD := Lib.hid hwd
          clear ha hwd
          go_wp2_with fail
          refine (pfail_again _ pb _ en q e0 (Tk.pos u) 30 HS3.out.1 HE0.out).mono ?_
          rintro e w4 ⟨rfl, hp4, hg4⟩
          have HS4 := Lib.hid (HS3.out.par hg4 hp4)
          clear hp4 hg4 t0 htb b0 b1 b2 b3 b4 r0 r1 r2 r3 r4 rf0 rf1 rf2 rf3 rf4 HB HN4 HR hcb hrb
          clear m1 m2
          obtain ⟨Aa, ca, Ab, cc, Ai, ci, Ao, co, hB, hN4⟩ := sm_cells HS4.out
          have HB := Lib.hid hB
          have HN4 := Lib.hid hN4
          have hR := sm_res HS4.out hpb
          have HR := Lib.hid hR
          have b0 : w4.cell? ⟨w.heap.size + 1, 0, none⟩ = some (.slice Aa c.asg.length ca) := hB.cell 0
          have b1 : w4.cell? ⟨w.heap.size + 1, 1, none⟩ = some (.slice Ab c.words.length cc) := hB.cell 1
          have b2 : w4.cell? ⟨w.heap.size + 1, 2, none⟩ = some (.slice Ai c.inn.length ci) := hB.cell 2
          have b3 : w4.cell? ⟨w.heap.size + 1, 3, none⟩ = some (.slice Ao c.out.length co) := hB.cell 3
          have b4 : w4.cell? ⟨w.heap.size + 1, 4, none⟩ = some (.bool c.app) := hB.cell 4
          have r0 : w4.cell? ⟨w.heap.size, 0, none⟩ = some (.slice none 0 0) := hR.cell 0
          have r1 : w4.cell? ⟨w.heap.size, 1, none⟩ = some (.slice none 0 0) := hR.cell 1
          have r2 : w4.cell? ⟨w.heap.size, 2, none⟩ = some (.slice none 0 0) := hR.cell 2
          have r3 : w4.cell? ⟨w.heap.size, 3, none⟩ = some (.slice none 0 0) := hR.cell 3
          have r4 : w4.cell? ⟨w.heap.size, 4, none⟩ = some (.bool false) := hR.cell 4
          have rf0 := hR.frozen 0
          have rf1 := hR.frozen 1
          have rf2 := hR.frozen 2
          have rf3 := hR.frozen 3
          have rf4 := hR.frozen 4
          have hcb : w.heap.size + 1 < w4.heap.size := hB.lt
          have hrb : w.heap.size < w4.heap.size := hR.lt
          clear hB hN4 hR
          go_wp2
          refine bodyPost_ret (v := .agg #[.slice Aa c.asg.length ca, .slice Ab c.words.length cc, .slice Ai c.inn.length ci, .slice Ao c.out.length co, .bool c.app]) (by simp [results, Try.results101, go_sem, hrb, r0, r1, r2, r3, r4]) rfl ?_
          refine simple_bad HR0.out HE0.out HS4.out HN4.out HR.out ?_
          repeat' first | with_reducible exact World.grownBy.refl _ _ | (refine only_setCell ?_ (.inl rfl) _)
        · have m2 : ((c.words.length : Int) == 0) = false := beq_false_of_ne (by omega)
          have HNO := Lib.hid (show smNone c = false by
            unfold smNone
            cases hh : c.words with
            | nil => rw [hh] at hwd; simp at hwd
            | cons a l => simp)
          have HA := Lib.hid ha
          clear ha
          go_wp2
          refine bodyPost_ret (v := .agg #[.slice Aa c.asg.length ca, .slice Ab c.words.length cc, .slice Ai c.inn.length ci, .slice Ao c.out.length co, .bool c.app]) (by simp [results, Try.results101, go_sem, hrb, r0, r1, r2, r3, r4]) rfl ?_
          refine simple_bad HR0.out HE0.out HS3.out HN4.out HR.out ?_
          repeat' first | with_reducible exact World.grownBy.refl _ _ | (refine only_setCell ?_ (.inl rfl) _)
      · have m1 : ((c.asg.length : Int) == 0) = false := beq_false_of_ne (by omega)
        have HNO := Lib.hid (show smNone c = false by
          unfold smNone
          cases hh : c.asg with
          | nil => rw [hh] at ha; simp at ha
          | cons a l => simp)
        go_wp2
        refine bodyPost_ret (v := .agg #[.slice Aa c.asg.length ca, .slice Ab c.words.length cc, .slice Ai c.inn.length ci, .slice Ao c.out.length co, .bool c.app]) (by simp [results, Try.results101, go_sem, hrb, r0, r1, r2, r3, r4]) rfl ?_
        refine simple_bad HR0.out HE0.out HS3.out HN4.out HR.out ?_
        repeat' first | with_reducible exact World.grownBy.refl _ _ | (refine only_setCell ?_ (.inl rfl) _)
end Go.Proofs.Ytiddchpkmcncdaa
