/- Walks of layer 41: toSimple, ofSimple. -/
import Derived.Test.YtiddchpkmcncdaaG3
import Derived.Test.YtiddchpkmcncdaaX27
import Derived.Test.YtiddchpkmcncdaaG1
import Derived.Deep.DeepCutAuto
namespace Go.Proofs.Ytiddchpkmcncdaa
open Go.RowKit
set_option linter.unusedSimpArgs false
set_option linter.unusedVariables false

set_option maxRecDepth 100000 in
set_option maxHeartbeats 8000000 in
theorem ofSimple_any (w : World) (va vb vi vo : Value) (c : Sm) (h : NSp 61 42 140 w ⟨va, vb, vi, vo⟩ c) (hlim : SmLim c) :
    Calls Try.prog 49 #[.agg #[va, vb, vi, vo, .bool c.app]] w fun e w' => ∃ va' vb' vi' vo', e = .returned (.agg #[va', vb', vi', vo', .bool c.app]) ∧ NSp 51 39 112 w' ⟨va', vb', vi', vo'⟩ c ∧ Below w.heap.size w w' := by
  obtain ⟨ja, hja, hja0, hja1, hja2⟩ := info_parts info112
  obtain ⟨jw, hjw, hjw0, hjw1, hjw2⟩ := info_parts info39
  obtain ⟨hA, hW, hI, hO⟩ := h
  obtain ⟨l1, l2, l3, l4, l5, l6⟩ := hlim
  obtain ⟨Aa, ca, hva, xa, hA2⟩ := hA.all asgV_len
  obtain ⟨Ab, cb, hvb, xb, hW2⟩ := hW.all wdV_len
  obtain ⟨Ai, ci, hvi, _⟩ := Rd.form hI
  obtain ⟨Ao, co, hvo, _⟩ := Rd.form hO
  simp only at hva hvb hvi hvo hI hO
  subst hva hvb hvi hvo
  have HA := Lib.hid hA2
  have HW := Lib.hid hW2
  have HI := Lib.hid (show Rd 61 w _ c.inn.length (pcC c.inn) from hI)
  have HO := Lib.hid (show Rd 61 w _ c.out.length (pcC c.out) from hO)
  have HL3 := Lib.hid l3
  have HL4 := Lib.hid l4
  clear hA hW hI hO l3 l4 hA2 hW2
  go_enter Try.func49, Try.ntmps49
  go_upto_region 1 with (fail)
  have HB0 := Lib.hid (((Below.refl w.heap.size w).alloc (Nat.le_refl _) (.cells #[.slice Aa c.asg.length ca, .slice Ab c.words.length cb, .slice Ai c.inn.length ci, .slice Ao c.out.length co, .bool c.app] 46)).alloc (by simp) (.cells #[.slice none 0 0, .slice none 0 0, .slice none 0 0, .slice none 0 0, .bool false] 109))
  have HX0 := Lib.hid ((Blk.new w 46 #[.slice Aa c.asg.length ca, .slice Ab c.words.length cb, .slice Ai c.inn.length ci, .slice Ao c.out.length co, .bool c.app]).alloc (.cells #[.slice none 0 0, .slice none 0 0, .slice none 0 0, .slice none 0 0, .bool false] 109))
  have HR0 := Lib.hid (show Blk ((w.alloc (.cells #[.slice Aa c.asg.length ca, .slice Ab c.words.length cb, .slice Ai c.inn.length ci, .slice Ao c.out.length co, .bool c.app] 46)).alloc (.cells #[.slice none 0 0, .slice none 0 0, .slice none 0 0, .slice none 0 0, .bool false] 109)) (w.heap.size + 1) 109 #[.slice none 0 0, .slice none 0 0, .slice none 0 0, .slice none 0 0, .bool false] from by have := Blk.new (w.alloc (.cells #[.slice Aa c.asg.length ca, .slice Ab c.words.length cb, .slice Ai c.inn.length ci, .slice Ao c.out.length co, .bool c.app] 46)) 109 #[.slice none 0 0, .slice none 0 0, .slice none 0 0, .slice none 0 0, .bool false]; simpa using this)
  have RI0 := Lib.hid (Rd.drew (Rd.next HI.out HB0.out))
  have RO0 := Lib.hid (Rd.drew (Rd.next HO.out HB0.out))
  have HBD := Lib.hid (HB0.out.drew)
  generalize ((w.alloc (.cells #[.slice Aa c.asg.length ca, .slice Ab c.words.length cb, .slice Ai c.inn.length ci, .slice Ao c.out.length co, .bool c.app] 46)).alloc (.cells #[.slice none 0 0, .slice none 0 0, .slice none 0 0, .slice none 0 0, .bool false] 109)) = wa at *
  have x2 : wa.cell? ⟨w.heap.size, 2, none⟩ = some (.slice Ai c.inn.length ci) := HX0.out.cell 2
  have x3 : wa.cell? ⟨w.heap.size, 3, none⟩ = some (.slice Ao c.out.length co) := HX0.out.cell 3
  have x4 : wa.cell? ⟨w.heap.size, 4, none⟩ = some (.bool c.app) := HX0.out.cell 4
  have hxl : w.heap.size < wa.drew.heap.size := HX0.out.lt
  have hrl : w.heap.size + 1 < wa.drew.heap.size := HR0.out.lt
  have hrl' : w.heap.size + 1 < wa.heap.size := HR0.out.lt
  have hwl : w.heap.size < wa.heap.size := by omega
  have hq0 : wa.heap.size ≠ w.heap.size := by omega
  have HBZ := Lib.hid (show Below wa.drew.heap.size wa.drew ((wa.alloc (.cells #[.slice none 0 0, .slice none 0 0, .slice none 0 0, .slice none 0 0, .bool false] 109)).drew) from (Below.refl wa.drew.heap.size wa.drew).alloc (Nat.le_refl _) (.cells #[.slice none 0 0, .slice none 0 0, .slice none 0 0, .slice none 0 0, .bool false] 109))
  have DZ := Lib.hid (show Blk ((wa.alloc (.cells #[.slice none 0 0, .slice none 0 0, .slice none 0 0, .slice none 0 0, .bool false] 109)).drew) wa.heap.size 109 #[.slice none 0 0, .slice none 0 0, .slice none 0 0, .slice none 0 0, .bool false] from Blk.new wa 109 #[.slice none 0 0, .slice none 0 0, .slice none 0 0, .slice none 0 0, .bool false])
  have ND1 : Hid ((51 : TypeId) ≠ 109) := Lib.hid (by decide)
  have ND2 : Hid ((46 : TypeId) ≠ 109) := Lib.hid (by decide)
  go_cut [3] (fun s3 wx => ∃ g : Nat, s3 = .pointer (some ⟨g, 0, none⟩) ∧ CvS 61 46 51 39 112 109 w g #[.slice Aa c.asg.length ca, .slice Ab c.words.length cb, .slice Ai c.inn.length ci, .slice Ao c.out.length co, .bool c.app] #[.slice none 0 0, .slice none 0 0, .slice none 0 0, .slice none 0 0, .bool false] ⟨[], [], c.inn, c.out, c.app⟩ wx)
  case first =>
    go_region_held3 (fun w' => w'.cell? ⟨w.heap.size, 2, none⟩ = some (.slice Ai c.inn.length ci) ∧ w'.cell? ⟨w.heap.size, 3, none⟩ = some (.slice Ao c.out.length co) ∧ w'.cell? ⟨w.heap.size, 4, none⟩ = some (.bool c.app))
      (first | (with_reducible exact ⟨y2, y3, y4⟩) | go_keep)
      (first | (go_at_call 21; (with_reducible refine (ofWord_any wa.drew _ c.inn RI0.out l5).mono ?_); rintro e w1 ⟨v1, rfl, ho1, hb1⟩; obtain ⟨AI, cI, rfl, _⟩ := own_len ho1; have QI := Lib.hid (Rd.of_own ho1); have HB1 := Lib.hid hb1; have HB1Z := Lib.hid (HB1.out.alloc HB1.out.size (.cells #[.slice none 0 0, .slice none 0 0, .slice none 0 0, .slice none 0 0, .bool false] 109)); have X1 := Lib.hid (HX0.out.drew.next HB1.out hxl); have D1Z := Lib.hid (Blk.new w1 109 #[.slice none 0 0, .slice none 0 0, .slice none 0 0, .slice none 0 0, .bool false]); have hl1 : wa.heap.size ≤ w1.heap.size := HB1.out.size; have hq1 : w1.heap.size ≠ w.heap.size := Nat.ne_of_gt (Nat.lt_of_lt_of_le hwl hl1); have y2 := X1.out.cell 2; have y3 := X1.out.cell 3; have y4 := X1.out.cell 4; simp only [List.getElem?_toArray, List.getElem?_cons_zero, List.getElem?_cons_succ] at y2 y3 y4; clear ho1 hb1) | (go_at_call 21; (with_reducible refine (ofWord_any ((wa.alloc (.cells #[.slice none 0 0, .slice none 0 0, .slice none 0 0, .slice none 0 0, .bool false] 109)).drew) _ c.inn (Rd.next RI0.out HBZ.out) l5).mono ?_); rintro e w1 ⟨v1, rfl, ho1, hb1⟩; obtain ⟨AI, cI, rfl, _⟩ := own_len ho1; have QI := Lib.hid (Rd.of_own ho1); have HB1 := Lib.hid (HBZ.out.trans (hb1.mono HBZ.out.size)); have D1 := Lib.hid (DZ.out.next hb1 DZ.out.lt); have HB1Z := Lib.hid (HB1.out.alloc HB1.out.size (.cells #[.slice none 0 0, .slice none 0 0, .slice none 0 0, .slice none 0 0, .bool false] 109)); have X1 := Lib.hid (HX0.out.drew.next HB1.out hxl); have D1Z := Lib.hid (Blk.new w1 109 #[.slice none 0 0, .slice none 0 0, .slice none 0 0, .slice none 0 0, .bool false]); have hl1 : wa.heap.size ≤ w1.heap.size := HB1.out.size; have hq1 : w1.heap.size ≠ w.heap.size := Nat.ne_of_gt (Nat.lt_of_lt_of_le hwl hl1); have y2 := X1.out.cell 2; have y3 := X1.out.cell 3; have y4 := X1.out.cell 4; simp only [List.getElem?_toArray, List.getElem?_cons_zero, List.getElem?_cons_succ] at y2 y3 y4; clear ho1 hb1) | (go_at_call 21; (with_reducible refine (ofWord_any wa.drew _ c.out RO0.out l6).mono ?_); rintro e w1 ⟨v1, rfl, ho1, hb1⟩; obtain ⟨AO, cO, rfl, _⟩ := own_len ho1; have QO := Lib.hid (Rd.of_own ho1); have HB1 := Lib.hid hb1; have HB1Z := Lib.hid (HB1.out.alloc HB1.out.size (.cells #[.slice none 0 0, .slice none 0 0, .slice none 0 0, .slice none 0 0, .bool false] 109)); have X1 := Lib.hid (HX0.out.drew.next HB1.out hxl); have D1Z := Lib.hid (Blk.new w1 109 #[.slice none 0 0, .slice none 0 0, .slice none 0 0, .slice none 0 0, .bool false]); have hl1 : wa.heap.size ≤ w1.heap.size := HB1.out.size; have hq1 : w1.heap.size ≠ w.heap.size := Nat.ne_of_gt (Nat.lt_of_lt_of_le hwl hl1); have y2 := X1.out.cell 2; have y3 := X1.out.cell 3; have y4 := X1.out.cell 4; simp only [List.getElem?_toArray, List.getElem?_cons_zero, List.getElem?_cons_succ] at y2 y3 y4; clear ho1 hb1) | (go_at_call 21; (with_reducible refine (ofWord_any ((wa.alloc (.cells #[.slice none 0 0, .slice none 0 0, .slice none 0 0, .slice none 0 0, .bool false] 109)).drew) _ c.out (Rd.next RO0.out HBZ.out) l6).mono ?_); rintro e w1 ⟨v1, rfl, ho1, hb1⟩; obtain ⟨AO, cO, rfl, _⟩ := own_len ho1; have QO := Lib.hid (Rd.of_own ho1); have HB1 := Lib.hid (HBZ.out.trans (hb1.mono HBZ.out.size)); have D1 := Lib.hid (DZ.out.next hb1 DZ.out.lt); have HB1Z := Lib.hid (HB1.out.alloc HB1.out.size (.cells #[.slice none 0 0, .slice none 0 0, .slice none 0 0, .slice none 0 0, .bool false] 109)); have X1 := Lib.hid (HX0.out.drew.next HB1.out hxl); have D1Z := Lib.hid (Blk.new w1 109 #[.slice none 0 0, .slice none 0 0, .slice none 0 0, .slice none 0 0, .bool false]); have hl1 : wa.heap.size ≤ w1.heap.size := HB1.out.size; have hq1 : w1.heap.size ≠ w.heap.size := Nat.ne_of_gt (Nat.lt_of_lt_of_le hwl hl1); have y2 := X1.out.cell 2; have y3 := X1.out.cell 3; have y4 := X1.out.cell 4; simp only [List.getElem?_toArray, List.getElem?_cons_zero, List.getElem?_cons_succ] at y2 y3 y4; clear ho1 hb1) | (go_at_call 21; (with_reducible refine (ofWord_any w1 _ c.inn (Rd.next RI0.out HB1.out) l5).mono ?_); rintro e w2 ⟨v2, rfl, ho2, hb2⟩; obtain ⟨AI, cI, rfl, _⟩ := own_len ho2; have QI := Lib.hid (Rd.of_own ho2); have HB2 := Lib.hid (HB1.out.trans (hb2.mono HB1.out.size)); have X2 := Lib.hid (HX0.out.drew.next HB2.out hxl); have PO := Lib.hid (Rd.next (QO.out) hb2); have PI := Lib.hid (QI.out); have RZ := Lib.hid (HR0.out.drew.next HB2.out hrl); have hl2 : w1.heap.size ≤ w2.heap.size := Nat.le_trans (Nat.le_refl _) hb2.size; have hq2 : w2.heap.size ≠ w.heap.size := Nat.ne_of_gt (Nat.lt_of_lt_of_le hwl (Nat.le_trans hl1 hl2)); (try (have D2 := Lib.hid (D1.out.next hb2 D1.out.lt); have d0 := D2.out.cell 0; have d1 := D2.out.cell 1; have d2 := D2.out.cell 2; have d3 := D2.out.cell 3; have d4 := D2.out.cell 4; have df0 := D2.out.frozen 0; have df1 := D2.out.frozen 1; have df2 := D2.out.frozen 2; have df3 := D2.out.frozen 3; have df4 := D2.out.frozen 4; have hdl := D2.out.lt; simp only [List.getElem?_toArray, List.getElem?_cons_zero, List.getElem?_cons_succ] at d0 d1 d2 d3 d4)); have y2 := X2.out.cell 2; have y3 := X2.out.cell 3; have y4 := X2.out.cell 4; simp only [List.getElem?_toArray, List.getElem?_cons_zero, List.getElem?_cons_succ] at y2 y3 y4; clear ho2 hb2) | (go_at_call 21; (with_reducible refine (ofWord_any (w1.alloc (.cells #[.slice none 0 0, .slice none 0 0, .slice none 0 0, .slice none 0 0, .bool false] 109)) _ c.inn (Rd.next RI0.out HB1Z.out) l5).mono ?_); rintro e w2 ⟨v2, rfl, ho2, hb2⟩; obtain ⟨AI, cI, rfl, _⟩ := own_len ho2; have QI := Lib.hid (Rd.of_own ho2); have HB2 := Lib.hid (HB1Z.out.trans (hb2.mono HB1Z.out.size)); have X2 := Lib.hid (HX0.out.drew.next HB2.out hxl); have PO := Lib.hid (Rd.next (QO.out.next ((Below.refl _ _).alloc (Nat.le_refl _) (.cells #[.slice none 0 0, .slice none 0 0, .slice none 0 0, .slice none 0 0, .bool false] 109))) hb2); have PI := Lib.hid (QI.out); have RZ := Lib.hid (HR0.out.drew.next HB2.out hrl); have hl2 : w1.heap.size ≤ w2.heap.size := Nat.le_trans (by simp) hb2.size; have hq2 : w2.heap.size ≠ w.heap.size := Nat.ne_of_gt (Nat.lt_of_lt_of_le hwl (Nat.le_trans hl1 hl2)); have D2 := Lib.hid (D1Z.out.next hb2 D1Z.out.lt); have d0 := D2.out.cell 0; have d1 := D2.out.cell 1; have d2 := D2.out.cell 2; have d3 := D2.out.cell 3; have d4 := D2.out.cell 4; have df0 := D2.out.frozen 0; have df1 := D2.out.frozen 1; have df2 := D2.out.frozen 2; have df3 := D2.out.frozen 3; have df4 := D2.out.frozen 4; have hdl := D2.out.lt; simp only [List.getElem?_toArray, List.getElem?_cons_zero, List.getElem?_cons_succ] at d0 d1 d2 d3 d4; have y2 := X2.out.cell 2; have y3 := X2.out.cell 3; have y4 := X2.out.cell 4; simp only [List.getElem?_toArray, List.getElem?_cons_zero, List.getElem?_cons_succ] at y2 y3 y4; clear ho2 hb2) | (go_at_call 21; (with_reducible refine (ofWord_any w1 _ c.out (Rd.next RO0.out HB1.out) l6).mono ?_); rintro e w2 ⟨v2, rfl, ho2, hb2⟩; obtain ⟨AO, cO, rfl, _⟩ := own_len ho2; have QO := Lib.hid (Rd.of_own ho2); have HB2 := Lib.hid (HB1.out.trans (hb2.mono HB1.out.size)); have X2 := Lib.hid (HX0.out.drew.next HB2.out hxl); have PI := Lib.hid (Rd.next (QI.out) hb2); have PO := Lib.hid (QO.out); have RZ := Lib.hid (HR0.out.drew.next HB2.out hrl); have hl2 : w1.heap.size ≤ w2.heap.size := Nat.le_trans (Nat.le_refl _) hb2.size; have hq2 : w2.heap.size ≠ w.heap.size := Nat.ne_of_gt (Nat.lt_of_lt_of_le hwl (Nat.le_trans hl1 hl2)); (try (have D2 := Lib.hid (D1.out.next hb2 D1.out.lt); have d0 := D2.out.cell 0; have d1 := D2.out.cell 1; have d2 := D2.out.cell 2; have d3 := D2.out.cell 3; have d4 := D2.out.cell 4; have df0 := D2.out.frozen 0; have df1 := D2.out.frozen 1; have df2 := D2.out.frozen 2; have df3 := D2.out.frozen 3; have df4 := D2.out.frozen 4; have hdl := D2.out.lt; simp only [List.getElem?_toArray, List.getElem?_cons_zero, List.getElem?_cons_succ] at d0 d1 d2 d3 d4)); have y2 := X2.out.cell 2; have y3 := X2.out.cell 3; have y4 := X2.out.cell 4; simp only [List.getElem?_toArray, List.getElem?_cons_zero, List.getElem?_cons_succ] at y2 y3 y4; clear ho2 hb2) | (go_at_call 21; (with_reducible refine (ofWord_any (w1.alloc (.cells #[.slice none 0 0, .slice none 0 0, .slice none 0 0, .slice none 0 0, .bool false] 109)) _ c.out (Rd.next RO0.out HB1Z.out) l6).mono ?_); rintro e w2 ⟨v2, rfl, ho2, hb2⟩; obtain ⟨AO, cO, rfl, _⟩ := own_len ho2; have QO := Lib.hid (Rd.of_own ho2); have HB2 := Lib.hid (HB1Z.out.trans (hb2.mono HB1Z.out.size)); have X2 := Lib.hid (HX0.out.drew.next HB2.out hxl); have PI := Lib.hid (Rd.next (QI.out.next ((Below.refl _ _).alloc (Nat.le_refl _) (.cells #[.slice none 0 0, .slice none 0 0, .slice none 0 0, .slice none 0 0, .bool false] 109))) hb2); have PO := Lib.hid (QO.out); have RZ := Lib.hid (HR0.out.drew.next HB2.out hrl); have hl2 : w1.heap.size ≤ w2.heap.size := Nat.le_trans (by simp) hb2.size; have hq2 : w2.heap.size ≠ w.heap.size := Nat.ne_of_gt (Nat.lt_of_lt_of_le hwl (Nat.le_trans hl1 hl2)); have D2 := Lib.hid (D1Z.out.next hb2 D1Z.out.lt); have d0 := D2.out.cell 0; have d1 := D2.out.cell 1; have d2 := D2.out.cell 2; have d3 := D2.out.cell 3; have d4 := D2.out.cell 4; have df0 := D2.out.frozen 0; have df1 := D2.out.frozen 1; have df2 := D2.out.frozen 2; have df3 := D2.out.frozen 3; have df4 := D2.out.frozen 4; have hdl := D2.out.lt; simp only [List.getElem?_toArray, List.getElem?_cons_zero, List.getElem?_cons_succ] at d0 d1 d2 d3 d4; have y2 := X2.out.cell 2; have y3 := X2.out.cell 3; have y4 := X2.out.cell 4; simp only [List.getElem?_toArray, List.getElem?_cons_zero, List.getElem?_cons_succ] at y2 y3 y4; clear ho2 hb2))
    all_goals
      have HBW := Lib.hid (HBD.out.trans (HB2.out.mono HBD.out.size))
      go_wp2_with fail
      go_meet
      refine ⟨_, rfl, ?_⟩
      first
        | with_reducible exact cv_new HBW.out X2.out RZ.out PI.out PO.out
        | with_reducible exact cv_set ND1.out ND2.out HBW.out X2.out RZ.out D2.out PI.out PO.out hrl'
        | with_reducible exact cv_set ND1.out ND2.out HBW.out X2.out RZ.out D2.out PI.out PO.out (Nat.lt_of_lt_of_le hrl' hl1)
  case rest =>
    obtain ⟨gg, rfl, hC⟩ := hcut
    have HC := Lib.hid hC
    clear hC HB0 HX0 HR0 RI0 RO0 HBD x2 x3 x4 hxl hrl hrl' hwl hq0 HBZ DZ
    go_wp2
    go_loopg [4] (c.asg.length + 1) (fun gk v wr => CvA 61 46 51 39 112 109 w gg #[.slice Aa c.asg.length ca, .slice Ab c.words.length cb, .slice Ai c.inn.length ci, .slice Ao c.out.length co, .bool c.app] #[.slice none 0 0, .slice none 0 0, .slice none 0 0, .slice none 0 0, .bool false] c gk v wr)
    case atStart => exact ⟨0, rfl, Nat.zero_le _, by omega, HC.out⟩
    case round =>
      obtain ⟨k, rfl, hk, hgk, hcs⟩ := hrel
      have HS := Lib.hid hcs
      clear hcs HC
      by_cases hlt : k < c.asg.length
      · obtain ⟨b, o, u, rfl, hb0, hN, hx⟩ := HA.out k hlt
        have hlv := HL3.out c.asg[k] (List.getElem_mem hlt)
        have HTK := Lib.hid (take_next c.asg k hlt)
        obtain ⟨a, ha⟩ : ∃ a, c.asg[k] = a := ⟨_, rfl⟩
        rw [ha] at hN hx hlv HTK
        clear ha
        obtain ⟨Au, cu, rfl, _⟩ := Rd.form hN
        have p0 := hx 0 _ rfl
        have p1 := hx 1 _ rfl
        obtain ⟨hb, hX, hZ, ⟨ga, gb, gi, go, B, ⟨vsa, hwa, hoa⟩, rb, ri, ro⟩, hgg⟩ := HS.out
        simp only at B hwa hoa rb ri ro
        have hlk : (c.asg.take k).length = k := by rw [List.length_take]; omega
        have HLK := Lib.hid hlk
        rw [hlk] at hoa
        obtain ⟨Ga, ca', rfl, _⟩ := own_len hoa
        have hbr : b < wr.heap.size := Nat.lt_of_lt_of_le hb0 hb.size
        have E0 := Lib.hid (show w.cell? ⟨b, o + k * 2, none⟩ = some (.string (bs a.name)) by simpa using p0)
        have E1 := Lib.hid (show w.cell? ⟨b, o + k * 2 + 1, none⟩ = some (.slice Au a.value.length cu) by rw [Nat.add_assoc]; exact p1)
        have e0 : wr.cell? ⟨b, o + k * 2, none⟩ = some (.string (bs a.name)) := ((bcell hb).1 b (o + k * 2) hb0).trans E0.out
        have e1 : wr.cell? ⟨b, o + k * 2 + 1, none⟩ = some (.slice Au a.value.length cu) := ((bcell hb).1 b (o + k * 2 + 1) hb0).trans E1.out
        have x0 : wr.cell? ⟨w.heap.size, 0, none⟩ = some (.slice (some ⟨b, o, none⟩) c.asg.length ca) := hX.cell 0
        have g0 : wr.cell? ⟨gg, 0, none⟩ = some (.slice Ga k ca') := B.cell 0
        have gf0 := B.frozen 0
        have hgl := B.lt
        have HRD := Lib.hid (show Rd 61 wr.drew _ a.value.length (pcC a.value) from Rd.drew (Rd.next hN hb))
        have HX := Lib.hid hX
        have HZ := Lib.hid hZ
        have HB := Lib.hid B
        have HWA := Lib.hid hwa
        have HOA := Lib.hid hoa
        have HRB := Lib.hid rb
        have HRI := Lib.hid ri
        have HRO := Lib.hid ro
        have HBW := Lib.hid hb
        have hxl := hX.lt
        have hxl' : w.heap.size < wr.drew.heap.size := hX.lt
        have hgl' : gg < wr.drew.heap.size := hgl
        have hbr' : b < wr.drew.heap.size := hbr
        have hne := Lib.hid (own_blk_ne hoa B (by decide))
        have hq0 : gg ≠ w.heap.size := by omega
        have hq1 : gg ≠ b := by omega
        have i1 : (0 : Int) ≤ (k : Int) := by omega
        have i2 : (k : Int) < (c.asg.length : Int) := by omega
        have hbase := hb.size
        clear hN hx p0 p1 hX hZ B hwa hoa rb ri ro hb hlk HS
        have hq2 : gg ≠ w.heap.size + 1 := by omega
        have hbs : w.heap.size ≤ gg := by omega
        go_upto_region 5 with (fail)
        refine wp_region_noPanic ?_
        refine wp_region_last (S := (fun w' => w'.cell? ⟨w.heap.size, 0, none⟩ = some (.slice (some ⟨b, o, none⟩) c.asg.length ca) ∧ w'.cell? ⟨b, o + k * 2, none⟩ = some (.string (bs a.name)) ∧ w'.cell? ⟨b, o + k * 2 + 1, none⟩ = some (.slice Au a.value.length cu) ∧ w'.cell? ⟨gg, 0, none⟩ = some (.slice Ga k ca'))) 19 19 rfl (by kernel_rfl) (by kernel_rfl) ?_ (fun hHeld => ?_)
        · exact ⟨x0, e0, e1, g0⟩
        refine wpAnyH_take (i := 0) (v := ?_) rfl (by kernel_rfl) (by kernel_rfl) (by kernel_rfl) (fun _ _ _ h => h) (Or.inl ⟨by rfl, ?_⟩) hHeld ?_
        rotate_left
        · (intro w hSw; (try dsimp only at hSw); go_simp; try with_reducible rfl)
        try simp only [Act.put, List.setIfInBounds_toArray, List.set_cons_zero, List.set_cons_succ]
        refine wpAnyH_take (i := 1) (v := ?_) rfl (by kernel_rfl) (by kernel_rfl) (by kernel_rfl) (fun _ _ _ h => h) (Or.inl ⟨by rfl, ?_⟩) hHeld ?_
        rotate_left
        · (intro w hSw; (try dsimp only at hSw); go_simp; try with_reducible rfl)
        try simp only [Act.put, List.setIfInBounds_toArray, List.set_cons_zero, List.set_cons_succ]
        refine wpAnyH_take (i := 2) (v := ?_) rfl (by kernel_rfl) (by kernel_rfl) (by kernel_rfl) (fun _ _ _ h => h) (Or.inl ⟨by rfl, ?_⟩) hHeld ?_
        rotate_left
        · (intro w hSw; (try dsimp only at hSw); go_simp; try with_reducible rfl)
        try simp only [Act.put, List.setIfInBounds_toArray, List.set_cons_zero, List.set_cons_succ]
        refine wpAnyH_take (i := 3) (v := ?_) rfl (by kernel_rfl) (by kernel_rfl) (by kernel_rfl) (fun _ _ _ h => h) (Or.inl ⟨by rfl, ?_⟩) hHeld ?_
        rotate_left
        · (intro w hSw; (try dsimp only at hSw); go_simp; try with_reducible rfl)
        try simp only [Act.put, List.setIfInBounds_toArray, List.set_cons_zero, List.set_cons_succ]
        refine wpAnyH_take (i := 4) (v := ?_) rfl (by kernel_rfl) (by kernel_rfl) (by kernel_rfl) (fun _ _ _ h => h) (Or.inl ⟨by rfl, ?_⟩) hHeld ?_
        rotate_left
        · (intro w hSw; (try dsimp only at hSw); go_simp; try with_reducible rfl)
        try simp only [Act.put, List.setIfInBounds_toArray, List.set_cons_zero, List.set_cons_succ]
        refine wpAnyH_take (i := 5) (v := ?_) rfl (by kernel_rfl) (by kernel_rfl) (by kernel_rfl) (fun _ _ _ h => h) (Or.inl ⟨by rfl, ?_⟩) hHeld ?_
        rotate_left
        · (intro w hSw; (try dsimp only at hSw); go_simp; try with_reducible rfl)
        try simp only [Act.put, List.setIfInBounds_toArray, List.set_cons_zero, List.set_cons_succ]
        refine wpAnyH_take (i := 6) (v := ?_) rfl (by kernel_rfl) (by kernel_rfl) (by kernel_rfl) (fun _ _ _ h => h) (Or.inl ⟨by rfl, ?_⟩) hHeld ?_
        rotate_left
        · (intro w hSw; (try dsimp only at hSw); go_simp; try with_reducible rfl)
        try simp only [Act.put, List.setIfInBounds_toArray, List.set_cons_zero, List.set_cons_succ]
        refine wpAnyH_take (i := 7) (v := ?_) rfl (by kernel_rfl) (by kernel_rfl) (by kernel_rfl) (fun _ _ _ h => h) (Or.inl ⟨by rfl, ?_⟩) hHeld ?_
        rotate_left
        · (intro w hSw; (try dsimp only at hSw); go_simp; try with_reducible rfl)
        try simp only [Act.put, List.setIfInBounds_toArray, List.set_cons_zero, List.set_cons_succ]
        refine wpAnyH_take (i := 8) (v := ?_) rfl (by kernel_rfl) (by kernel_rfl) (by kernel_rfl) (fun _ _ _ h => h) (Or.inl ⟨by rfl, ?_⟩) hHeld ?_
        rotate_left
        · (intro w hSw; (try dsimp only at hSw); go_simp; try with_reducible rfl)
        try simp only [Act.put, List.setIfInBounds_toArray, List.set_cons_zero, List.set_cons_succ]
        refine wpAnyH_take (i := 9) (v := ?_) rfl (by kernel_rfl) (by kernel_rfl) (by kernel_rfl) (fun _ _ _ h => h) (Or.inl ⟨by rfl, ?_⟩) hHeld ?_
        rotate_left
        · (intro w hSw; (try dsimp only at hSw); go_simp; try with_reducible rfl)
        try simp only [Act.put, List.setIfInBounds_toArray, List.set_cons_zero, List.set_cons_succ]
        refine wpAnyH_take (i := 10) (v := ?_) rfl (by kernel_rfl) (by kernel_rfl) (by kernel_rfl) (fun _ _ _ h => h) (Or.inl ⟨by rfl, ?_⟩) hHeld ?_
        rotate_left
        · (intro w hSw; (try dsimp only at hSw); go_simp; try with_reducible rfl)
        try simp only [Act.put, List.setIfInBounds_toArray, List.set_cons_zero, List.set_cons_succ]
        refine wpAnyH_take (i := 11) (v := ?_) rfl (by kernel_rfl) (by kernel_rfl) (by kernel_rfl) (fun _ _ _ h => h) (Or.inl ⟨by rfl, ?_⟩) hHeld ?_
        rotate_left
        · (intro w hSw; (try dsimp only at hSw); go_simp; try with_reducible rfl)
        try simp only [Act.put, List.setIfInBounds_toArray, List.set_cons_zero, List.set_cons_succ]
        refine wpAnyH_take (i := 12) (v := ?_) rfl (by kernel_rfl) (by kernel_rfl) (by kernel_rfl) (fun _ _ _ h => h) (Or.inl ⟨by rfl, ?_⟩) hHeld ?_
        rotate_left
        · (intro w hSw; (try dsimp only at hSw); go_simp; try with_reducible rfl)
        try simp only [Act.put, List.setIfInBounds_toArray, List.set_cons_zero, List.set_cons_succ]
        refine wpAnyH_take (i := 13) (v := ?_) rfl (by kernel_rfl) (by kernel_rfl) (by kernel_rfl) (fun _ _ _ h => h) (Or.inl ⟨by rfl, ?_⟩) hHeld ?_
        rotate_left
        · (intro w hSw; (try dsimp only at hSw); go_simp; try with_reducible rfl)
        try simp only [Act.put, List.setIfInBounds_toArray, List.set_cons_zero, List.set_cons_succ]
        refine wpAnyH_ready (rs := [14]) (by kernel_rfl) (by simp) ?_
        refine AllReadyH.cons rfl (fun K hK => ?_) AllReadyH.nil
        go_simp
        go_at_call 21; (with_reducible refine (ofWord_any wr.drew _ a.value HRD.out hlv).mono ?_); rintro e w2 ⟨v2, rfl, ho2, hb2⟩; have HB2 := Lib.hid hb2; obtain ⟨Av, cv, rfl, _⟩ := own_len ho2; have HVV := Lib.hid (Rd.of_own ho2); have B2 := Lib.hid (HB.out.drew.next hb2 hgl'); have X2 := Lib.hid (HX.out.drew.next hb2 hxl'); have z0 : w2.cell? ⟨gg, 0, none⟩ = some (.slice Ga k ca') := B2.out.cell 0; have zf0 := B2.out.frozen 0; have hgl2 : gg < w2.heap.size := B2.out.lt; have HBW2 := Lib.hid (HBW.out.drew.trans (hb2.mono HBW.out.size)); have hs2 : w.heap.size ≤ w2.heap.size := HBW2.out.size; have y0 := X2.out.cell 0; simp only [List.getElem?_toArray, List.getElem?_cons_zero] at y0; have y1 := ((bcell hb2).1 b (o + k * 2) hbr').trans e0; have y2 := ((bcell hb2).1 b (o + k * 2 + 1) hbr').trans e1; have hbr2 : b < w2.heap.size := Nat.lt_of_lt_of_le hbr' hb2.size; clear ho2 hb2
        try (go_wp2_with fail)
        refine hK.out _ _ ?_ (fun hNew => ?_)
        · exact ⟨y0, y1, y2, z0⟩
        clear hK K hHeld
        have hHeld := hNew
        clear hNew
        try simp only [Act.put, List.setIfInBounds_toArray, List.set_cons_zero, List.set_cons_succ]
        refine wpAnyH_take (i := 15) (v := ?_) rfl (by kernel_rfl) (by kernel_rfl) (by kernel_rfl) (fun _ _ _ h => h) (Or.inl ⟨by rfl, ?_⟩) hHeld ?_
        rotate_left
        · (intro w hSw; (try dsimp only at hSw); go_simp; try with_reducible rfl)
        try simp only [Act.put, List.setIfInBounds_toArray, List.set_cons_zero, List.set_cons_succ]
        refine wpAnyH_ready (rs := [16]) (by kernel_rfl) (by simp) ?_
        refine AllReadyH.cons rfl (fun K hK => ?_) AllReadyH.nil
        go_simp
        refine hK.out _ _ ?_ (fun hNew => ?_)
        · go_keep
        clear hK K hHeld
        have hHeld := hNew
        clear hNew
        try simp only [Act.put, List.setIfInBounds_toArray, List.set_cons_zero, List.set_cons_succ]
        refine wpAnyH_ready (rs := [17]) (by kernel_rfl) (by simp) ?_
        refine AllReadyH.cons rfl (fun K hK => ?_) AllReadyH.nil
        refine step_append_lies _ (by rfl) _ _ _ (by rfl) w.heap.size 112 ja _ 2 40 Try.underlying106 hja hja0 hja1 hja2 rfl (by omega) (.slice Ga k ca') k (rowC asgV (c.asg.take k) vsa) (by rfl) ((own_next HOA.out.drew HB2.out).alloc _) ⟨w2.heap.size, 0, none⟩ 1 1 [.string (bs a.name), .slice Av a.value.length cv] (by rfl) (by rfl) (World.news_of_block (cs := #[.string (bs a.name), .slice Av a.value.length cv]) (t := 112) (fr := (0, 0)) (heap_alloc_new w2 _)) (by simp [Value.oneCell']) (by omega) (by unfold maxLen; omega) (by omega) (by simp; omega) (w2.heap.size + 1) (by simp) ?_; intro gz cap w3 hown3 hgrow3 hat hlt3; have B3 := Lib.hid (Blk.grown (Blk.alloc B2.out _) hgrow3 (Ne.symm hne.out)); have d0 : w3.cell? ⟨gg, 0, none⟩ = some (.slice Ga k ca') := B3.out.cell 0; have df0 := B3.out.frozen 0; have hgl3 : gg < w3.heap.size := B3.out.lt; have HB3 := Lib.hid (below_own (B := w.heap.size) (HBW2.out.alloc hs2 _) ((own_next HOA.out.drew HB2.out).alloc _) hgrow3 (Nat.le_refl _) (by simp; omega)); have y0 := ((X2.out.alloc _).grown hgrow3 (Ne.symm (own_blk_ne HOA.out.drew HX.out.drew (by decide)))).cell 0; simp only [List.getElem?_toArray, List.getElem?_cons_zero] at y0; have y1 := ((bcell HB3.out).1 b (o + k * 2) hb0).trans E0.out; have y2 := ((bcell HB3.out).1 b (o + k * 2 + 1) hb0).trans E1.out
        refine hK.out _ _ ?_ (fun hNew => ?_)
        · exact ⟨y0, y1, y2, d0⟩
        clear hK K hHeld
        have hHeld := hNew
        clear hNew
        try simp only [Act.put, List.setIfInBounds_toArray, List.set_cons_zero, List.set_cons_succ]
        refine wpAnyH_take (i := 18) (v := ?_) rfl (by kernel_rfl) (by kernel_rfl) (by kernel_rfl) (fun _ _ _ h => h) (Or.inl ⟨by rfl, ?_⟩) hHeld ?_
        rotate_left
        · (intro w hSw; (try dsimp only at hSw); go_simp; try with_reducible rfl)
        try simp only [Act.put, List.setIfInBounds_toArray, List.set_cons_zero, List.set_cons_succ]
        refine wpAnyH_done (by kernel_rfl) ?_ _
        refine lastQ_step rfl (fun K hK => ?_)
        clear hHeld
        go_simp
        refine hK _ _ ?_
        clear hK K
        refine NoPanic.normal ?_
        all_goals
          have HN2 := Lib.hid ((Below.refl w2.heap.size w2).alloc (Nat.le_refl _) (.cells #[.string (bs a.name), .slice Av a.value.length cv] 112))
          have h3' : w2.ownsRow w.heap.size 112 2 (.slice Ga k ca') (c.asg.take k).length (rowC asgV (c.asg.take k) vsa) := by rw [HLK.out]; exact own_next HOA.out.drew HB2.out
          have h4' : w3.ownsRow w.heap.size 112 2 (.slice (some ⟨gz, 0, none⟩) (k + 1) cap) ((c.asg.take k).length + 1) (rowC asgV (c.asg.take k) vsa ++ [.string (bs a.name), .slice Av a.value.length cv]) := by rw [HLK.out]; exact hown3
          have HP := Lib.hid (SmB.pushA (c := ⟨c.asg.take k, [], c.inn, c.out, c.app⟩) (nm := a.name) (val := a.value) (by decide) (by decide) (by decide) (by decide) (by decide) B2.out (HWA.out.imp (fun _ _ h => NAp.next (w := wr.drew) h HB2.out)) h3' (RowOwn.next (w := wr.drew) HRB.out HB2.out (fun _ _ h => NWp.next (w := wr.drew) h HB2.out)) (NWp.next (w := wr.drew) HRI.out HB2.out) (NWp.next (w := wr.drew) HRO.out HB2.out) HN2.out hgrow3 h4' (Rd.next HVV.out HN2.out))
          have HX3 := Lib.hid ((((X2.out.alloc (.cells #[.string (bs a.name), .slice Av a.value.length cv] 112)).grown hgrow3 (Ne.symm (own_blk_ne HOA.out.drew HX.out.drew (by decide)))).far (p := ⟨gg, 0, none⟩) (Ne.symm hq0) (.slice (some ⟨gz, 0, none⟩) (k + 1) cap)))
          have HZ3 := Lib.hid (((((HZ.out.drew.next HB2.out HZ.out.lt).alloc (.cells #[.string (bs a.name), .slice Av a.value.length cv] 112)).grown hgrow3 (Ne.symm (own_blk_ne HOA.out.drew HZ.out.drew (by decide)))).far (p := ⟨gg, 0, none⟩) (Ne.symm hq2) (.slice (some ⟨gz, 0, none⟩) (k + 1) cap)))
          have HB4 := Lib.hid (HB3.out.setCell (p := ⟨gg, 0, none⟩) hbs (.slice (some ⟨gz, 0, none⟩) (k + 1) cap))
          clear h3' h4' hown3 hgrow3 y0 y1 y2 d0 df0 hgl3 z0 zf0 hgl2 hbr2 hs2 hat hlt3 e0 e1 x0 g0 gf0 hgl hbr hne hxl hxl' hgl' hbr'
          generalize (w3.setCell ⟨gg, 0, none⟩ (.slice (some ⟨gz, 0, none⟩) (k + 1) cap)) = wz at *
          go_wp2
          go_roundg (gk - 1)
          case rel => exact ⟨k + 1, by go_num, by omega, by omega, HB4.out, HX3.out, HZ3.out, by rw [HTK.out]; exact HP.out.1, hgg⟩
          case measure => omega
      · obtain rfl : k = c.asg.length := by omega
        rw [List.take_length] at HS
        have x0 : wr.cell? ⟨w.heap.size, 0, none⟩ = some (.slice Aa c.asg.length ca) := HS.out.2.1.cell 0
        have hxl := HS.out.2.1.lt
        go_wp2
        clear hk hlt hgk x0 hxl
        go_loopg [5] (c.words.length + 1) (fun gk v wr => CvW 61 46 51 39 112 109 w gg #[.slice Aa c.asg.length ca, .slice Ab c.words.length cb, .slice Ai c.inn.length ci, .slice Ao c.out.length co, .bool c.app] #[.slice none 0 0, .slice none 0 0, .slice none 0 0, .slice none 0 0, .bool false] c gk v wr)
        case atStart => exact ⟨0, rfl, Nat.zero_le _, by omega, HS.out⟩
        case round =>
          obtain ⟨k, rfl, hk, hgk, hcs⟩ := hrel
          have HS := Lib.hid hcs
          clear hcs
          by_cases hlt : k < c.words.length
          · obtain ⟨b, o, u, rfl, hb0, hN, hx⟩ := HW.out k hlt
            have hlv := HL4.out c.words[k] (List.getElem_mem hlt)
            have HTK := Lib.hid (take_next c.words k hlt)
            obtain ⟨a, ha⟩ : ∃ a, c.words[k] = a := ⟨_, rfl⟩
            rw [ha] at hN hx hlv HTK
            clear ha
            obtain ⟨Au, cu, rfl, _⟩ := Rd.form hN
            have p0 := hx 0 _ rfl
            obtain ⟨hb, hX, hZ, ⟨ga, gb, gi, go, B, ra, ⟨vsa, hwa, hoa⟩, ri, ro⟩, hgg⟩ := HS.out
            simp only at B hwa hoa ra ri ro
            have hlk : (c.words.take k).length = k := by rw [List.length_take]; omega
            have HLK := Lib.hid hlk
            rw [hlk] at hoa
            obtain ⟨Ga, ca', rfl, _⟩ := own_len hoa
            have hbr : b < wr.heap.size := Nat.lt_of_lt_of_le hb0 hb.size
            have E0 := Lib.hid (show w.cell? ⟨b, o + k, none⟩ = some (.slice Au a.length cu) by simpa using p0)
            have e0 : wr.cell? ⟨b, o + k, none⟩ = some (.slice Au a.length cu) := ((bcell hb).1 b (o + k) hb0).trans E0.out
            have x0 : wr.cell? ⟨w.heap.size, 1, none⟩ = some (.slice (some ⟨b, o, none⟩) c.words.length cb) := hX.cell 1
            have g0 : wr.cell? ⟨gg, 1, none⟩ = some (.slice Ga k ca') := B.cell 1
            have gf0 := B.frozen 1
            have hgl := B.lt
            have HRD := Lib.hid (show Rd 61 wr.drew _ a.length (pcC a) from Rd.drew (Rd.next hN hb))
            have HX := Lib.hid hX
            have HZ := Lib.hid hZ
            have HB := Lib.hid B
            have HWA := Lib.hid hwa
            have HOA := Lib.hid hoa
            have HRA := Lib.hid ra
            have HRI := Lib.hid ri
            have HRO := Lib.hid ro
            have HBW := Lib.hid hb
            have hxl := hX.lt
            have hxl' : w.heap.size < wr.drew.heap.size := hX.lt
            have hgl' : gg < wr.drew.heap.size := hgl
            have hbr' : b < wr.drew.heap.size := hbr
            have hne := Lib.hid (own_blk_ne hoa B (by decide))
            have hq0 : gg ≠ w.heap.size := by omega
            have hq1 : gg ≠ b := by omega
            have i1 : (0 : Int) ≤ (k : Int) := by omega
            have i2 : (k : Int) < (c.words.length : Int) := by omega
            have hbase := hb.size
            clear hN hx p0 hX hZ B hwa hoa ra ri ro hb hlk HS
            have hq2 : gg ≠ w.heap.size + 1 := by omega
            have hbs : w.heap.size ≤ gg := by omega
            go_upto_region 9 with (fail)
            refine wp_region_noPanic ?_
            refine wp_region_last (S := (fun w' => w'.cell? ⟨w.heap.size, 1, none⟩ = some (.slice (some ⟨b, o, none⟩) c.words.length cb) ∧ w'.cell? ⟨b, o + k, none⟩ = some (.slice Au a.length cu) ∧ w'.cell? ⟨gg, 1, none⟩ = some (.slice Ga k ca'))) 11 11 rfl (by kernel_rfl) (by kernel_rfl) ?_ (fun hHeld => ?_)
            · exact ⟨x0, e0, g0⟩
            refine wpAnyH_take (i := 0) (v := ?_) rfl (by kernel_rfl) (by kernel_rfl) (by kernel_rfl) (fun _ _ _ h => h) (Or.inl ⟨by rfl, ?_⟩) hHeld ?_
            rotate_left
            · (intro w hSw; (try dsimp only at hSw); go_simp; try with_reducible rfl)
            try simp only [Act.put, List.setIfInBounds_toArray, List.set_cons_zero, List.set_cons_succ]
            refine wpAnyH_take (i := 1) (v := ?_) rfl (by kernel_rfl) (by kernel_rfl) (by kernel_rfl) (fun _ _ _ h => h) (Or.inl ⟨by rfl, ?_⟩) hHeld ?_
            rotate_left
            · (intro w hSw; (try dsimp only at hSw); go_simp; try with_reducible rfl)
            try simp only [Act.put, List.setIfInBounds_toArray, List.set_cons_zero, List.set_cons_succ]
            refine wpAnyH_take (i := 2) (v := ?_) rfl (by kernel_rfl) (by kernel_rfl) (by kernel_rfl) (fun _ _ _ h => h) (Or.inl ⟨by rfl, ?_⟩) hHeld ?_
            rotate_left
            · (intro w hSw; (try dsimp only at hSw); go_simp; try with_reducible rfl)
            try simp only [Act.put, List.setIfInBounds_toArray, List.set_cons_zero, List.set_cons_succ]
            refine wpAnyH_take (i := 3) (v := ?_) rfl (by kernel_rfl) (by kernel_rfl) (by kernel_rfl) (fun _ _ _ h => h) (Or.inl ⟨by rfl, ?_⟩) hHeld ?_
            rotate_left
            · (intro w hSw; (try dsimp only at hSw); go_simp; try with_reducible rfl)
            try simp only [Act.put, List.setIfInBounds_toArray, List.set_cons_zero, List.set_cons_succ]
            refine wpAnyH_take (i := 4) (v := ?_) rfl (by kernel_rfl) (by kernel_rfl) (by kernel_rfl) (fun _ _ _ h => h) (Or.inl ⟨by rfl, ?_⟩) hHeld ?_
            rotate_left
            · (intro w hSw; (try dsimp only at hSw); go_simp; try with_reducible rfl)
            try simp only [Act.put, List.setIfInBounds_toArray, List.set_cons_zero, List.set_cons_succ]
            refine wpAnyH_take (i := 5) (v := ?_) rfl (by kernel_rfl) (by kernel_rfl) (by kernel_rfl) (fun _ _ _ h => h) (Or.inl ⟨by rfl, ?_⟩) hHeld ?_
            rotate_left
            · (intro w hSw; (try dsimp only at hSw); go_simp; try with_reducible rfl)
            try simp only [Act.put, List.setIfInBounds_toArray, List.set_cons_zero, List.set_cons_succ]
            refine wpAnyH_take (i := 6) (v := ?_) rfl (by kernel_rfl) (by kernel_rfl) (by kernel_rfl) (fun _ _ _ h => h) (Or.inl ⟨by rfl, ?_⟩) hHeld ?_
            rotate_left
            · (intro w hSw; (try dsimp only at hSw); go_simp; try with_reducible rfl)
            try simp only [Act.put, List.setIfInBounds_toArray, List.set_cons_zero, List.set_cons_succ]
            refine wpAnyH_ready (rs := [7]) (by kernel_rfl) (by simp) ?_
            refine AllReadyH.cons rfl (fun K hK => ?_) AllReadyH.nil
            go_simp
            go_at_call 21; (with_reducible refine (ofWord_any wr.drew _ a HRD.out hlv).mono ?_); rintro e w2 ⟨v2, rfl, ho2, hb2⟩; have HB2 := Lib.hid hb2; obtain ⟨Av, cv, rfl, _⟩ := own_len ho2; have HVV := Lib.hid (Rd.of_own ho2); have B2 := Lib.hid (HB.out.drew.next hb2 hgl'); have X2 := Lib.hid (HX.out.drew.next hb2 hxl'); have z0 : w2.cell? ⟨gg, 1, none⟩ = some (.slice Ga k ca') := B2.out.cell 1; have zf0 := B2.out.frozen 1; have hgl2 : gg < w2.heap.size := B2.out.lt; have HBW2 := Lib.hid (HBW.out.drew.trans (hb2.mono HBW.out.size)); have hs2 : w.heap.size ≤ w2.heap.size := HBW2.out.size; have y0 := X2.out.cell 1; simp only [List.getElem?_toArray, List.getElem?_cons_zero, List.getElem?_cons_succ] at y0; have y1 := ((bcell hb2).1 b (o + k) hbr').trans e0; have hbr2 : b < w2.heap.size := Nat.lt_of_lt_of_le hbr' hb2.size; clear ho2 hb2
            try (go_wp2_with fail)
            refine hK.out _ _ ?_ (fun hNew => ?_)
            · exact ⟨y0, y1, z0⟩
            clear hK K hHeld
            have hHeld := hNew
            clear hNew
            try simp only [Act.put, List.setIfInBounds_toArray, List.set_cons_zero, List.set_cons_succ]
            refine wpAnyH_ready (rs := [8]) (by kernel_rfl) (by simp) ?_
            refine AllReadyH.cons rfl (fun K hK => ?_) AllReadyH.nil
            go_simp
            refine hK.out _ _ ?_ (fun hNew => ?_)
            · go_keep
            clear hK K hHeld
            have hHeld := hNew
            clear hNew
            try simp only [Act.put, List.setIfInBounds_toArray, List.set_cons_zero, List.set_cons_succ]
            refine wpAnyH_ready (rs := [9]) (by kernel_rfl) (by simp) ?_
            refine AllReadyH.cons rfl (fun K hK => ?_) AllReadyH.nil
            refine step_append_lies _ (by rfl) _ _ _ (by rfl) w.heap.size 39 jw _ 1 24 Try.underlying107 hjw hjw0 hjw1 hjw2 rfl (by omega) (.slice Ga k ca') k (rowC wdV (c.words.take k) vsa) (by rfl) ((own_next HOA.out.drew HB2.out).alloc _) ⟨w2.heap.size, 0, none⟩ 1 1 [.slice Av a.length cv] (by rfl) (by rfl) (World.news_of_block (cs := #[.slice Av a.length cv]) (t := 39) (fr := (0, 0)) (heap_alloc_new w2 _)) (by simp [Value.oneCell']) (by omega) (by unfold maxLen; omega) (by omega) (by simp; omega) (w2.heap.size + 1) (by simp) ?_; intro gz cap w3 hown3 hgrow3 hat hlt3; have B3 := Lib.hid (Blk.grown (Blk.alloc B2.out _) hgrow3 (Ne.symm hne.out)); have d0 : w3.cell? ⟨gg, 1, none⟩ = some (.slice Ga k ca') := B3.out.cell 1; have df0 := B3.out.frozen 1; have hgl3 : gg < w3.heap.size := B3.out.lt; have HB3 := Lib.hid (below_own (B := w.heap.size) (HBW2.out.alloc hs2 _) ((own_next HOA.out.drew HB2.out).alloc _) hgrow3 (Nat.le_refl _) (by simp; omega)); have y0 := ((X2.out.alloc _).grown hgrow3 (Ne.symm (own_blk_ne HOA.out.drew HX.out.drew (by decide)))).cell 1; simp only [List.getElem?_toArray, List.getElem?_cons_zero, List.getElem?_cons_succ] at y0; have y1 := ((bcell HB3.out).1 b (o + k) hb0).trans E0.out
            refine hK.out _ _ ?_ (fun hNew => ?_)
            · exact ⟨y0, y1, d0⟩
            clear hK K hHeld
            have hHeld := hNew
            clear hNew
            try simp only [Act.put, List.setIfInBounds_toArray, List.set_cons_zero, List.set_cons_succ]
            refine wpAnyH_take (i := 10) (v := ?_) rfl (by kernel_rfl) (by kernel_rfl) (by kernel_rfl) (fun _ _ _ h => h) (Or.inl ⟨by rfl, ?_⟩) hHeld ?_
            rotate_left
            · (intro w hSw; (try dsimp only at hSw); go_simp; try with_reducible rfl)
            try simp only [Act.put, List.setIfInBounds_toArray, List.set_cons_zero, List.set_cons_succ]
            refine wpAnyH_done (by kernel_rfl) ?_ _
            refine lastQ_step rfl (fun K hK => ?_)
            clear hHeld
            go_simp
            refine hK _ _ ?_
            clear hK K
            refine NoPanic.normal ?_
            all_goals
              have HN2 := Lib.hid ((Below.refl w2.heap.size w2).alloc (Nat.le_refl _) (.cells #[.slice Av a.length cv] 39))
              have h3' : w2.ownsRow w.heap.size 39 1 (.slice Ga k ca') (c.words.take k).length (rowC wdV (c.words.take k) vsa) := by rw [HLK.out]; exact own_next HOA.out.drew HB2.out
              have h4' : w3.ownsRow w.heap.size 39 1 (.slice (some ⟨gz, 0, none⟩) (k + 1) cap) ((c.words.take k).length + 1) (rowC wdV (c.words.take k) vsa ++ [.slice Av a.length cv]) := by rw [HLK.out]; exact hown3
              have HP := Lib.hid (SmB.pushW (c := ⟨c.asg, c.words.take k, c.inn, c.out, c.app⟩) (val := a) (by decide) (by decide) (by decide) (by decide) (by decide) B2.out (HWA.out.imp (fun _ _ h => NWp.next (w := wr.drew) h HB2.out)) h3' (RowOwn.next (w := wr.drew) HRA.out HB2.out (fun _ _ h => NAp.next (w := wr.drew) h HB2.out)) (NWp.next (w := wr.drew) HRI.out HB2.out) (NWp.next (w := wr.drew) HRO.out HB2.out) HN2.out hgrow3 h4' (Rd.next HVV.out HN2.out))
              have HX3 := Lib.hid ((((X2.out.alloc (.cells #[.slice Av a.length cv] 39)).grown hgrow3 (Ne.symm (own_blk_ne HOA.out.drew HX.out.drew (by decide)))).far (p := ⟨gg, 1, none⟩) (Ne.symm hq0) (.slice (some ⟨gz, 0, none⟩) (k + 1) cap)))
              have HZ3 := Lib.hid (((((HZ.out.drew.next HB2.out HZ.out.lt).alloc (.cells #[.slice Av a.length cv] 39)).grown hgrow3 (Ne.symm (own_blk_ne HOA.out.drew HZ.out.drew (by decide)))).far (p := ⟨gg, 1, none⟩) (Ne.symm hq2) (.slice (some ⟨gz, 0, none⟩) (k + 1) cap)))
              have HB4 := Lib.hid (HB3.out.setCell (p := ⟨gg, 1, none⟩) hbs (.slice (some ⟨gz, 0, none⟩) (k + 1) cap))
              clear h3' h4' hown3 hgrow3 y0 y1 d0 df0 hgl3 z0 zf0 hgl2 hbr2 hs2 hat hlt3 e0 x0 g0 gf0 hgl hbr hne hxl hxl' hgl' hbr'
              generalize (w3.setCell ⟨gg, 1, none⟩ (.slice (some ⟨gz, 0, none⟩) (k + 1) cap)) = wz at *
              go_wp2
              go_roundg (gk - 1)
              case rel => exact ⟨k + 1, by go_num, by omega, by omega, HB4.out, HX3.out, HZ3.out, by rw [HTK.out]; exact HP.out.1, hgg⟩
              case measure => omega
          · obtain rfl : k = c.words.length := by omega
            rw [List.take_length] at HS
            obtain ⟨hb, hX, hZ, hS, hgg⟩ := HS.out
            have x1 : wr.cell? ⟨w.heap.size, 1, none⟩ = some (.slice Ab c.words.length cb) := hX.cell 1
            have hxl := hX.lt
            obtain ⟨⟨ga, gb, gi, go⟩, B, hN⟩ := hS.cells
            have HN := Lib.hid hN
            obtain ⟨na, nb, ni, no⟩ := hN
            obtain ⟨Ba, ba, hga, _⟩ := na.form
            obtain ⟨Bb, bb, hgb, _⟩ := nb.form
            obtain ⟨Bi, bi, hgi, _⟩ := Rd.form ni
            obtain ⟨Bo, bo, hgo, _⟩ := Rd.form no
            simp only at hga hgb hgi hgo
            subst hga hgb hgi hgo
            have HZ := Lib.hid hZ
            have HBW := Lib.hid hb
            have hl := B.lt
            have b0 := B.cell 0
            have b1 := B.cell 1
            have b2 := B.cell 2
            have b3 := B.cell 3
            have b4 := B.cell 4
            have r0 := hZ.cell 0
            have r1 := hZ.cell 1
            have r2 := hZ.cell 2
            have r3 := hZ.cell 3
            have r4 := hZ.cell 4
            simp only [smV, List.getElem?_toArray, List.getElem?_cons_zero, List.getElem?_cons_succ] at b0 b1 b2 b3 b4 r0 r1 r2 r3 r4
            have rf0 := hZ.frozen 0
            have rf1 := hZ.frozen 1
            have rf2 := hZ.frozen 2
            have rf3 := hZ.frozen 3
            have rf4 := hZ.frozen 4
            have hrb := hZ.lt
            have K := Lib.hid (Kept.of_blk [109] hZ (set5 hZ (.slice Ba c.asg.length ba) (.slice Bb c.words.length bb) (.slice Bi c.inn.length bi) (.slice Bo c.out.length bo) (.bool c.app)).2 rfl)
            have HG := Lib.hid (below_of_grown' hb (set5 hZ (.slice Ba c.asg.length ba) (.slice Bb c.words.length bb) (.slice Bi c.inn.length bi) (.slice Bo c.out.length bo) (.bool c.app)).2 (by omega))
            clear na nb ni no hX hZ hS B hb HS
            go_wp2
            refine bodyPost_ret (v := .agg #[.slice Ba c.asg.length ba, .slice Bb c.words.length bb, .slice Bi c.inn.length bi, .slice Bo c.out.length bo, .bool c.app]) (by simp [results, Try.results49, go_sem, hrb, r0, r1, r2, r3, r4]) rfl ?_
            exact ⟨_, _, _, _, rfl, HN.out.keep K.out rfl rfl rfl, HG.out⟩
end Go.Proofs.Ytiddchpkmcncdaa
