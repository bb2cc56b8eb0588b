/- Walks of layer 41: toSimple, ofSimple. -/
import Derived.Test.YtiddchpkmcncdaaG3
import Derived.Test.YtiddchpkmcncdaaX27
import Derived.Test.YtiddchpkmcncdaaG1
import Derived.Deep.DeepCutAuto
import Derived.Test.YtiddchpkmcncdaaE1
import Derived.Test.YtiddchpkmcncdaaS1
import Derived.Test.YtiddchpkmcncdaaG5
import Derived.Test.YtiddchpkmcncdaaX26
import Derived.Test.YtiddchpkmcncdaaS2
import Derived.Deep.RegionWith
namespace Go.Proofs.Ytiddchpkmcncdaa
open Go.RowKit
set_option linter.unusedSimpArgs false
set_option linter.unusedVariables false

set_option maxRecDepth 100000 in
set_option maxHeartbeats 8000000 in
theorem ofSimple_any (w : World) (va vb vi vo : Value) (c : Sm) (h : NSp 61 42 140 w ⟨va, vb, vi, vo⟩ c) (hlim : SmLim c) :
    Calls Try.prog 49 #[.agg #[va, vb, vi, vo, .bool c.app]] w fun e w' => ∃ va' vb' vi' vo', e = .returned (.agg #[va', vb', vi', vo', .bool c.app]) ∧ NSp 51 39 112 w' ⟨va', vb', vi', vo'⟩ c ∧ Below w.heap.size w w' := by
  obtain ⟨ja, hja, hja0, hja1, hja2⟩ := info_parts info112
  obtain ⟨jw, hjw, hjw0, hjw1, hjw2⟩ := info_parts info39
  obtain ⟨hA, hW, hI, hO⟩ := h
  obtain ⟨l1, l2, l3, l4, l5, l6⟩ := hlim
  obtain ⟨Aa, ca, hva, xa, hA2⟩ := hA.all asgV_len
  obtain ⟨Ab, cb, hvb, xb, hW2⟩ := hW.all wdV_len
  obtain ⟨Ai, ci, hvi, _⟩ := Rd.form hI
  obtain ⟨Ao, co, hvo, _⟩ := Rd.form hO
  simp only at hva hvb hvi hvo hI hO
  subst hva hvb hvi hvo
  have HA := Lib.hid hA2
  have HW := Lib.hid hW2
  have HI := Lib.hid (show Rd 61 w _ c.inn.length (pcC c.inn) from hI)
  have HO := Lib.hid (show Rd 61 w _ c.out.length (pcC c.out) from hO)
  have HL3 := Lib.hid l3
  have HL4 := Lib.hid l4
  clear hA hW hI hO l3 l4 hA2 hW2
  go_enter Try.func49, Try.ntmps49
  go_upto_region 1 with (fail)
  have HB0 := Lib.hid (((Below.refl w.heap.size w).alloc (Nat.le_refl _) (.cells #[.slice Aa c.asg.length ca, .slice Ab c.words.length cb, .slice Ai c.inn.length ci, .slice Ao c.out.length co, .bool c.app] 46)).alloc (by simp) (.cells #[.slice none 0 0, .slice none 0 0, .slice none 0 0, .slice none 0 0, .bool false] 109))
  have HX0 := Lib.hid ((Blk.new w 46 #[.slice Aa c.asg.length ca, .slice Ab c.words.length cb, .slice Ai c.inn.length ci, .slice Ao c.out.length co, .bool c.app]).alloc (.cells #[.slice none 0 0, .slice none 0 0, .slice none 0 0, .slice none 0 0, .bool false] 109))
  have HR0 := Lib.hid (show Blk ((w.alloc (.cells #[.slice Aa c.asg.length ca, .slice Ab c.words.length cb, .slice Ai c.inn.length ci, .slice Ao c.out.length co, .bool c.app] 46)).alloc (.cells #[.slice none 0 0, .slice none 0 0, .slice none 0 0, .slice none 0 0, .bool false] 109)) (w.heap.size + 1) 109 #[.slice none 0 0, .slice none 0 0, .slice none 0 0, .slice none 0 0, .bool false] from by have := Blk.new (w.alloc (.cells #[.slice Aa c.asg.length ca, .slice Ab c.words.length cb, .slice Ai c.inn.length ci, .slice Ao c.out.length co, .bool c.app] 46)) 109 #[.slice none 0 0, .slice none 0 0, .slice none 0 0, .slice none 0 0, .bool false]; simpa using this)
  have RI0 := Lib.hid (Rd.drew (Rd.next HI.out HB0.out))
  have RO0 := Lib.hid (Rd.drew (Rd.next HO.out HB0.out))
  have HBD := Lib.hid (HB0.out.drew)
  generalize ((w.alloc (.cells #[.slice Aa c.asg.length ca, .slice Ab c.words.length cb, .slice Ai c.inn.length ci, .slice Ao c.out.length co, .bool c.app] 46)).alloc (.cells #[.slice none 0 0, .slice none 0 0, .slice none 0 0, .slice none 0 0, .bool false] 109)) = wa at *
  have x2 : wa.cell? ⟨w.heap.size, 2, none⟩ = some (.slice Ai c.inn.length ci) := HX0.out.cell 2
  have x3 : wa.cell? ⟨w.heap.size, 3, none⟩ = some (.slice Ao c.out.length co) := HX0.out.cell 3
  have x4 : wa.cell? ⟨w.heap.size, 4, none⟩ = some (.bool c.app) := HX0.out.cell 4
  have hxl : w.heap.size < wa.drew.heap.size := HX0.out.lt
  have hrl : w.heap.size + 1 < wa.drew.heap.size := HR0.out.lt
  have hrl' : w.heap.size + 1 < wa.heap.size := HR0.out.lt
  have hwl : w.heap.size < wa.heap.size := by omega
  have hq0 : wa.heap.size ≠ w.heap.size := by omega
  have HBZ := Lib.hid (show Below wa.drew.heap.size wa.drew ((wa.alloc (.cells #[.slice none 0 0, .slice none 0 0, .slice none 0 0, .slice none 0 0, .bool false] 109)).drew) from (Below.refl wa.drew.heap.size wa.drew).alloc (Nat.le_refl _) (.cells #[.slice none 0 0, .slice none 0 0, .slice none 0 0, .slice none 0 0, .bool false] 109))
  have DZ := Lib.hid (show Blk ((wa.alloc (.cells #[.slice none 0 0, .slice none 0 0, .slice none 0 0, .slice none 0 0, .bool false] 109)).drew) wa.heap.size 109 #[.slice none 0 0, .slice none 0 0, .slice none 0 0, .slice none 0 0, .bool false] from Blk.new wa 109 #[.slice none 0 0, .slice none 0 0, .slice none 0 0, .slice none 0 0, .bool false])
  have ND1 : Hid ((51 : TypeId) ≠ 109) := Lib.hid (by decide)
  have ND2 : Hid ((46 : TypeId) ≠ 109) := Lib.hid (by decide)
  go_cut [3] (fun s3 wx => ∃ g : Nat, s3 = .pointer (some ⟨g, 0, none⟩) ∧ CvS 61 46 51 39 112 109 w g #[.slice Aa c.asg.length ca, .slice Ab c.words.length cb, .slice Ai c.inn.length ci, .slice Ao c.out.length co, .bool c.app] #[.slice none 0 0, .slice none 0 0, .slice none 0 0, .slice none 0 0, .bool false] ⟨[], [], c.inn, c.out, c.app⟩ wx)
  case first =>
    go_region_held3 (fun w' => w'.cell? ⟨w.heap.size, 2, none⟩ = some (.slice Ai c.inn.length ci) ∧ w'.cell? ⟨w.heap.size, 3, none⟩ = some (.slice Ao c.out.length co) ∧ w'.cell? ⟨w.heap.size, 4, none⟩ = some (.bool c.app))
      (first | (with_reducible exact ⟨y2, y3, y4⟩) | go_keep)
      (first | (go_at_call 21; (with_reducible refine (ofWord_any wa.drew _ c.inn RI0.out l5).mono ?_); rintro e w1 ⟨v1, rfl, ho1, hb1⟩; obtain ⟨AI, cI, rfl, _⟩ := own_len ho1; have QI := Lib.hid (Rd.of_own ho1); have HB1 := Lib.hid hb1; have HB1Z := Lib.hid (HB1.out.alloc HB1.out.size (.cells #[.slice none 0 0, .slice none 0 0, .slice none 0 0, .slice none 0 0, .bool false] 109)); have X1 := Lib.hid (HX0.out.drew.next HB1.out hxl); have D1Z := Lib.hid (Blk.new w1 109 #[.slice none 0 0, .slice none 0 0, .slice none 0 0, .slice none 0 0, .bool false]); have hl1 : wa.heap.size ≤ w1.heap.size := HB1.out.size; have hq1 : w1.heap.size ≠ w.heap.size := Nat.ne_of_gt (Nat.lt_of_lt_of_le hwl hl1); have y2 := X1.out.cell 2; have y3 := X1.out.cell 3; have y4 := X1.out.cell 4; simp only [List.getElem?_toArray, List.getElem?_cons_zero, List.getElem?_cons_succ] at y2 y3 y4; clear ho1 hb1) | (go_at_call 21; (with_reducible refine (ofWord_any ((wa.alloc (.cells #[.slice none 0 0, .slice none 0 0, .slice none 0 0, .slice none 0 0, .bool false] 109)).drew) _ c.inn (Rd.next RI0.out HBZ.out) l5).mono ?_); rintro e w1 ⟨v1, rfl, ho1, hb1⟩; obtain ⟨AI, cI, rfl, _⟩ := own_len ho1; have QI := Lib.hid (Rd.of_own ho1); have HB1 := Lib.hid (HBZ.out.trans (hb1.mono HBZ.out.size)); have D1 := Lib.hid (DZ.out.next hb1 DZ.out.lt); have HB1Z := Lib.hid (HB1.out.alloc HB1.out.size (.cells #[.slice none 0 0, .slice none 0 0, .slice none 0 0, .slice none 0 0, .bool false] 109)); have X1 := Lib.hid (HX0.out.drew.next HB1.out hxl); have D1Z := Lib.hid (Blk.new w1 109 #[.slice none 0 0, .slice none 0 0, .slice none 0 0, .slice none 0 0, .bool false]); have hl1 : wa.heap.size ≤ w1.heap.size := HB1.out.size; have hq1 : w1.heap.size ≠ w.heap.size := Nat.ne_of_gt (Nat.lt_of_lt_of_le hwl hl1); have y2 := X1.out.cell 2; have y3 := X1.out.cell 3; have y4 := X1.out.cell 4; simp only [List.getElem?_toArray, List.getElem?_cons_zero, List.getElem?_cons_succ] at y2 y3 y4; clear ho1 hb1) | (go_at_call 21; (with_reducible refine (ofWord_any wa.drew _ c.out RO0.out l6).mono ?_); rintro e w1 ⟨v1, rfl, ho1, hb1⟩; obtain ⟨AO, cO, rfl, _⟩ := own_len ho1; have QO := Lib.hid (Rd.of_own ho1); have HB1 := Lib.hid hb1; have HB1Z := Lib.hid (HB1.out.alloc HB1.out.size (.cells #[.slice none 0 0, .slice none 0 0, .slice none 0 0, .slice none 0 0, .bool false] 109)); have X1 := Lib.hid (HX0.out.drew.next HB1.out hxl); have D1Z := Lib.hid (Blk.new w1 109 #[.slice none 0 0, .slice none 0 0, .slice none 0 0, .slice none 0 0, .bool false]); have hl1 : wa.heap.size ≤ w1.heap.size := HB1.out.size; have hq1 : w1.heap.size ≠ w.heap.size := Nat.ne_of_gt (Nat.lt_of_lt_of_le hwl hl1); have y2 := X1.out.cell 2; have y3 := X1.out.cell 3; have y4 := X1.out.cell 4; simp only [List.getElem?_toArray, List.getElem?_cons_zero, List.getElem?_cons_succ] at y2 y3 y4; clear ho1 hb1) | (go_at_call 21; (with_reducible refine (ofWord_any ((wa.alloc (.cells #[.slice none 0 0, .slice none 0 0, .slice none 0 0, .slice none 0 0, .bool false] 109)).drew) _ c.out (Rd.next RO0.out HBZ.out) l6).mono ?_); rintro e w1 ⟨v1, rfl, ho1, hb1⟩; obtain ⟨AO, cO, rfl, _⟩ := own_len ho1; have QO := Lib.hid (Rd.of_own ho1); have HB1 := Lib.hid (HBZ.out.trans (hb1.mono HBZ.out.size)); have D1 := Lib.hid (DZ.out.next hb1 DZ.out.lt); have HB1Z := Lib.hid (HB1.out.alloc HB1.out.size (.cells #[.slice none 0 0, .slice none 0 0, .slice none 0 0, .slice none 0 0, .bool false] 109)); have X1 := Lib.hid (HX0.out.drew.next HB1.out hxl); have D1Z := Lib.hid (Blk.new w1 109 #[.slice none 0 0, .slice none 0 0, .slice none 0 0, .slice none 0 0, .bool false]); have hl1 : wa.heap.size ≤ w1.heap.size := HB1.out.size; have hq1 : w1.heap.size ≠ w.heap.size := Nat.ne_of_gt (Nat.lt_of_lt_of_le hwl hl1); have y2 := X1.out.cell 2; have y3 := X1.out.cell 3; have y4 := X1.out.cell 4; simp only [List.getElem?_toArray, List.getElem?_cons_zero, List.getElem?_cons_succ] at y2 y3 y4; clear ho1 hb1) | (go_at_call 21; (with_reducible refine (ofWord_any w1 _ c.inn (Rd.next RI0.out HB1.out) l5).mono ?_); rintro e w2 ⟨v2, rfl, ho2, hb2⟩; obtain ⟨AI, cI, rfl, _⟩ := own_len ho2; have QI := Lib.hid (Rd.of_own ho2); have HB2 := Lib.hid (HB1.out.trans (hb2.mono HB1.out.size)); have X2 := Lib.hid (HX0.out.drew.next HB2.out hxl); have PO := Lib.hid (Rd.next (QO.out) hb2); have PI := Lib.hid (QI.out); have RZ := Lib.hid (HR0.out.drew.next HB2.out hrl); have hl2 : w1.heap.size ≤ w2.heap.size := Nat.le_trans (Nat.le_refl _) hb2.size; have hq2 : w2.heap.size ≠ w.heap.size := Nat.ne_of_gt (Nat.lt_of_lt_of_le hwl (Nat.le_trans hl1 hl2)); (try (have D2 := Lib.hid (D1.out.next hb2 D1.out.lt); have d0 := D2.out.cell 0; have d1 := D2.out.cell 1; have d2 := D2.out.cell 2; have d3 := D2.out.cell 3; have d4 := D2.out.cell 4; have df0 := D2.out.frozen 0; have df1 := D2.out.frozen 1; have df2 := D2.out.frozen 2; have df3 := D2.out.frozen 3; have df4 := D2.out.frozen 4; have hdl := D2.out.lt; simp only [List.getElem?_toArray, List.getElem?_cons_zero, List.getElem?_cons_succ] at d0 d1 d2 d3 d4)); have y2 := X2.out.cell 2; have y3 := X2.out.cell 3; have y4 := X2.out.cell 4; simp only [List.getElem?_toArray, List.getElem?_cons_zero, List.getElem?_cons_succ] at y2 y3 y4; clear ho2 hb2) | (go_at_call 21; (with_reducible refine (ofWord_any (w1.alloc (.cells #[.slice none 0 0, .slice none 0 0, .slice none 0 0, .slice none 0 0, .bool false] 109)) _ c.inn (Rd.next RI0.out HB1Z.out) l5).mono ?_); rintro e w2 ⟨v2, rfl, ho2, hb2⟩; obtain ⟨AI, cI, rfl, _⟩ := own_len ho2; have QI := Lib.hid (Rd.of_own ho2); have HB2 := Lib.hid (HB1Z.out.trans (hb2.mono HB1Z.out.size)); have X2 := Lib.hid (HX0.out.drew.next HB2.out hxl); have PO := Lib.hid (Rd.next (QO.out.next ((Below.refl _ _).alloc (Nat.le_refl _) (.cells #[.slice none 0 0, .slice none 0 0, .slice none 0 0, .slice none 0 0, .bool false] 109))) hb2); have PI := Lib.hid (QI.out); have RZ := Lib.hid (HR0.out.drew.next HB2.out hrl); have hl2 : w1.heap.size ≤ w2.heap.size := Nat.le_trans (by simp) hb2.size; have hq2 : w2.heap.size ≠ w.heap.size := Nat.ne_of_gt (Nat.lt_of_lt_of_le hwl (Nat.le_trans hl1 hl2)); have D2 := Lib.hid (D1Z.out.next hb2 D1Z.out.lt); have d0 := D2.out.cell 0; have d1 := D2.out.cell 1; have d2 := D2.out.cell 2; have d3 := D2.out.cell 3; have d4 := D2.out.cell 4; have df0 := D2.out.frozen 0; have df1 := D2.out.frozen 1; have df2 := D2.out.frozen 2; have df3 := D2.out.frozen 3; have df4 := D2.out.frozen 4; have hdl := D2.out.lt; simp only [List.getElem?_toArray, List.getElem?_cons_zero, List.getElem?_cons_succ] at d0 d1 d2 d3 d4; have y2 := X2.out.cell 2; have y3 := X2.out.cell 3; have y4 := X2.out.cell 4; simp only [List.getElem?_toArray, List.getElem?_cons_zero, List.getElem?_cons_succ] at y2 y3 y4; clear ho2 hb2) | (go_at_call 21; (with_reducible refine (ofWord_any w1 _ c.out (Rd.next RO0.out HB1.out) l6).mono ?_); rintro e w2 ⟨v2, rfl, ho2, hb2⟩; obtain ⟨AO, cO, rfl, _⟩ := own_len ho2; have QO := Lib.hid (Rd.of_own ho2); have HB2 := Lib.hid (HB1.out.trans (hb2.mono HB1.out.size)); have X2 := Lib.hid (HX0.out.drew.next HB2.out hxl); have PI := Lib.hid (Rd.next (QI.out) hb2); have PO := Lib.hid (QO.out); have RZ := Lib.hid (HR0.out.drew.next HB2.out hrl); have hl2 : w1.heap.size ≤ w2.heap.size := Nat.le_trans (Nat.le_refl _) hb2.size; have hq2 : w2.heap.size ≠ w.heap.size := Nat.ne_of_gt (Nat.lt_of_lt_of_le hwl (Nat.le_trans hl1 hl2)); (try (have D2 := Lib.hid (D1.out.next hb2 D1.out.lt); have d0 := D2.out.cell 0; have d1 := D2.out.cell 1; have d2 := D2.out.cell 2; have d3 := D2.out.cell 3; have d4 := D2.out.cell 4; have df0 := D2.out.frozen 0; have df1 := D2.out.frozen 1; have df2 := D2.out.frozen 2; have df3 := D2.out.frozen 3; have df4 := D2.out.frozen 4; have hdl := D2.out.lt; simp only [List.getElem?_toArray, List.getElem?_cons_zero, List.getElem?_cons_succ] at d0 d1 d2 d3 d4)); have y2 := X2.out.cell 2; have y3 := X2.out.cell 3; have y4 := X2.out.cell 4; simp only [List.getElem?_toArray, List.getElem?_cons_zero, List.getElem?_cons_succ] at y2 y3 y4; clear ho2 hb2) | (go_at_call 21; (with_reducible refine (ofWord_any (w1.alloc (.cells #[.slice none 0 0, .slice none 0 0, .slice none 0 0, .slice none 0 0, .bool false] 109)) _ c.out (Rd.next RO0.out HB1Z.out) l6).mono ?_); rintro e w2 ⟨v2, rfl, ho2, hb2⟩; obtain ⟨AO, cO, rfl, _⟩ := own_len ho2; have QO := Lib.hid (Rd.of_own ho2); have HB2 := Lib.hid (HB1Z.out.trans (hb2.mono HB1Z.out.size)); have X2 := Lib.hid (HX0.out.drew.next HB2.out hxl); have PI := Lib.hid (Rd.next (QI.out.next ((Below.refl _ _).alloc (Nat.le_refl _) (.cells #[.slice none 0 0, .slice none 0 0, .slice none 0 0, .slice none 0 0, .bool false] 109))) hb2); have PO := Lib.hid (QO.out); have RZ := Lib.hid (HR0.out.drew.next HB2.out hrl); have hl2 : w1.heap.size ≤ w2.heap.size := Nat.le_trans (by simp) hb2.size; have hq2 : w2.heap.size ≠ w.heap.size := Nat.ne_of_gt (Nat.lt_of_lt_of_le hwl (Nat.le_trans hl1 hl2)); have D2 := Lib.hid (D1Z.out.next hb2 D1Z.out.lt); have d0 := D2.out.cell 0; have d1 := D2.out.cell 1; have d2 := D2.out.cell 2; have d3 := D2.out.cell 3; have d4 := D2.out.cell 4; have df0 := D2.out.frozen 0; have df1 := D2.out.frozen 1; have df2 := D2.out.frozen 2; have df3 := D2.out.frozen 3; have df4 := D2.out.frozen 4; have hdl := D2.out.lt; simp only [List.getElem?_toArray, List.getElem?_cons_zero, List.getElem?_cons_succ] at d0 d1 d2 d3 d4; have y2 := X2.out.cell 2; have y3 := X2.out.cell 3; have y4 := X2.out.cell 4; simp only [List.getElem?_toArray, List.getElem?_cons_zero, List.getElem?_cons_succ] at y2 y3 y4; clear ho2 hb2))
    all_goals
      have HBW := Lib.hid (HBD.out.trans (HB2.out.mono HBD.out.size))
      go_wp2_with fail
      go_meet
      refine ⟨_, rfl, ?_⟩
      first
        | with_reducible exact cv_new HBW.out X2.out RZ.out PI.out PO.out
        | with_reducible exact cv_set ND1.out ND2.out HBW.out X2.out RZ.out D2.out PI.out PO.out hrl'
        | with_reducible exact cv_set ND1.out ND2.out HBW.out X2.out RZ.out D2.out PI.out PO.out (Nat.lt_of_lt_of_le hrl' hl1)
  case rest =>
    obtain ⟨gg, rfl, hC⟩ := hcut
    have HC := Lib.hid hC
    clear hC HB0 HX0 HR0 RI0 RO0 HBD x2 x3 x4 hxl hrl hrl' hwl hq0 HBZ DZ
    go_wp2
    go_loopg [4] (c.asg.length + 1) (fun gk v wr => CvA 61 46 51 39 112 109 w gg #[.slice Aa c.asg.length ca, .slice Ab c.words.length cb, .slice Ai c.inn.length ci, .slice Ao c.out.length co, .bool c.app] #[.slice none 0 0, .slice none 0 0, .slice none 0 0, .slice none 0 0, .bool false] c gk v wr)
    case atStart => exact ⟨0, rfl, Nat.zero_le _, by omega, HC.out⟩
    case round =>
      obtain ⟨k, rfl, hk, hgk, hcs⟩ := hrel
      have HS := Lib.hid hcs
      clear hcs HC
      by_cases hlt : k < c.asg.length
      · obtain ⟨b, o, u, rfl, hb0, hN, hx⟩ := HA.out k hlt
        have hlv := HL3.out c.asg[k] (List.getElem_mem hlt)
        have HTK := Lib.hid (take_next c.asg k hlt)
        obtain ⟨a, ha⟩ : ∃ a, c.asg[k] = a := ⟨_, rfl⟩
        rw [ha] at hN hx hlv HTK
        clear ha
        obtain ⟨Au, cu, rfl, _⟩ := Rd.form hN
        have p0 := hx 0 _ rfl
        have p1 := hx 1 _ rfl
        obtain ⟨hb, hX, hZ, ⟨ga, gb, gi, go, B, ⟨vsa, hwa, hoa⟩, rb, ri, ro⟩, hgg⟩ := HS.out
        simp only at B hwa hoa rb ri ro
        have hlk : (c.asg.take k).length = k := by rw [List.length_take]; omega
        have HLK := Lib.hid hlk
        rw [hlk] at hoa
        obtain ⟨Ga, ca', rfl, _⟩ := own_len hoa
        have hbr : b < wr.heap.size := Nat.lt_of_lt_of_le hb0 hb.size
        have E0 := Lib.hid (show w.cell? ⟨b, o + k * 2, none⟩ = some (.string (bs a.name)) by simpa using p0)
        have E1 := Lib.hid (show w.cell? ⟨b, o + k * 2 + 1, none⟩ = some (.slice Au a.value.length cu) by rw [Nat.add_assoc]; exact p1)
        have e0 : wr.cell? ⟨b, o + k * 2, none⟩ = some (.string (bs a.name)) := ((bcell hb).1 b (o + k * 2) hb0).trans E0.out
        have e1 : wr.cell? ⟨b, o + k * 2 + 1, none⟩ = some (.slice Au a.value.length cu) := ((bcell hb).1 b (o + k * 2 + 1) hb0).trans E1.out
        have x0 : wr.cell? ⟨w.heap.size, 0, none⟩ = some (.slice (some ⟨b, o, none⟩) c.asg.length ca) := hX.cell 0
        have g0 : wr.cell? ⟨gg, 0, none⟩ = some (.slice Ga k ca') := B.cell 0
        have gf0 := B.frozen 0
        have hgl := B.lt
        have HRD := Lib.hid (show Rd 61 wr.drew _ a.value.length (pcC a.value) from Rd.drew (Rd.next hN hb))
        have HX := Lib.hid hX
        have HZ := Lib.hid hZ
        have HB := Lib.hid B
        have HWA := Lib.hid hwa
        have HOA := Lib.hid hoa
        have HRB := Lib.hid rb
        have HRI := Lib.hid ri
        have HRO := Lib.hid ro
        have HBW := Lib.hid hb
        have hxl := hX.lt
        have hxl' : w.heap.size < wr.drew.heap.size := hX.lt
        have hgl' : gg < wr.drew.heap.size := hgl
        have hbr' : b < wr.drew.heap.size := hbr
        have hne := Lib.hid (own_blk_ne hoa B (by decide))
        have hq0 : gg ≠ w.heap.size := by omega
        have hq1 : gg ≠ b := by omega
        have i1 : (0 : Int) ≤ (k : Int) := by omega
        have i2 : (k : Int) < (c.asg.length : Int) := by omega
        have hbase := hb.size
        clear hN hx p0 p1 hX hZ B hwa hoa rb ri ro hb hlk HS
        have hq2 : gg ≠ w.heap.size + 1 := by omega
        have hbs : w.heap.size ≤ gg := by omega
        go_upto_region 5 with (fail)
        refine wp_region_noPanic ?_
        refine wp_region_last (S := (fun w' => w'.cell? ⟨w.heap.size, 0, none⟩ = some (.slice (some ⟨b, o, none⟩) c.asg.length ca) ∧ w'.cell? ⟨b, o + k * 2, none⟩ = some (.string (bs a.name)) ∧ w'.cell? ⟨b, o + k * 2 + 1, none⟩ = some (.slice Au a.value.length cu) ∧ w'.cell? ⟨gg, 0, none⟩ = some (.slice Ga k ca'))) 19 19 rfl (by kernel_rfl) (by kernel_rfl) ?_ (fun hHeld => ?_)
        · exact ⟨x0, e0, e1, g0⟩
        refine wpAnyH_take (i := 0) (v := ?_) rfl (by kernel_rfl) (by kernel_rfl) (by kernel_rfl) (fun _ _ _ h => h) (Or.inl ⟨by rfl, ?_⟩) hHeld ?_
        rotate_left
        · (intro w hSw; (try dsimp only at hSw); go_simp; try with_reducible rfl)
        try simp only [Act.put, List.setIfInBounds_toArray, List.set_cons_zero, List.set_cons_succ]
        refine wpAnyH_take (i := 1) (v := ?_) rfl (by kernel_rfl) (by kernel_rfl) (by kernel_rfl) (fun _ _ _ h => h) (Or.inl ⟨by rfl, ?_⟩) hHeld ?_
        rotate_left
        · (intro w hSw; (try dsimp only at hSw); go_simp; try with_reducible rfl)
        try simp only [Act.put, List.setIfInBounds_toArray, List.set_cons_zero, List.set_cons_succ]
        refine wpAnyH_take (i := 2) (v := ?_) rfl (by kernel_rfl) (by kernel_rfl) (by kernel_rfl) (fun _ _ _ h => h) (Or.inl ⟨by rfl, ?_⟩) hHeld ?_
        rotate_left
        · (intro w hSw; (try dsimp only at hSw); go_simp; try with_reducible rfl)
        try simp only [Act.put, List.setIfInBounds_toArray, List.set_cons_zero, List.set_cons_succ]
        refine wpAnyH_take (i := 3) (v := ?_) rfl (by kernel_rfl) (by kernel_rfl) (by kernel_rfl) (fun _ _ _ h => h) (Or.inl ⟨by rfl, ?_⟩) hHeld ?_
        rotate_left
        · (intro w hSw; (try dsimp only at hSw); go_simp; try with_reducible rfl)
        try simp only [Act.put, List.setIfInBounds_toArray, List.set_cons_zero, List.set_cons_succ]
        refine wpAnyH_take (i := 4) (v := ?_) rfl (by kernel_rfl) (by kernel_rfl) (by kernel_rfl) (fun _ _ _ h => h) (Or.inl ⟨by rfl, ?_⟩) hHeld ?_
        rotate_left
        · (intro w hSw; (try dsimp only at hSw); go_simp; try with_reducible rfl)
        try simp only [Act.put, List.setIfInBounds_toArray, List.set_cons_zero, List.set_cons_succ]
        refine wpAnyH_take (i := 5) (v := ?_) rfl (by kernel_rfl) (by kernel_rfl) (by kernel_rfl) (fun _ _ _ h => h) (Or.inl ⟨by rfl, ?_⟩) hHeld ?_
        rotate_left
        · (intro w hSw; (try dsimp only at hSw); go_simp; try with_reducible rfl)
        try simp only [Act.put, List.setIfInBounds_toArray, List.set_cons_zero, List.set_cons_succ]
        refine wpAnyH_take (i := 6) (v := ?_) rfl (by kernel_rfl) (by kernel_rfl) (by kernel_rfl) (fun _ _ _ h => h) (Or.inl ⟨by rfl, ?_⟩) hHeld ?_
        rotate_left
        · (intro w hSw; (try dsimp only at hSw); go_simp; try with_reducible rfl)
        try simp only [Act.put, List.setIfInBounds_toArray, List.set_cons_zero, List.set_cons_succ]
        refine wpAnyH_take (i := 7) (v := ?_) rfl (by kernel_rfl) (by kernel_rfl) (by kernel_rfl) (fun _ _ _ h => h) (Or.inl ⟨by rfl, ?_⟩) hHeld ?_
        rotate_left
        · (intro w hSw; (try dsimp only at hSw); go_simp; try with_reducible rfl)
        try simp only [Act.put, List.setIfInBounds_toArray, List.set_cons_zero, List.set_cons_succ]
        refine wpAnyH_take (i := 8) (v := ?_) rfl (by kernel_rfl) (by kernel_rfl) (by kernel_rfl) (fun _ _ _ h => h) (Or.inl ⟨by rfl, ?_⟩) hHeld ?_
        rotate_left
        · (intro w hSw; (try dsimp only at hSw); go_simp; try with_reducible rfl)
        try simp only [Act.put, List.setIfInBounds_toArray, List.set_cons_zero, List.set_cons_succ]
        refine wpAnyH_take (i := 9) (v := ?_) rfl (by kernel_rfl) (by kernel_rfl) (by kernel_rfl) (fun _ _ _ h => h) (Or.inl ⟨by rfl, ?_⟩) hHeld ?_
        rotate_left
        · (intro w hSw; (try dsimp only at hSw); go_simp; try with_reducible rfl)
        try simp only [Act.put, List.setIfInBounds_toArray, List.set_cons_zero, List.set_cons_succ]
        refine wpAnyH_take (i := 10) (v := ?_) rfl (by kernel_rfl) (by kernel_rfl) (by kernel_rfl) (fun _ _ _ h => h) (Or.inl ⟨by rfl, ?_⟩) hHeld ?_
        rotate_left
        · (intro w hSw; (try dsimp only at hSw); go_simp; try with_reducible rfl)
        try simp only [Act.put, List.setIfInBounds_toArray, List.set_cons_zero, List.set_cons_succ]
        refine wpAnyH_take (i := 11) (v := ?_) rfl (by kernel_rfl) (by kernel_rfl) (by kernel_rfl) (fun _ _ _ h => h) (Or.inl ⟨by rfl, ?_⟩) hHeld ?_
        rotate_left
        · (intro w hSw; (try dsimp only at hSw); go_simp; try with_reducible rfl)
        try simp only [Act.put, List.setIfInBounds_toArray, List.set_cons_zero, List.set_cons_succ]
        refine wpAnyH_take (i := 12) (v := ?_) rfl (by kernel_rfl) (by kernel_rfl) (by kernel_rfl) (fun _ _ _ h => h) (Or.inl ⟨by rfl, ?_⟩) hHeld ?_
        rotate_left
        · (intro w hSw; (try dsimp only at hSw); go_simp; try with_reducible rfl)
        try simp only [Act.put, List.setIfInBounds_toArray, List.set_cons_zero, List.set_cons_succ]
        refine wpAnyH_take (i := 13) (v := ?_) rfl (by kernel_rfl) (by kernel_rfl) (by kernel_rfl) (fun _ _ _ h => h) (Or.inl ⟨by rfl, ?_⟩) hHeld ?_
        rotate_left
        · (intro w hSw; (try dsimp only at hSw); go_simp; try with_reducible rfl)
        try simp only [Act.put, List.setIfInBounds_toArray, List.set_cons_zero, List.set_cons_succ]
        refine wpAnyH_ready (rs := [14]) (by kernel_rfl) (by simp) ?_
        refine AllReadyH.cons rfl (fun K hK => ?_) AllReadyH.nil
        go_simp
        go_at_call 21; (with_reducible refine (ofWord_any wr.drew _ a.value HRD.out hlv).mono ?_); rintro e w2 ⟨v2, rfl, ho2, hb2⟩; have HB2 := Lib.hid hb2; obtain ⟨Av, cv, rfl, _⟩ := own_len ho2; have HVV := Lib.hid (Rd.of_own ho2); have B2 := Lib.hid (HB.out.drew.next hb2 hgl'); have X2 := Lib.hid (HX.out.drew.next hb2 hxl'); have z0 : w2.cell? ⟨gg, 0, none⟩ = some (.slice Ga k ca') := B2.out.cell 0; have zf0 := B2.out.frozen 0; have hgl2 : gg < w2.heap.size := B2.out.lt; have HBW2 := Lib.hid (HBW.out.drew.trans (hb2.mono HBW.out.size)); have hs2 : w.heap.size ≤ w2.heap.size := HBW2.out.size; have y0 := X2.out.cell 0; simp only [List.getElem?_toArray, List.getElem?_cons_zero] at y0; have y1 := ((bcell hb2).1 b (o + k * 2) hbr').trans e0; have y2 := ((bcell hb2).1 b (o + k * 2 + 1) hbr').trans e1; have hbr2 : b < w2.heap.size := Nat.lt_of_lt_of_le hbr' hb2.size; clear ho2 hb2
        try (go_wp2_with fail)
        refine hK.out _ _ ?_ (fun hNew => ?_)
        · exact ⟨y0, y1, y2, z0⟩
        clear hK K hHeld
        have hHeld := hNew
        clear hNew
        try simp only [Act.put, List.setIfInBounds_toArray, List.set_cons_zero, List.set_cons_succ]
        refine wpAnyH_take (i := 15) (v := ?_) rfl (by kernel_rfl) (by kernel_rfl) (by kernel_rfl) (fun _ _ _ h => h) (Or.inl ⟨by rfl, ?_⟩) hHeld ?_
        rotate_left
        · (intro w hSw; (try dsimp only at hSw); go_simp; try with_reducible rfl)
        try simp only [Act.put, List.setIfInBounds_toArray, List.set_cons_zero, List.set_cons_succ]
        refine wpAnyH_ready (rs := [16]) (by kernel_rfl) (by simp) ?_
        refine AllReadyH.cons rfl (fun K hK => ?_) AllReadyH.nil
        go_simp
        refine hK.out _ _ ?_ (fun hNew => ?_)
        · go_keep
        clear hK K hHeld
        have hHeld := hNew
        clear hNew
        try simp only [Act.put, List.setIfInBounds_toArray, List.set_cons_zero, List.set_cons_succ]
        refine wpAnyH_ready (rs := [17]) (by kernel_rfl) (by simp) ?_
        refine AllReadyH.cons rfl (fun K hK => ?_) AllReadyH.nil
        refine step_append_lies _ (by rfl) _ _ _ (by rfl) w.heap.size 112 ja _ 2 40 Try.underlying106 hja hja0 hja1 hja2 rfl (by omega) (.slice Ga k ca') k (rowC asgV (c.asg.take k) vsa) (by rfl) ((own_next HOA.out.drew HB2.out).alloc _) ⟨w2.heap.size, 0, none⟩ 1 1 [.string (bs a.name), .slice Av a.value.length cv] (by rfl) (by rfl) (World.news_of_block (cs := #[.string (bs a.name), .slice Av a.value.length cv]) (t := 112) (fr := (0, 0)) (heap_alloc_new w2 _)) (by simp [Value.oneCell']) (by omega) (by unfold maxLen; omega) (by omega) (by simp; omega) (w2.heap.size + 1) (by simp) ?_; intro gz cap w3 hown3 hgrow3 hat hlt3; have B3 := Lib.hid (Blk.grown (Blk.alloc B2.out _) hgrow3 (Ne.symm hne.out)); have d0 : w3.cell? ⟨gg, 0, none⟩ = some (.slice Ga k ca') := B3.out.cell 0; have df0 := B3.out.frozen 0; have hgl3 : gg < w3.heap.size := B3.out.lt; have HB3 := Lib.hid (below_own (B := w.heap.size) (HBW2.out.alloc hs2 _) ((own_next HOA.out.drew HB2.out).alloc _) hgrow3 (Nat.le_refl _) (by simp; omega)); have y0 := ((X2.out.alloc _).grown hgrow3 (Ne.symm (own_blk_ne HOA.out.drew HX.out.drew (by decide)))).cell 0; simp only [List.getElem?_toArray, List.getElem?_cons_zero] at y0; have y1 := ((bcell HB3.out).1 b (o + k * 2) hb0).trans E0.out; have y2 := ((bcell HB3.out).1 b (o + k * 2 + 1) hb0).trans E1.out
        refine hK.out _ _ ?_ (fun hNew => ?_)
        · exact ⟨y0, y1, y2, d0⟩
        clear hK K hHeld
        have hHeld := hNew
        clear hNew
        try simp only [Act.put, List.setIfInBounds_toArray, List.set_cons_zero, List.set_cons_succ]
        refine wpAnyH_take (i := 18) (v := ?_) rfl (by kernel_rfl) (by kernel_rfl) (by kernel_rfl) (fun _ _ _ h => h) (Or.inl ⟨by rfl, ?_⟩) hHeld ?_
        rotate_left
        · (intro w hSw; (try dsimp only at hSw); go_simp; try with_reducible rfl)
        try simp only [Act.put, List.setIfInBounds_toArray, List.set_cons_zero, List.set_cons_succ]
        refine wpAnyH_done (by kernel_rfl) ?_ _
        refine lastQ_step rfl (fun K hK => ?_)
        clear hHeld
        go_simp
        refine hK _ _ ?_
        clear hK K
        refine NoPanic.normal ?_
        all_goals
          have HN2 := Lib.hid ((Below.refl w2.heap.size w2).alloc (Nat.le_refl _) (.cells #[.string (bs a.name), .slice Av a.value.length cv] 112))
          have h3' : w2.ownsRow w.heap.size 112 2 (.slice Ga k ca') (c.asg.take k).length (rowC asgV (c.asg.take k) vsa) := by rw [HLK.out]; exact own_next HOA.out.drew HB2.out
          have h4' : w3.ownsRow w.heap.size 112 2 (.slice (some ⟨gz, 0, none⟩) (k + 1) cap) ((c.asg.take k).length + 1) (rowC asgV (c.asg.take k) vsa ++ [.string (bs a.name), .slice Av a.value.length cv]) := by rw [HLK.out]; exact hown3
          have HP := Lib.hid (SmB.pushA (c := ⟨c.asg.take k, [], c.inn, c.out, c.app⟩) (nm := a.name) (val := a.value) (by decide) (by decide) (by decide) (by decide) (by decide) B2.out (HWA.out.imp (fun _ _ h => NAp.next (w := wr.drew) h HB2.out)) h3' (RowOwn.next (w := wr.drew) HRB.out HB2.out (fun _ _ h => NWp.next (w := wr.drew) h HB2.out)) (NWp.next (w := wr.drew) HRI.out HB2.out) (NWp.next (w := wr.drew) HRO.out HB2.out) HN2.out hgrow3 h4' (Rd.next HVV.out HN2.out))
          have HX3 := Lib.hid ((((X2.out.alloc (.cells #[.string (bs a.name), .slice Av a.value.length cv] 112)).grown hgrow3 (Ne.symm (own_blk_ne HOA.out.drew HX.out.drew (by decide)))).far (p := ⟨gg, 0, none⟩) (Ne.symm hq0) (.slice (some ⟨gz, 0, none⟩) (k + 1) cap)))
          have HZ3 := Lib.hid (((((HZ.out.drew.next HB2.out HZ.out.lt).alloc (.cells #[.string (bs a.name), .slice Av a.value.length cv] 112)).grown hgrow3 (Ne.symm (own_blk_ne HOA.out.drew HZ.out.drew (by decide)))).far (p := ⟨gg, 0, none⟩) (Ne.symm hq2) (.slice (some ⟨gz, 0, none⟩) (k + 1) cap)))
          have HB4 := Lib.hid (HB3.out.setCell (p := ⟨gg, 0, none⟩) hbs (.slice (some ⟨gz, 0, none⟩) (k + 1) cap))
          clear h3' h4' hown3 hgrow3 y0 y1 y2 d0 df0 hgl3 z0 zf0 hgl2 hbr2 hs2 hat hlt3 e0 e1 x0 g0 gf0 hgl hbr hne hxl hxl' hgl' hbr'
          generalize (w3.setCell ⟨gg, 0, none⟩ (.slice (some ⟨gz, 0, none⟩) (k + 1) cap)) = wz at *
          go_wp2
          go_roundg (gk - 1)
          case rel => exact ⟨k + 1, by go_num, by omega, by omega, HB4.out, HX3.out, HZ3.out, by rw [HTK.out]; exact HP.out.1, hgg⟩
          case measure => omega
      · obtain rfl : k = c.asg.length := by omega
        rw [List.take_length] at HS
        have x0 : wr.cell? ⟨w.heap.size, 0, none⟩ = some (.slice Aa c.asg.length ca) := HS.out.2.1.cell 0
        have hxl := HS.out.2.1.lt
        go_wp2
        clear hk hlt hgk x0 hxl
        go_loopg [5] (c.words.length + 1) (fun gk v wr => CvW 61 46 51 39 112 109 w gg #[.slice Aa c.asg.length ca, .slice Ab c.words.length cb, .slice Ai c.inn.length ci, .slice Ao c.out.length co, .bool c.app] #[.slice none 0 0, .slice none 0 0, .slice none 0 0, .slice none 0 0, .bool false] c gk v wr)
        case atStart => exact ⟨0, rfl, Nat.zero_le _, by omega, HS.out⟩
        case round =>
          obtain ⟨k, rfl, hk, hgk, hcs⟩ := hrel
          have HS := Lib.hid hcs
          clear hcs
          by_cases hlt : k < c.words.length
          · obtain ⟨b, o, u, rfl, hb0, hN, hx⟩ := HW.out k hlt
            have hlv := HL4.out c.words[k] (List.getElem_mem hlt)
            have HTK := Lib.hid (take_next c.words k hlt)
            obtain ⟨a, ha⟩ : ∃ a, c.words[k] = a := ⟨_, rfl⟩
            rw [ha] at hN hx hlv HTK
            clear ha
            obtain ⟨Au, cu, rfl, _⟩ := Rd.form hN
            have p0 := hx 0 _ rfl
            obtain ⟨hb, hX, hZ, ⟨ga, gb, gi, go, B, ra, ⟨vsa, hwa, hoa⟩, ri, ro⟩, hgg⟩ := HS.out
            simp only at B hwa hoa ra ri ro
            have hlk : (c.words.take k).length = k := by rw [List.length_take]; omega
            have HLK := Lib.hid hlk
            rw [hlk] at hoa
            obtain ⟨Ga, ca', rfl, _⟩ := own_len hoa
            have hbr : b < wr.heap.size := Nat.lt_of_lt_of_le hb0 hb.size
            have E0 := Lib.hid (show w.cell? ⟨b, o + k, none⟩ = some (.slice Au a.length cu) by simpa using p0)
            have e0 : wr.cell? ⟨b, o + k, none⟩ = some (.slice Au a.length cu) := ((bcell hb).1 b (o + k) hb0).trans E0.out
            have x0 : wr.cell? ⟨w.heap.size, 1, none⟩ = some (.slice (some ⟨b, o, none⟩) c.words.length cb) := hX.cell 1
            have g0 : wr.cell? ⟨gg, 1, none⟩ = some (.slice Ga k ca') := B.cell 1
            have gf0 := B.frozen 1
            have hgl := B.lt
            have HRD := Lib.hid (show Rd 61 wr.drew _ a.length (pcC a) from Rd.drew (Rd.next hN hb))
            have HX := Lib.hid hX
            have HZ := Lib.hid hZ
            have HB := Lib.hid B
            have HWA := Lib.hid hwa
            have HOA := Lib.hid hoa
            have HRA := Lib.hid ra
            have HRI := Lib.hid ri
            have HRO := Lib.hid ro
            have HBW := Lib.hid hb
            have hxl := hX.lt
            have hxl' : w.heap.size < wr.drew.heap.size := hX.lt
            have hgl' : gg < wr.drew.heap.size := hgl
            have hbr' : b < wr.drew.heap.size := hbr
            have hne := Lib.hid (own_blk_ne hoa B (by decide))
            have hq0 : gg ≠ w.heap.size := by omega
            have hq1 : gg ≠ b := by omega
            have i1 : (0 : Int) ≤ (k : Int) := by omega
            have i2 : (k : Int) < (c.words.length : Int) := by omega
            have hbase := hb.size
            clear hN hx p0 hX hZ B hwa hoa ra ri ro hb hlk HS
            have hq2 : gg ≠ w.heap.size + 1 := by omega
            have hbs : w.heap.size ≤ gg := by omega
            go_upto_region 9 with (fail)
            refine wp_region_noPanic ?_
            refine wp_region_last (S := (fun w' => w'.cell? ⟨w.heap.size, 1, none⟩ = some (.slice (some ⟨b, o, none⟩) c.words.length cb) ∧ w'.cell? ⟨b, o + k, none⟩ = some (.slice Au a.length cu) ∧ w'.cell? ⟨gg, 1, none⟩ = some (.slice Ga k ca'))) 11 11 rfl (by kernel_rfl) (by kernel_rfl) ?_ (fun hHeld => ?_)
            · exact ⟨x0, e0, g0⟩
            refine wpAnyH_take (i := 0) (v := ?_) rfl (by kernel_rfl) (by kernel_rfl) (by kernel_rfl) (fun _ _ _ h => h) (Or.inl ⟨by rfl, ?_⟩) hHeld ?_
            rotate_left
            · (intro w hSw; (try dsimp only at hSw); go_simp; try with_reducible rfl)
            try simp only [Act.put, List.setIfInBounds_toArray, List.set_cons_zero, List.set_cons_succ]
            refine wpAnyH_take (i := 1) (v := ?_) rfl (by kernel_rfl) (by kernel_rfl) (by kernel_rfl) (fun _ _ _ h => h) (Or.inl ⟨by rfl, ?_⟩) hHeld ?_
            rotate_left
            · (intro w hSw; (try dsimp only at hSw); go_simp; try with_reducible rfl)
            try simp only [Act.put, List.setIfInBounds_toArray, List.set_cons_zero, List.set_cons_succ]
            refine wpAnyH_take (i := 2) (v := ?_) rfl (by kernel_rfl) (by kernel_rfl) (by kernel_rfl) (fun _ _ _ h => h) (Or.inl ⟨by rfl, ?_⟩) hHeld ?_
            rotate_left
            · (intro w hSw; (try dsimp only at hSw); go_simp; try with_reducible rfl)
            try simp only [Act.put, List.setIfInBounds_toArray, List.set_cons_zero, List.set_cons_succ]
            refine wpAnyH_take (i := 3) (v := ?_) rfl (by kernel_rfl) (by kernel_rfl) (by kernel_rfl) (fun _ _ _ h => h) (Or.inl ⟨by rfl, ?_⟩) hHeld ?_
            rotate_left
            · (intro w hSw; (try dsimp only at hSw); go_simp; try with_reducible rfl)
            try simp only [Act.put, List.setIfInBounds_toArray, List.set_cons_zero, List.set_cons_succ]
            refine wpAnyH_take (i := 4) (v := ?_) rfl (by kernel_rfl) (by kernel_rfl) (by kernel_rfl) (fun _ _ _ h => h) (Or.inl ⟨by rfl, ?_⟩) hHeld ?_
            rotate_left
            · (intro w hSw; (try dsimp only at hSw); go_simp; try with_reducible rfl)
            try simp only [Act.put, List.setIfInBounds_toArray, List.set_cons_zero, List.set_cons_succ]
            refine wpAnyH_take (i := 5) (v := ?_) rfl (by kernel_rfl) (by kernel_rfl) (by kernel_rfl) (fun _ _ _ h => h) (Or.inl ⟨by rfl, ?_⟩) hHeld ?_
            rotate_left
            · (intro w hSw; (try dsimp only at hSw); go_simp; try with_reducible rfl)
            try simp only [Act.put, List.setIfInBounds_toArray, List.set_cons_zero, List.set_cons_succ]
            refine wpAnyH_take (i := 6) (v := ?_) rfl (by kernel_rfl) (by kernel_rfl) (by kernel_rfl) (fun _ _ _ h => h) (Or.inl ⟨by rfl, ?_⟩) hHeld ?_
            rotate_left
            · (intro w hSw; (try dsimp only at hSw); go_simp; try with_reducible rfl)
            try simp only [Act.put, List.setIfInBounds_toArray, List.set_cons_zero, List.set_cons_succ]
            refine wpAnyH_ready (rs := [7]) (by kernel_rfl) (by simp) ?_
            refine AllReadyH.cons rfl (fun K hK => ?_) AllReadyH.nil
            go_simp
            go_at_call 21; (with_reducible refine (ofWord_any wr.drew _ a HRD.out hlv).mono ?_); rintro e w2 ⟨v2, rfl, ho2, hb2⟩; have HB2 := Lib.hid hb2; obtain ⟨Av, cv, rfl, _⟩ := own_len ho2; have HVV := Lib.hid (Rd.of_own ho2); have B2 := Lib.hid (HB.out.drew.next hb2 hgl'); have X2 := Lib.hid (HX.out.drew.next hb2 hxl'); have z0 : w2.cell? ⟨gg, 1, none⟩ = some (.slice Ga k ca') := B2.out.cell 1; have zf0 := B2.out.frozen 1; have hgl2 : gg < w2.heap.size := B2.out.lt; have HBW2 := Lib.hid (HBW.out.drew.trans (hb2.mono HBW.out.size)); have hs2 : w.heap.size ≤ w2.heap.size := HBW2.out.size; have y0 := X2.out.cell 1; simp only [List.getElem?_toArray, List.getElem?_cons_zero, List.getElem?_cons_succ] at y0; have y1 := ((bcell hb2).1 b (o + k) hbr').trans e0; have hbr2 : b < w2.heap.size := Nat.lt_of_lt_of_le hbr' hb2.size; clear ho2 hb2
            try (go_wp2_with fail)
            refine hK.out _ _ ?_ (fun hNew => ?_)
            · exact ⟨y0, y1, z0⟩
            clear hK K hHeld
            have hHeld := hNew
            clear hNew
            try simp only [Act.put, List.setIfInBounds_toArray, List.set_cons_zero, List.set_cons_succ]
            refine wpAnyH_ready (rs := [8]) (by kernel_rfl) (by simp) ?_
            refine AllReadyH.cons rfl (fun K hK => ?_) AllReadyH.nil
            go_simp
            refine hK.out _ _ ?_ (fun hNew => ?_)
            · go_keep
            clear hK K hHeld
            have hHeld := hNew
            clear hNew
            try simp only [Act.put, List.setIfInBounds_toArray, List.set_cons_zero, List.set_cons_succ]
            refine wpAnyH_ready (rs := [9]) (by kernel_rfl) (by simp) ?_
            refine AllReadyH.cons rfl (fun K hK => ?_) AllReadyH.nil
            refine step_append_lies _ (by rfl) _ _ _ (by rfl) w.heap.size 39 jw _ 1 24 Try.underlying107 hjw hjw0 hjw1 hjw2 rfl (by omega) (.slice Ga k ca') k (rowC wdV (c.words.take k) vsa) (by rfl) ((own_next HOA.out.drew HB2.out).alloc _) ⟨w2.heap.size, 0, none⟩ 1 1 [.slice Av a.length cv] (by rfl) (by rfl) (World.news_of_block (cs := #[.slice Av a.length cv]) (t := 39) (fr := (0, 0)) (heap_alloc_new w2 _)) (by simp [Value.oneCell']) (by omega) (by unfold maxLen; omega) (by omega) (by simp; omega) (w2.heap.size + 1) (by simp) ?_; intro gz cap w3 hown3 hgrow3 hat hlt3; have B3 := Lib.hid (Blk.grown (Blk.alloc B2.out _) hgrow3 (Ne.symm hne.out)); have d0 : w3.cell? ⟨gg, 1, none⟩ = some (.slice Ga k ca') := B3.out.cell 1; have df0 := B3.out.frozen 1; have hgl3 : gg < w3.heap.size := B3.out.lt; have HB3 := Lib.hid (below_own (B := w.heap.size) (HBW2.out.alloc hs2 _) ((own_next HOA.out.drew HB2.out).alloc _) hgrow3 (Nat.le_refl _) (by simp; omega)); have y0 := ((X2.out.alloc _).grown hgrow3 (Ne.symm (own_blk_ne HOA.out.drew HX.out.drew (by decide)))).cell 1; simp only [List.getElem?_toArray, List.getElem?_cons_zero, List.getElem?_cons_succ] at y0; have y1 := ((bcell HB3.out).1 b (o + k) hb0).trans E0.out
            refine hK.out _ _ ?_ (fun hNew => ?_)
            · exact ⟨y0, y1, d0⟩
            clear hK K hHeld
            have hHeld := hNew
            clear hNew
            try simp only [Act.put, List.setIfInBounds_toArray, List.set_cons_zero, List.set_cons_succ]
            refine wpAnyH_take (i := 10) (v := ?_) rfl (by kernel_rfl) (by kernel_rfl) (by kernel_rfl) (fun _ _ _ h => h) (Or.inl ⟨by rfl, ?_⟩) hHeld ?_
            rotate_left
            · (intro w hSw; (try dsimp only at hSw); go_simp; try with_reducible rfl)
            try simp only [Act.put, List.setIfInBounds_toArray, List.set_cons_zero, List.set_cons_succ]
            refine wpAnyH_done (by kernel_rfl) ?_ _
            refine lastQ_step rfl (fun K hK => ?_)
            clear hHeld
            go_simp
            refine hK _ _ ?_
            clear hK K
            refine NoPanic.normal ?_
            all_goals
              have HN2 := Lib.hid ((Below.refl w2.heap.size w2).alloc (Nat.le_refl _) (.cells #[.slice Av a.length cv] 39))
              have h3' : w2.ownsRow w.heap.size 39 1 (.slice Ga k ca') (c.words.take k).length (rowC wdV (c.words.take k) vsa) := by rw [HLK.out]; exact own_next HOA.out.drew HB2.out
              have h4' : w3.ownsRow w.heap.size 39 1 (.slice (some ⟨gz, 0, none⟩) (k + 1) cap) ((c.words.take k).length + 1) (rowC wdV (c.words.take k) vsa ++ [.slice Av a.length cv]) := by rw [HLK.out]; exact hown3
              have HP := Lib.hid (SmB.pushW (c := ⟨c.asg, c.words.take k, c.inn, c.out, c.app⟩) (val := a) (by decide) (by decide) (by decide) (by decide) (by decide) B2.out (HWA.out.imp (fun _ _ h => NWp.next (w := wr.drew) h HB2.out)) h3' (RowOwn.next (w := wr.drew) HRA.out HB2.out (fun _ _ h => NAp.next (w := wr.drew) h HB2.out)) (NWp.next (w := wr.drew) HRI.out HB2.out) (NWp.next (w := wr.drew) HRO.out HB2.out) HN2.out hgrow3 h4' (Rd.next HVV.out HN2.out))
              have HX3 := Lib.hid ((((X2.out.alloc (.cells #[.slice Av a.length cv] 39)).grown hgrow3 (Ne.symm (own_blk_ne HOA.out.drew HX.out.drew (by decide)))).far (p := ⟨gg, 1, none⟩) (Ne.symm hq0) (.slice (some ⟨gz, 0, none⟩) (k + 1) cap)))
              have HZ3 := Lib.hid (((((HZ.out.drew.next HB2.out HZ.out.lt).alloc (.cells #[.slice Av a.length cv] 39)).grown hgrow3 (Ne.symm (own_blk_ne HOA.out.drew HZ.out.drew (by decide)))).far (p := ⟨gg, 1, none⟩) (Ne.symm hq2) (.slice (some ⟨gz, 0, none⟩) (k + 1) cap)))
              have HB4 := Lib.hid (HB3.out.setCell (p := ⟨gg, 1, none⟩) hbs (.slice (some ⟨gz, 0, none⟩) (k + 1) cap))
              clear h3' h4' hown3 hgrow3 y0 y1 d0 df0 hgl3 z0 zf0 hgl2 hbr2 hs2 hat hlt3 e0 x0 g0 gf0 hgl hbr hne hxl hxl' hgl' hbr'
              generalize (w3.setCell ⟨gg, 1, none⟩ (.slice (some ⟨gz, 0, none⟩) (k + 1) cap)) = wz at *
              go_wp2
              go_roundg (gk - 1)
              case rel => exact ⟨k + 1, by go_num, by omega, by omega, HB4.out, HX3.out, HZ3.out, by rw [HTK.out]; exact HP.out.1, hgg⟩
              case measure => omega
          · obtain rfl : k = c.words.length := by omega
            rw [List.take_length] at HS
            obtain ⟨hb, hX, hZ, hS, hgg⟩ := HS.out
            have x1 : wr.cell? ⟨w.heap.size, 1, none⟩ = some (.slice Ab c.words.length cb) := hX.cell 1
            have hxl := hX.lt
            obtain ⟨⟨ga, gb, gi, go⟩, B, hN⟩ := hS.cells
            have HN := Lib.hid hN
            obtain ⟨na, nb, ni, no⟩ := hN
            obtain ⟨Ba, ba, hga, _⟩ := na.form
            obtain ⟨Bb, bb, hgb, _⟩ := nb.form
            obtain ⟨Bi, bi, hgi, _⟩ := Rd.form ni
            obtain ⟨Bo, bo, hgo, _⟩ := Rd.form no
            simp only at hga hgb hgi hgo
            subst hga hgb hgi hgo
            have HZ := Lib.hid hZ
            have HBW := Lib.hid hb
            have hl := B.lt
            have b0 := B.cell 0
            have b1 := B.cell 1
            have b2 := B.cell 2
            have b3 := B.cell 3
            have b4 := B.cell 4
            have r0 := hZ.cell 0
            have r1 := hZ.cell 1
            have r2 := hZ.cell 2
            have r3 := hZ.cell 3
            have r4 := hZ.cell 4
            simp only [smV, List.getElem?_toArray, List.getElem?_cons_zero, List.getElem?_cons_succ] at b0 b1 b2 b3 b4 r0 r1 r2 r3 r4
            have rf0 := hZ.frozen 0
            have rf1 := hZ.frozen 1
            have rf2 := hZ.frozen 2
            have rf3 := hZ.frozen 3
            have rf4 := hZ.frozen 4
            have hrb := hZ.lt
            have K := Lib.hid (Kept.of_blk [109] hZ (set5 hZ (.slice Ba c.asg.length ba) (.slice Bb c.words.length bb) (.slice Bi c.inn.length bi) (.slice Bo c.out.length bo) (.bool c.app)).2 rfl)
            have HG := Lib.hid (below_of_grown' hb (set5 hZ (.slice Ba c.asg.length ba) (.slice Bb c.words.length bb) (.slice Bi c.inn.length bi) (.slice Bo c.out.length bo) (.bool c.app)).2 (by omega))
            clear na nb ni no hX hZ hS B hb HS
            go_wp2
            refine bodyPost_ret (v := .agg #[.slice Ba c.asg.length ba, .slice Bb c.words.length bb, .slice Bi c.inn.length bi, .slice Bo c.out.length bo, .bool c.app]) (by simp [results, Try.results49, go_sem, hrb, r0, r1, r2, r3, r4]) rfl ?_
            exact ⟨_, _, _, _, rfl, HN.out.keep K.out rfl rfl rfl, HG.out⟩
end Go.Proofs.Ytiddchpkmcncdaa
/- Walks of layer 41: sameStage and Same of the reference. -/
namespace Go.Proofs.Ytiddchpkmcncdaa
open Go.RowKit
set_option linter.unusedSimpArgs false
set_option linter.unusedVariables false
theorem SameWord_is (w : World) (va vb : Value) (a b : Wd) (r : Bool) (ha : NWp 51 w va a) (hb : NWp 51 w vb b) (la : a.length ≤ 100000) (lb : b.length ≤ 100000) (hr : sameW a b = r) :
    Calls Try.prog 20 #[va, vb] w fun e w' => e = .returned (.bool r) ∧ Below w.heap.size w w' := by
  subst hr; exact SameWord_any w va vb a b ha hb la lb
set_option maxRecDepth 100000 in
set_option maxHeartbeats 16000000 in
theorem sst_is (w : World) (va vb vi vo ua ub ui uo : Value) (a b : Sm) (r : Bool) (ha : NSp 51 39 112 w ⟨va, vb, vi, vo⟩ a) (hb : NSp 51 39 112 w ⟨ua, ub, ui, uo⟩ b) (la : SmLim a) (lb : SmLim b) (hr : eqSm a b = r) :
    Calls Try.prog 48 #[.agg #[va, vb, vi, vo, .bool a.app], .agg #[ua, ub, ui, uo, .bool b.app]] w fun e w' => e = .returned (.bool r) ∧ Below w.heap.size w w' := by
  obtain ⟨sa1, na1, sb1, nb1, si1, ni1, so1, no1, h1⟩ := ha.forms
  obtain ⟨sa2, na2, sb2, nb2, si2, ni2, so2, no2, h2⟩ := hb.forms
  injection h1 with h11 h12 h13 h14
  injection h2 with h21 h22 h23 h24
  subst h11 h12 h13 h14 h21 h22 h23 h24
  have HX := Lib.hid (((Below.refl w.heap.size w).alloc (Nat.le_refl _) (.cells #[.slice sa1 a.asg.length na1, .slice sb1 a.words.length nb1, .slice si1 a.inn.length ni1, .slice so1 a.out.length no1, .bool a.app] 109)).alloc (by simp) (.cells #[.slice sa2 b.asg.length na2, .slice sb2 b.words.length nb2, .slice si2 b.inn.length ni2, .slice so2 b.out.length no2, .bool b.app] 109))
  have HA := Lib.hid (NSp.next ha HX.out)
  have HB := Lib.hid (NSp.next hb HX.out)
  obtain ⟨l1, l2, l3, l4, l5, l6⟩ := la
  obtain ⟨m1, m2, m3, m4, m5, m6⟩ := lb
  have HL3 := Lib.hid (show ∀ x ∈ a.asg, ALen x from l3)
  have HL4 := Lib.hid (show ∀ x ∈ a.words, WLen x from l4)
  have HM3 := Lib.hid (show ∀ x ∈ b.asg, ALen x from m3)
  have HM4 := Lib.hid (show ∀ x ∈ b.words, WLen x from m4)
  have K1 := Lib.hid ((Blk.new w 109 #[.slice sa1 a.asg.length na1, .slice sb1 a.words.length nb1, .slice si1 a.inn.length ni1, .slice so1 a.out.length no1, .bool a.app]).alloc (.cells #[.slice sa2 b.asg.length na2, .slice sb2 b.words.length nb2, .slice si2 b.inn.length ni2, .slice so2 b.out.length no2, .bool b.app] 109))
  have K2 := Lib.hid (show Blk ((w.alloc (.cells #[.slice sa1 a.asg.length na1, .slice sb1 a.words.length nb1, .slice si1 a.inn.length ni1, .slice so1 a.out.length no1, .bool a.app] 109)).alloc (.cells #[.slice sa2 b.asg.length na2, .slice sb2 b.words.length nb2, .slice si2 b.inn.length ni2, .slice so2 b.out.length no2, .bool b.app] 109)) (w.heap.size + 1) 109 #[.slice sa2 b.asg.length na2, .slice sb2 b.words.length nb2, .slice si2 b.inn.length ni2, .slice so2 b.out.length no2, .bool b.app] from by have := Blk.new (w.alloc (.cells #[.slice sa1 a.asg.length na1, .slice sb1 a.words.length nb1, .slice si1 a.inn.length ni1, .slice so1 a.out.length no1, .bool a.app] 109)) 109 #[.slice sa2 b.asg.length na2, .slice sb2 b.words.length nb2, .slice si2 b.inn.length ni2, .slice so2 b.out.length no2, .bool b.app]; simpa using this)
  unfold eqSm at hr
  clear ha hb l3 l4 m3 m4
  obtain ⟨q1, hq1⟩ : ∃ q1, (a.app == b.app) = q1 := ⟨_, rfl⟩
  obtain ⟨q2, hq2⟩ : ∃ q2, sameW a.inn b.inn = q2 := ⟨_, rfl⟩
  obtain ⟨q3, hq3⟩ : ∃ q3, sameW a.out b.out = q3 := ⟨_, rfl⟩
  rw [hq1, hq2, hq3] at hr
  have H1 := Lib.hid hq1
  have H2 := Lib.hid hq2
  have H3 := Lib.hid hq3
  clear hq1 hq2 hq3
  go_enter Try.func48, Try.ntmps48
  go_upto_region 1 with (fail)
  generalize ((w.alloc (.cells #[.slice sa1 a.asg.length na1, .slice sb1 a.words.length nb1, .slice si1 a.inn.length ni1, .slice so1 a.out.length no1, .bool a.app] 109)).alloc (.cells #[.slice sa2 b.asg.length na2, .slice sb2 b.words.length nb2, .slice si2 b.inn.length ni2, .slice so2 b.out.length no2, .bool b.app] 109)) = wa at *
  have HW0 := Lib.hid (Below.refl wa.heap.size wa)
  have x0 : wa.cell? ⟨w.heap.size, 0, none⟩ = some (.slice sa1 a.asg.length na1) := (K1.out).cell 0
  have y0 : wa.cell? ⟨w.heap.size + 1, 0, none⟩ = some (.slice sa2 b.asg.length na2) := (K2.out).cell 0
  have x1 : wa.cell? ⟨w.heap.size, 1, none⟩ = some (.slice sb1 a.words.length nb1) := (K1.out).cell 1
  have y1 : wa.cell? ⟨w.heap.size + 1, 1, none⟩ = some (.slice sb2 b.words.length nb2) := (K2.out).cell 1
  have x2 : wa.cell? ⟨w.heap.size, 2, none⟩ = some (.slice si1 a.inn.length ni1) := (K1.out).cell 2
  have y2 : wa.cell? ⟨w.heap.size + 1, 2, none⟩ = some (.slice si2 b.inn.length ni2) := (K2.out).cell 2
  have x3 : wa.cell? ⟨w.heap.size, 3, none⟩ = some (.slice so1 a.out.length no1) := (K1.out).cell 3
  have y3 : wa.cell? ⟨w.heap.size + 1, 3, none⟩ = some (.slice so2 b.out.length no2) := (K2.out).cell 3
  have x4 : wa.cell? ⟨w.heap.size, 4, none⟩ = some (.bool a.app) := (K1.out).cell 4
  have y4 : wa.cell? ⟨w.heap.size + 1, 4, none⟩ = some (.bool b.app) := (K2.out).cell 4
  have hw0 : w.heap.size < wa.heap.size := (K1.out).lt
  have hw1 : w.heap.size + 1 < wa.heap.size := (K2.out).lt
  by_cases c1 : a.asg.length = b.asg.length
  rotate_left
  ·
    have HR := Lib.hid (show r = false by rw [← hr]; simp [allB_len c1])
    clear hr
    have e1 : ((a.asg.length : Int) == (b.asg.length : Int)) = false := beq_false_of_ne (by omega)
    have e2 : ((a.asg.length : Int) != (b.asg.length : Int)) = true := by simp; omega
    have e3 : (a.asg.length == b.asg.length) = false := beq_false_of_ne c1
    have HN := Lib.hid c1
    clear c1
    go_wp2
    go_ret
    exact ⟨ret_bool HR.out.symm, HX.out.trans (HW0.out.mono HX.out.size)⟩
  have e11 : ((a.asg.length : Int) == (b.asg.length : Int)) = true := beq_iff_eq.2 (by omega)
  have e12 : ((a.asg.length : Int) != (b.asg.length : Int)) = false := by simp [c1]
  have e13 : (a.asg.length == b.asg.length) = true := beq_iff_eq.2 c1
  have HLasg := Lib.hid c1
  clear c1
  by_cases c2 : a.words.length = b.words.length
  rotate_left
  ·
    have HR := Lib.hid (show r = false by rw [← hr]; simp [allB_len c2])
    clear hr
    have e1 : ((a.words.length : Int) == (b.words.length : Int)) = false := beq_false_of_ne (by omega)
    have e2 : ((a.words.length : Int) != (b.words.length : Int)) = true := by simp; omega
    have e3 : (a.words.length == b.words.length) = false := beq_false_of_ne c2
    have HN := Lib.hid c2
    clear c2
    go_wp2
    go_ret
    exact ⟨ret_bool HR.out.symm, HX.out.trans (HW0.out.mono HX.out.size)⟩
  have e21 : ((a.words.length : Int) == (b.words.length : Int)) = true := beq_iff_eq.2 (by omega)
  have e22 : ((a.words.length : Int) != (b.words.length : Int)) = false := by simp [c2]
  have e23 : (a.words.length == b.words.length) = true := beq_iff_eq.2 c2
  have HLwords := Lib.hid c2
  clear c2
  cases q2 with
  | false =>
    have HR := Lib.hid (show r = false by rw [← hr]; simp)
    clear hr
    go_wp2_with fail
    (with_reducible refine (SameWord_is wa _ _ a.inn b.inn false (NWp.next HA.out.pi HW0.out) (NWp.next HB.out.pi HW0.out) l5 m5 H2.out).mono ?_); rintro e w2 ⟨rfl, hb2⟩; have HWw2 := Lib.hid (HW0.out.trans (hb2.mono HW0.out.size)); clear hb2
    go_wp2
    go_ret
    exact ⟨ret_bool HR.out.symm, HX.out.trans (HWw2.out.mono HX.out.size)⟩
  | true =>
    go_wp2_with fail
    (with_reducible refine (SameWord_is wa _ _ a.inn b.inn true (NWp.next HA.out.pi HW0.out) (NWp.next HB.out.pi HW0.out) l5 m5 H2.out).mono ?_); rintro e w2 ⟨rfl, hb2⟩; have HWw2 := Lib.hid (HW0.out.trans (hb2.mono HW0.out.size)); clear hb2
    clear x0 y0 x1 y1 x2 y2 x3 y3 x4 y4 hw0 hw1
    have x0 : w2.cell? ⟨w.heap.size, 0, none⟩ = some (.slice sa1 a.asg.length na1) := (K1.out.next HWw2.out K1.out.lt).cell 0
    have y0 : w2.cell? ⟨w.heap.size + 1, 0, none⟩ = some (.slice sa2 b.asg.length na2) := (K2.out.next HWw2.out K2.out.lt).cell 0
    have x1 : w2.cell? ⟨w.heap.size, 1, none⟩ = some (.slice sb1 a.words.length nb1) := (K1.out.next HWw2.out K1.out.lt).cell 1
    have y1 : w2.cell? ⟨w.heap.size + 1, 1, none⟩ = some (.slice sb2 b.words.length nb2) := (K2.out.next HWw2.out K2.out.lt).cell 1
    have x2 : w2.cell? ⟨w.heap.size, 2, none⟩ = some (.slice si1 a.inn.length ni1) := (K1.out.next HWw2.out K1.out.lt).cell 2
    have y2 : w2.cell? ⟨w.heap.size + 1, 2, none⟩ = some (.slice si2 b.inn.length ni2) := (K2.out.next HWw2.out K2.out.lt).cell 2
    have x3 : w2.cell? ⟨w.heap.size, 3, none⟩ = some (.slice so1 a.out.length no1) := (K1.out.next HWw2.out K1.out.lt).cell 3
    have y3 : w2.cell? ⟨w.heap.size + 1, 3, none⟩ = some (.slice so2 b.out.length no2) := (K2.out.next HWw2.out K2.out.lt).cell 3
    have x4 : w2.cell? ⟨w.heap.size, 4, none⟩ = some (.bool a.app) := (K1.out.next HWw2.out K1.out.lt).cell 4
    have y4 : w2.cell? ⟨w.heap.size + 1, 4, none⟩ = some (.bool b.app) := (K2.out.next HWw2.out K2.out.lt).cell 4
    have hw0 : w.heap.size < w2.heap.size := (K1.out.next HWw2.out K1.out.lt).lt
    have hw1 : w.heap.size + 1 < w2.heap.size := (K2.out.next HWw2.out K2.out.lt).lt
    cases q3 with
    | false =>
      have HR := Lib.hid (show r = false by rw [← hr]; simp)
      clear hr
      go_wp2_with fail
      (with_reducible refine (SameWord_is w2 _ _ a.out b.out false (NWp.next HA.out.po HWw2.out) (NWp.next HB.out.po HWw2.out) l6 m6 H3.out).mono ?_); rintro e w3 ⟨rfl, hb2⟩; have HWw3 := Lib.hid (HWw2.out.trans (hb2.mono HWw2.out.size)); clear hb2
      go_wp2
      go_ret
      exact ⟨ret_bool HR.out.symm, HX.out.trans (HWw3.out.mono HX.out.size)⟩
    | true =>
      go_wp2_with fail
      (with_reducible refine (SameWord_is w2 _ _ a.out b.out true (NWp.next HA.out.po HWw2.out) (NWp.next HB.out.po HWw2.out) l6 m6 H3.out).mono ?_); rintro e w3 ⟨rfl, hb2⟩; have HWw3 := Lib.hid (HWw2.out.trans (hb2.mono HWw2.out.size)); clear hb2
      clear x0 y0 x1 y1 x2 y2 x3 y3 x4 y4 hw0 hw1
      have x0 : w3.cell? ⟨w.heap.size, 0, none⟩ = some (.slice sa1 a.asg.length na1) := (K1.out.next HWw3.out K1.out.lt).cell 0
      have y0 : w3.cell? ⟨w.heap.size + 1, 0, none⟩ = some (.slice sa2 b.asg.length na2) := (K2.out.next HWw3.out K2.out.lt).cell 0
      have x1 : w3.cell? ⟨w.heap.size, 1, none⟩ = some (.slice sb1 a.words.length nb1) := (K1.out.next HWw3.out K1.out.lt).cell 1
      have y1 : w3.cell? ⟨w.heap.size + 1, 1, none⟩ = some (.slice sb2 b.words.length nb2) := (K2.out.next HWw3.out K2.out.lt).cell 1
      have x2 : w3.cell? ⟨w.heap.size, 2, none⟩ = some (.slice si1 a.inn.length ni1) := (K1.out.next HWw3.out K1.out.lt).cell 2
      have y2 : w3.cell? ⟨w.heap.size + 1, 2, none⟩ = some (.slice si2 b.inn.length ni2) := (K2.out.next HWw3.out K2.out.lt).cell 2
      have x3 : w3.cell? ⟨w.heap.size, 3, none⟩ = some (.slice so1 a.out.length no1) := (K1.out.next HWw3.out K1.out.lt).cell 3
      have y3 : w3.cell? ⟨w.heap.size + 1, 3, none⟩ = some (.slice so2 b.out.length no2) := (K2.out.next HWw3.out K2.out.lt).cell 3
      have x4 : w3.cell? ⟨w.heap.size, 4, none⟩ = some (.bool a.app) := (K1.out.next HWw3.out K1.out.lt).cell 4
      have y4 : w3.cell? ⟨w.heap.size + 1, 4, none⟩ = some (.bool b.app) := (K2.out.next HWw3.out K2.out.lt).cell 4
      have hw0 : w.heap.size < w3.heap.size := (K1.out.next HWw3.out K1.out.lt).lt
      have hw1 : w.heap.size + 1 < w3.heap.size := (K2.out.next HWw3.out K2.out.lt).lt
      cases q1 with
      | false =>
        have HR := Lib.hid (show r = false by rw [← hr]; simp)
        clear hr
        have e4 : (a.app == b.app) = false := H1.out
        have e5 : (a.app != b.app) = true := by rw [bne, H1.out]; rfl
        go_wp2
        go_ret
        exact ⟨ret_bool HR.out.symm, HX.out.trans (HWw3.out.mono HX.out.size)⟩
      | true =>
        have e4 : (a.app == b.app) = true := H1.out
        have e5 : (a.app != b.app) = false := by rw [bne, H1.out]; rfl
        have HRR := Lib.hid (show (allB eqA a.asg b.asg && allB sameW a.words b.words) = r by rw [← hr]; simp [Bool.and_comm])
        clear hr
        go_wp2
        clear x0 y0 x1 y1 x2 y2 x3 y3 x4 y4 hw0 hw1
        clear e4 e5
        obtain ⟨sA1, cA1, hv1, _, hA⟩ := (HA.out.pa.next HWw3.out (fun _ _ h => NAp.next h HWw3.out)).all asgV_len
        obtain ⟨sA2, cA2, hv2, _, hB⟩ := (HB.out.pa.next HWw3.out (fun _ _ h => NAp.next h HWw3.out)).all asgV_len
        simp only at hv1 hv2
        cases hv1
        cases hv2
        have HEA := Lib.hid hA
        have HEB := Lib.hid hB
        clear hA hB
        go_loopg [5] (a.asg.length + 1) (fun gk v wr => EqRel eqA w3 a.asg b.asg gk v wr)
        case atStart => exact ⟨0, rfl, Nat.zero_le _, by omega, Below.refl _ _, rfl⟩
        case round =>
          obtain ⟨k, rfl, hk, hgk, hb, hr⟩ := hrel
          have HR := Lib.hid hr
          have HBW := Lib.hid (HWw3.out.trans (hb.mono HWw3.out.size))
          have HBR := Lib.hid hb
          clear hr
          by_cases hlt : k < a.asg.length
          · have hltb : k < b.asg.length := by have := HLasg.out; omega
            obtain ⟨b1, o1, u1, hs1, hb1, hN1, hx1⟩ := HEA.out k hlt
            obtain ⟨b2, o2, u2, hs2, hb2, hN2, hx2⟩ := HEB.out k hltb
            cases hs1
            cases hs2
            have hl1 := HL3.out a.asg[k] (List.getElem_mem hlt)
            have hl2 := HM3.out b.asg[k] (List.getElem_mem hltb)
            have HD := Lib.hid (HR.out.trans (allB_drop a.asg b.asg k hlt hltb))
            obtain ⟨x, hx⟩ : ∃ x, a.asg[k] = x := ⟨_, rfl⟩
            obtain ⟨y, hy⟩ : ∃ y, b.asg[k] = y := ⟨_, rfl⟩
            rw [hx] at hN1 hx1 hl1 HD
            rw [hy] at hN2 hx2 hl2 HD
            clear hx hy HR
            obtain ⟨A1, c1, rfl, _⟩ := Rd.form (show NWp 51 w3 _ x.value from hN1)
            obtain ⟨A2, c2, rfl, _⟩ := Rd.form (show NWp 51 w3 _ y.value from hN2)
            have p10 := hx1 0 _ rfl
            rw [Nat.add_zero] at p10
            have e10 := ((bcell hb).1 b1 _ hb1).trans p10
            have p11 := hx1 1 _ rfl
            rw [← Nat.add_assoc] at p11
            have e11 := ((bcell hb).1 b1 _ hb1).trans p11
            have p20 := hx2 0 _ rfl
            rw [Nat.add_zero] at p20
            have e20 := ((bcell hb).1 b2 _ hb2).trans p20
            have p21 := hx2 1 _ rfl
            rw [← Nat.add_assoc] at p21
            have e21 := ((bcell hb).1 b2 _ hb2).trans p21
            have i1 : (0 : Int) ≤ (k : Int) := by omega
            have i2 : (k : Int) < (a.asg.length : Int) := by omega
            have i3 : (k : Int) < (b.asg.length : Int) := by omega
            have hbr1 : b1 < wr.heap.size := Nat.lt_of_lt_of_le hb1 hb.size
            have hbr2 : b2 < wr.heap.size := Nat.lt_of_lt_of_le hb2 hb.size
            have HL1 := Lib.hid (show x.value.length ≤ 100000 from hl1)
            have HL2 := Lib.hid (show y.value.length ≤ 100000 from hl2)
            have HN1 := Lib.hid (show NWp 51 wr.drew _ x.value from Rd.drew (NAp.next hN1 hb))
            have HN2 := Lib.hid (show NWp 51 wr.drew _ y.value from Rd.drew (NAp.next hN2 hb))
            clear hx1 hx2 p10 p11 p20 p21 hN1 hN2 hl1 hl2 hb
            have x0 : wr.cell? ⟨w.heap.size, 0, none⟩ = some (.slice (some ⟨b1, o1, none⟩) a.asg.length na1) := (K1.out.next HBW.out K1.out.lt).cell 0
            have y0 : wr.cell? ⟨w.heap.size + 1, 0, none⟩ = some (.slice (some ⟨b2, o2, none⟩) b.asg.length na2) := (K2.out.next HBW.out K2.out.lt).cell 0
            have hw0 : w.heap.size < wr.heap.size := (K1.out.next HBW.out K1.out.lt).lt
            have hw1 : w.heap.size + 1 < wr.heap.size := (K2.out.next HBW.out K2.out.lt).lt
            by_cases hnm : x.name = y.name
            · have n1 : ((bs x.name).toList == (bs y.name).toList) = true := by rw [hnm]; simp
              have n2 : ((bs x.name).toList != (bs y.name).toList) = false := by rw [hnm]; simp
              have HNM := Lib.hid hnm
              clear hnm
              cases hf : sameW x.value y.value with
              | true =>
                have HF := Lib.hid hf
                have HQ := Lib.hid (show eqA x y = true by rw [eqA, hf, HNM.out]; simp)
                rw [HQ.out] at HD
                clear hf
                go_wp2
                go_region_held3 (fun w' => w'.cell? ⟨w.heap.size, 0, none⟩ = some (.slice (some ⟨b1, o1, none⟩) a.asg.length na1) ∧ w'.cell? ⟨w.heap.size + 1, 0, none⟩ = some (.slice (some ⟨b2, o2, none⟩) b.asg.length na2) ∧ w'.cell? ⟨b1, o1 + k * 2, none⟩ = some (.string (bs x.name)) ∧ w'.cell? ⟨b1, o1 + k * 2 + 1, none⟩ = some (.slice A1 x.value.length c1) ∧ w'.cell? ⟨b2, o2 + k * 2, none⟩ = some (.string (bs y.name)) ∧ w'.cell? ⟨b2, o2 + k * 2 + 1, none⟩ = some (.slice A2 y.value.length c2))
                  (first | (with_reducible exact ⟨z0, z1, z2, z3, z4, z5⟩) | go_keep)
                  (first | (go_at_call 20; (with_reducible refine (SameWord_is wr.drew _ _ x.value y.value true HN1.out HN2.out HL1.out HL2.out HF.out).mono ?_); rintro e w5 ⟨rfl, hb5⟩; have hbz := bcell hb5; have z0 := (hbz.1 _ 0 hw0).trans x0; have z1 := (hbz.1 _ 0 hw1).trans y0; have z2 := (hbz.1 b1 _ hbr1).trans e10; have z3 := (hbz.1 b1 _ hbr1).trans e11; have z4 := (hbz.1 b2 _ hbr2).trans e20; have z5 := (hbz.1 b2 _ hbr2).trans e21; have HB5 := Lib.hid (HBR.out.drew.trans (hb5.mono HBR.out.size)); clear hb5 hbz))
                all_goals
                  clear z0 z1 z2 z3 z4 z5
                  go_wp2
                  go_roundg (gk - 1)
                  case rel => exact ⟨k + 1, by go_num, by omega, by omega, HB5.out, HD.out⟩
                  case measure => omega
              | false =>
                have HF := Lib.hid hf
                have HQ := Lib.hid (show eqA x y = false by rw [eqA, hf, HNM.out]; simp)
                rw [HQ.out] at HD
                clear hf
                go_wp2
                go_region_held3 (fun w' => w'.cell? ⟨w.heap.size, 0, none⟩ = some (.slice (some ⟨b1, o1, none⟩) a.asg.length na1) ∧ w'.cell? ⟨w.heap.size + 1, 0, none⟩ = some (.slice (some ⟨b2, o2, none⟩) b.asg.length na2) ∧ w'.cell? ⟨b1, o1 + k * 2, none⟩ = some (.string (bs x.name)) ∧ w'.cell? ⟨b1, o1 + k * 2 + 1, none⟩ = some (.slice A1 x.value.length c1) ∧ w'.cell? ⟨b2, o2 + k * 2, none⟩ = some (.string (bs y.name)) ∧ w'.cell? ⟨b2, o2 + k * 2 + 1, none⟩ = some (.slice A2 y.value.length c2))
                  (first | (with_reducible exact ⟨z0, z1, z2, z3, z4, z5⟩) | go_keep)
                  (first | (go_at_call 20; (with_reducible refine (SameWord_is wr.drew _ _ x.value y.value false HN1.out HN2.out HL1.out HL2.out HF.out).mono ?_); rintro e w5 ⟨rfl, hb5⟩; have hbz := bcell hb5; have z0 := (hbz.1 _ 0 hw0).trans x0; have z1 := (hbz.1 _ 0 hw1).trans y0; have z2 := (hbz.1 b1 _ hbr1).trans e10; have z3 := (hbz.1 b1 _ hbr1).trans e11; have z4 := (hbz.1 b2 _ hbr2).trans e20; have z5 := (hbz.1 b2 _ hbr2).trans e21; have HB5 := Lib.hid (HBR.out.drew.trans (hb5.mono HBR.out.size)); clear hb5 hbz))
                all_goals
                  clear z0 z1 z2 z3 z4 z5
                  go_wp2
                  go_ret
                  exact ⟨ret_bool (by rw [← HRR.out, HD.out]; rfl), HX.out.trans ((HWw3.out.trans (HB5.out.mono HWw3.out.size)).mono HX.out.size)⟩
            · have n1 : ((bs x.name).toList == (bs y.name).toList) = false := by rw [bs_tl, bs_tl]; exact beq_false_of_ne hnm
              have n2 : ((bs x.name).toList != (bs y.name).toList) = true := by rw [bs_tl, bs_tl]; simpa using hnm
              have HQ := Lib.hid (show eqA x y = false by rw [eqA]; simp [hnm])
              rw [HQ.out] at HD
              clear hnm
              go_wp2
              go_quiet (fail)
              go_wp2
              go_ret
              exact ⟨ret_bool (by rw [← HRR.out, HD.out]; rfl), HX.out.trans ((below_drewN HBW.out _).mono HX.out.size)⟩
          · obtain rfl : k = a.asg.length := by omega
            have HZ := Lib.hid (show allB eqA a.asg b.asg = true by rw [HR.out, allB_end HLasg.out])
            have HR2 := Lib.hid (show allB sameW a.words b.words = r by rw [← HRR.out, HZ.out]; rfl)
            clear hb HR HRR hk hgk
            have x0 : wr.cell? ⟨w.heap.size, 0, none⟩ = some (.slice sa1 a.asg.length na1) := (K1.out.next HBW.out K1.out.lt).cell 0
            have y0 : wr.cell? ⟨w.heap.size + 1, 0, none⟩ = some (.slice sa2 b.asg.length na2) := (K2.out.next HBW.out K2.out.lt).cell 0
            have hw0 : w.heap.size < wr.heap.size := (K1.out.next HBW.out K1.out.lt).lt
            have hw1 : w.heap.size + 1 < wr.heap.size := (K2.out.next HBW.out K2.out.lt).lt
            go_wp2
            clear x0 y0 hw0 hw1 HEA HEB
            obtain ⟨wo, rfl⟩ : ∃ wo : World, wo = wr := ⟨_, rfl⟩
            obtain ⟨gk0, rfl⟩ : ∃ gk0 : Nat, gk0 = gk := ⟨_, rfl⟩
            have HBO := Lib.hid HBW.out
            clear HBW
            obtain ⟨sA1, cA1, hv1, _, hA⟩ := (HA.out.pw.next HBO.out (fun _ _ h => NWp.next h HBO.out)).all wdV_len
            obtain ⟨sA2, cA2, hv2, _, hB⟩ := (HB.out.pw.next HBO.out (fun _ _ h => NWp.next h HBO.out)).all wdV_len
            simp only at hv1 hv2
            cases hv1
            cases hv2
            have HEA := Lib.hid hA
            have HEB := Lib.hid hB
            clear hA hB HBR
            go_loopg [6] (a.words.length + 1) (fun gk v wr => EqRel sameW wo a.words b.words gk v wr)
            case atStart => exact ⟨0, rfl, Nat.zero_le _, by omega, Below.refl _ _, rfl⟩
            case round =>
              obtain ⟨k, rfl, hk, hgk, hb, hr⟩ := hrel
              have HR := Lib.hid hr
              have HBW := Lib.hid (HBO.out.trans (hb.mono HBO.out.size))
              have HBR := Lib.hid hb
              clear hr
              by_cases hlt : k < a.words.length
              · have hltb : k < b.words.length := by have := HLwords.out; omega
                obtain ⟨b1, o1, u1, hs1, hb1, hN1, hx1⟩ := HEA.out k hlt
                obtain ⟨b2, o2, u2, hs2, hb2, hN2, hx2⟩ := HEB.out k hltb
                cases hs1
                cases hs2
                have hl1 := HL4.out a.words[k] (List.getElem_mem hlt)
                have hl2 := HM4.out b.words[k] (List.getElem_mem hltb)
                have HD := Lib.hid (HR.out.trans (allB_drop a.words b.words k hlt hltb))
                obtain ⟨x, hx⟩ : ∃ x, a.words[k] = x := ⟨_, rfl⟩
                obtain ⟨y, hy⟩ : ∃ y, b.words[k] = y := ⟨_, rfl⟩
                rw [hx] at hN1 hx1 hl1 HD
                rw [hy] at hN2 hx2 hl2 HD
                clear hx hy HR
                obtain ⟨A1, c1, rfl, _⟩ := Rd.form (show NWp 51 wo _ x from hN1)
                obtain ⟨A2, c2, rfl, _⟩ := Rd.form (show NWp 51 wo _ y from hN2)
                have p10 := hx1 0 _ rfl
                rw [Nat.mul_one, Nat.add_zero] at p10
                have e10 := ((bcell hb).1 b1 _ hb1).trans p10
                have p20 := hx2 0 _ rfl
                rw [Nat.mul_one, Nat.add_zero] at p20
                have e20 := ((bcell hb).1 b2 _ hb2).trans p20
                have i1 : (0 : Int) ≤ (k : Int) := by omega
                have i2 : (k : Int) < (a.words.length : Int) := by omega
                have i3 : (k : Int) < (b.words.length : Int) := by omega
                have hbr1 : b1 < wr.heap.size := Nat.lt_of_lt_of_le hb1 hb.size
                have hbr2 : b2 < wr.heap.size := Nat.lt_of_lt_of_le hb2 hb.size
                have HL1 := Lib.hid (show x.length ≤ 100000 from hl1)
                have HL2 := Lib.hid (show y.length ≤ 100000 from hl2)
                have HN1 := Lib.hid (show NWp 51 wr.drew _ x from Rd.drew (NWp.next hN1 hb))
                have HN2 := Lib.hid (show NWp 51 wr.drew _ y from Rd.drew (NWp.next hN2 hb))
                clear hx1 hx2 p10 p20 hN1 hN2 hl1 hl2 hb
                have x1 : wr.cell? ⟨w.heap.size, 1, none⟩ = some (.slice (some ⟨b1, o1, none⟩) a.words.length nb1) := (K1.out.next HBW.out K1.out.lt).cell 1
                have y1 : wr.cell? ⟨w.heap.size + 1, 1, none⟩ = some (.slice (some ⟨b2, o2, none⟩) b.words.length nb2) := (K2.out.next HBW.out K2.out.lt).cell 1
                have hw0 : w.heap.size < wr.heap.size := (K1.out.next HBW.out K1.out.lt).lt
                have hw1 : w.heap.size + 1 < wr.heap.size := (K2.out.next HBW.out K2.out.lt).lt
                cases hf : sameW x y with
                | true =>
                  have HF := Lib.hid hf
                  rw [hf] at HD
                  clear hf
                  go_wp2
                  go_region_held3 (fun w' => w'.cell? ⟨w.heap.size, 1, none⟩ = some (.slice (some ⟨b1, o1, none⟩) a.words.length nb1) ∧ w'.cell? ⟨w.heap.size + 1, 1, none⟩ = some (.slice (some ⟨b2, o2, none⟩) b.words.length nb2) ∧ w'.cell? ⟨b1, o1 + k, none⟩ = some (.slice A1 x.length c1) ∧ w'.cell? ⟨b2, o2 + k, none⟩ = some (.slice A2 y.length c2))
                    (first | (with_reducible exact ⟨z0, z1, z2, z3⟩) | go_keep)
                    (first | (go_at_call 20; (with_reducible refine (SameWord_is wr.drew _ _ x y true HN1.out HN2.out HL1.out HL2.out HF.out).mono ?_); rintro e w5 ⟨rfl, hb5⟩; have hbz := bcell hb5; have z0 := (hbz.1 _ 1 hw0).trans x1; have z1 := (hbz.1 _ 1 hw1).trans y1; have z2 := (hbz.1 b1 _ hbr1).trans e10; have z3 := (hbz.1 b2 _ hbr2).trans e20; have HB5 := Lib.hid (HBR.out.drew.trans (hb5.mono HBR.out.size)); clear hb5 hbz))
                  all_goals
                    clear z0 z1 z2 z3
                    go_wp2
                    go_roundg (gk - 1)
                    case rel => exact ⟨k + 1, by go_num, by omega, by omega, HB5.out, HD.out⟩
                    case measure => omega
                | false =>
                  have HF := Lib.hid hf
                  rw [hf] at HD
                  clear hf
                  go_wp2
                  go_region_held3 (fun w' => w'.cell? ⟨w.heap.size, 1, none⟩ = some (.slice (some ⟨b1, o1, none⟩) a.words.length nb1) ∧ w'.cell? ⟨w.heap.size + 1, 1, none⟩ = some (.slice (some ⟨b2, o2, none⟩) b.words.length nb2) ∧ w'.cell? ⟨b1, o1 + k, none⟩ = some (.slice A1 x.length c1) ∧ w'.cell? ⟨b2, o2 + k, none⟩ = some (.slice A2 y.length c2))
                    (first | (with_reducible exact ⟨z0, z1, z2, z3⟩) | go_keep)
                    (first | (go_at_call 20; (with_reducible refine (SameWord_is wr.drew _ _ x y false HN1.out HN2.out HL1.out HL2.out HF.out).mono ?_); rintro e w5 ⟨rfl, hb5⟩; have hbz := bcell hb5; have z0 := (hbz.1 _ 1 hw0).trans x1; have z1 := (hbz.1 _ 1 hw1).trans y1; have z2 := (hbz.1 b1 _ hbr1).trans e10; have z3 := (hbz.1 b2 _ hbr2).trans e20; have HB5 := Lib.hid (HBR.out.drew.trans (hb5.mono HBR.out.size)); clear hb5 hbz))
                  all_goals
                    clear z0 z1 z2 z3
                    go_wp2
                    go_ret
                    exact ⟨ret_bool (by rw [← HR2.out, HD.out]; rfl), HX.out.trans ((HBO.out.trans (HB5.out.mono HBO.out.size)).mono HX.out.size)⟩
              · obtain rfl : k = a.words.length := by omega
                have HZ := Lib.hid (show true = r by rw [← HR2.out, HR.out, allB_end HLwords.out])
                have x1 : wr.cell? ⟨w.heap.size, 1, none⟩ = some (.slice sb1 a.words.length nb1) := (K1.out.next HBW.out K1.out.lt).cell 1
                have y1 : wr.cell? ⟨w.heap.size + 1, 1, none⟩ = some (.slice sb2 b.words.length nb2) := (K2.out.next HBW.out K2.out.lt).cell 1
                have hw0 : w.heap.size < wr.heap.size := (K1.out.next HBW.out K1.out.lt).lt
                have hw1 : w.heap.size + 1 < wr.heap.size := (K2.out.next HBW.out K2.out.lt).lt
                clear hb
                go_wp2
                go_ret
                exact ⟨ret_bool HZ.out, HX.out.trans (HBW.out.mono HX.out.size)⟩
end Go.Proofs.Ytiddchpkmcncdaa
/- Walks of layer 41: Same of the reference. -/
namespace Go.Proofs.Ytiddchpkmcncdaa
open Go.RowKit
set_option linter.unusedSimpArgs false
set_option linter.unusedVariables false
set_option maxRecDepth 100000 in
set_option maxHeartbeats 16000000 in
theorem Same_is (w : World) (va vb : Value) (a b : Ln) (r : Bool) (ha : RowRd 101 plV (NPp 51 39 112 109) w va a.parts) (hb : RowRd 101 plV (NPp 51 39 112 109) w vb b.parts) (la : LLen a) (lb : LLen b) (hr : eqLn a b = r) :
    Calls Try.prog 16 #[.agg #[va, .bool a.bg], .agg #[vb, .bool b.bg]] w fun e w' => e = .returned (.bool r) ∧ Below w.heap.size w w' := by
  obtain ⟨A, ca, rfl, _, hA⟩ := ha.all plV_len
  obtain ⟨B, cb, rfl, _, hB⟩ := hb.all plV_len
  have HA := Lib.hid hA
  have HB := Lib.hid hB
  obtain ⟨la1, la2⟩ := la
  obtain ⟨lb1, lb2⟩ := lb
  have HL3 := Lib.hid la2
  have HM3 := Lib.hid lb2
  have HX := Lib.hid (((Below.refl w.heap.size w).alloc (Nat.le_refl _) (.cells #[.slice A a.parts.length ca, .bool a.bg] 30)).alloc (by simp) (.cells #[.slice B b.parts.length cb, .bool b.bg] 30))
  have K1 := Lib.hid ((Blk.new w 30 #[.slice A a.parts.length ca, .bool a.bg]).alloc (.cells #[.slice B b.parts.length cb, .bool b.bg] 30))
  have K2 := Lib.hid (show Blk ((w.alloc (.cells #[.slice A a.parts.length ca, .bool a.bg] 30)).alloc (.cells #[.slice B b.parts.length cb, .bool b.bg] 30)) (w.heap.size + 1) 30 #[.slice B b.parts.length cb, .bool b.bg] from by have := Blk.new (w.alloc (.cells #[.slice A a.parts.length ca, .bool a.bg] 30)) 30 #[.slice B b.parts.length cb, .bool b.bg]; simpa using this)
  unfold eqLn at hr
  clear ha hb hA hB la2 lb2
  by_cases hn : a.bg = b.bg
  rotate_left
  · have e1 : (a.bg == b.bg) = false := by simpa using hn
    have e2 : (a.bg != b.bg) = true := by rw [bne, e1]; rfl
    have HR := Lib.hid (show r = false by rw [← hr, e1]; rfl)
    clear hn hr
    go_enter Try.func16, Try.ntmps16
    go_wp2
    go_ret
    exact ⟨ret_bool HR.out.symm, HX.out⟩
  have e1 : (a.bg == b.bg) = true := by simpa using hn
  have e2 : (a.bg != b.bg) = false := by rw [bne, e1]; rfl
  have HR0 := Lib.hid (show allB eqP a.parts b.parts = r by rw [← hr, e1]; rfl)
  clear hn hr
  by_cases hl : a.parts.length = b.parts.length
  rotate_left
  · have e3 : ((a.parts.length : Int) == (b.parts.length : Int)) = false := beq_false_of_ne (by omega)
    have e4 : ((a.parts.length : Int) != (b.parts.length : Int)) = true := by simp; omega
    have e5 : (a.parts.length == b.parts.length) = false := beq_false_of_ne hl
    have HR := Lib.hid (show r = false by rw [← HR0.out]; exact allB_len hl)
    have HN := Lib.hid hl
    clear hl
    go_enter Try.func16, Try.ntmps16
    go_wp2
    go_ret
    exact ⟨ret_bool HR.out.symm, HX.out⟩
  have e3 : ((a.parts.length : Int) == (b.parts.length : Int)) = true := beq_iff_eq.2 (by omega)
  have e4 : ((a.parts.length : Int) != (b.parts.length : Int)) = false := by simp [hl]
  have e5 : (a.parts.length == b.parts.length) = true := beq_iff_eq.2 hl
  have HLP := Lib.hid hl
  clear hl
  go_enter Try.func16, Try.ntmps16
  go_wp2
  generalize ((w.alloc (.cells #[.slice A a.parts.length ca, .bool a.bg] 30)).alloc (.cells #[.slice B b.parts.length cb, .bool b.bg] 30)) = wa at *
  clear e1 e2 e3 e4 e5
  go_loopg [5] (a.parts.length + 1) (fun gk v wr => EqRel eqP wa a.parts b.parts gk v wr)
  case atStart => exact ⟨0, rfl, Nat.zero_le _, by omega, Below.refl _ _, rfl⟩
  case round =>
    obtain ⟨k, rfl, hk, hgk, hb, hr⟩ := hrel
    have HR := Lib.hid hr
    have HBW := Lib.hid hb
    have HBX := Lib.hid (HX.out.trans (hb.mono HX.out.size))
    clear hr
    have hw0 : w.heap.size < wr.heap.size := (K1.out.next HBW.out K1.out.lt).lt
    have hw1 : w.heap.size + 1 < wr.heap.size := (K2.out.next HBW.out K2.out.lt).lt
    by_cases hlt : k < a.parts.length
    · have hltb : k < b.parts.length := by have := HLP.out; omega
      obtain ⟨b1, o1, u1, hs1, hb1, hN1, hx1⟩ := HA.out k hlt
      obtain ⟨b2, o2, u2, hs2, hb2, hN2, hx2⟩ := HB.out k hltb
      subst hs1 hs2
      have hl1 := HL3.out a.parts[k] (List.getElem_mem hlt)
      have hl2 := HM3.out b.parts[k] (List.getElem_mem hltb)
      have HD := Lib.hid (HR.out.trans (allB_drop a.parts b.parts k hlt hltb))
      obtain ⟨x, hx⟩ : ∃ x, a.parts[k] = x := ⟨_, rfl⟩
      obtain ⟨y, hy⟩ : ∃ y, b.parts[k] = y := ⟨_, rfl⟩
      rw [hx] at hN1 hx1 hl1 HD
      rw [hy] at hN2 hx2 hl2 HD
      clear hx hy HR
      obtain ⟨A1, c1, rfl, xs1, hS1⟩ := RowRd.all (show RowRd 109 smV (NSp 51 39 112) w u1 x.stages from hN1) smV_len
      obtain ⟨A2, c2, rfl, xs2, hS2⟩ := RowRd.all (show RowRd 109 smV (NSp 51 39 112) w u2 y.stages from hN2) smV_len
      have HS1 := Lib.hid hS1
      have HS2 := Lib.hid hS2
      have p10 := hx1 0 _ rfl
      have p11 := hx1 1 _ rfl
      have p20 := hx2 0 _ rfl
      have p21 := hx2 1 _ rfl
      rw [Nat.add_zero] at p10 p20
      rw [← Nat.add_assoc] at p11 p21
      have hbr1 : b1 < wr.heap.size := Nat.lt_of_lt_of_le hb1 HBX.out.size
      have hbr2 : b2 < wr.heap.size := Nat.lt_of_lt_of_le hb2 HBX.out.size
      have x0 : wr.cell? ⟨w.heap.size, 0, none⟩ = some (.slice (some ⟨b1, o1, none⟩) a.parts.length ca) := (K1.out.next HBW.out K1.out.lt).cell 0
      have y0 : wr.cell? ⟨w.heap.size + 1, 0, none⟩ = some (.slice (some ⟨b2, o2, none⟩) b.parts.length cb) := (K2.out.next HBW.out K2.out.lt).cell 0
      have e10 := ((bcell HBX.out).1 b1 _ hb1).trans p10
      have e11 := ((bcell HBX.out).1 b1 _ hb1).trans p11
      have e20 := ((bcell HBX.out).1 b2 _ hb2).trans p20
      have e21 := ((bcell HBX.out).1 b2 _ hb2).trans p21
      have P11 := Lib.hid p11
      have P21 := Lib.hid p21
      have i1 : (0 : Int) ≤ (k : Int) := by omega
      have i2 : (k : Int) < (a.parts.length : Int) := by omega
      have i3 : (k : Int) < (b.parts.length : Int) := by omega
      have hls1 := hl1.1
      have hls2 := hl2.1
      have HL1 := Lib.hid hl1.2
      have HL2 := Lib.hid hl2.2
      clear hx1 hx2 p10 p11 p20 p21 hN1 hN2 hl1 hl2 hS1 hS2 hb
      by_cases hwh : x.wh = y.wh
      rotate_left
      · have n1 : (x.wh == y.wh) = false := beq_false_of_ne hwh
        have n2 : (x.wh != y.wh) = true := by simpa using hwh
        have HQ := Lib.hid (show eqP x y = false by rw [eqP]; simp [hwh])
        rw [HQ.out] at HD
        clear hwh
        go_wp2
        go_quiet (fail)
        go_wp2
        go_ret
        exact ⟨ret_bool (by rw [← HR0.out, HD.out]; rfl), below_drewN HBX.out _⟩
      have n1 : (x.wh == y.wh) = true := beq_iff_eq.2 hwh
      have n2 : (x.wh != y.wh) = false := by simp [hwh]
      have HWH := Lib.hid hwh
      clear hwh
      by_cases hsl : x.stages.length = y.stages.length
      rotate_left
      · have n3 : ((x.stages.length : Int) == (y.stages.length : Int)) = false := beq_false_of_ne (by omega)
        have n4 : ((x.stages.length : Int) != (y.stages.length : Int)) = true := by simp; omega
        have n5 : (x.stages.length == y.stages.length) = false := beq_false_of_ne hsl
        have HQ := Lib.hid (show eqP x y = false by rw [eqP, allB_len hsl]; simp)
        rw [HQ.out] at HD
        clear hsl
        go_wp2
        go_quiet (fail)
        go_wp2
        go_ret
        exact ⟨ret_bool (by rw [← HR0.out, HD.out]; rfl), below_drewN HBX.out _⟩
      have n3 : ((x.stages.length : Int) == (y.stages.length : Int)) = true := beq_iff_eq.2 (by omega)
      have n4 : ((x.stages.length : Int) != (y.stages.length : Int)) = false := by simp [hsl]
      have n5 : (x.stages.length == y.stages.length) = true := beq_iff_eq.2 hsl
      have HSL := Lib.hid hsl
      have HQE := Lib.hid (show eqP x y = allB eqSm x.stages y.stages by rw [eqP, HWH.out]; simp)
      clear hsl
      go_wp2
      go_quiet (fail)
      go_wp2
      clear n1 n2 n3 n4 n5
      have HBO := Lib.hid (below_drewN HBX.out nq)
      have HBOW := Lib.hid (below_drewN HBW.out nq)
      clear x0 y0 e10 e11 e20 e21 hbr1 hbr2 hw0 hw1
      generalize wr.drewN nq = wo at *
      have X0 := Lib.hid ((K1.out.next HBOW.out K1.out.lt).cell 0)
      have Y0 := Lib.hid ((K2.out.next HBOW.out K2.out.lt).cell 0)
      have E11 := Lib.hid (((bcell HBO.out).1 b1 _ hb1).trans P11.out)
      have E21 := Lib.hid (((bcell HBO.out).1 b2 _ hb2).trans P21.out)
      have HW0 := Lib.hid (K1.out.next HBOW.out K1.out.lt).lt
      have HW1 := Lib.hid (K2.out.next HBOW.out K2.out.lt).lt
      obtain ⟨gk0, rfl⟩ : ∃ gk0 : Nat, gk0 = gk := ⟨_, rfl⟩
      clear HBX HBW
      go_loopg [6] (x.stages.length + 1) (fun gk v wr => EqRel eqSm wo x.stages y.stages gk v wr)
      case atStart => exact ⟨0, rfl, Nat.zero_le _, by omega, Below.refl _ _, rfl⟩
      case round =>
        obtain ⟨j, rfl, hj, hgj, hb, hr⟩ := hrel
        have HRJ := Lib.hid hr
        have HBR := Lib.hid hb
        have HBX := Lib.hid (HBO.out.trans (hb.mono HBO.out.size))
        clear hr
        have hw0 : w.heap.size < wr.heap.size := Nat.lt_of_lt_of_le HW0.out hb.size
        have hw1 : w.heap.size + 1 < wr.heap.size := Nat.lt_of_lt_of_le HW1.out hb.size
        have hbo1 : b1 < wo.heap.size := Nat.lt_of_lt_of_le hb1 HBO.out.size
        have hbo2 : b2 < wo.heap.size := Nat.lt_of_lt_of_le hb2 HBO.out.size
        have hbr1 : b1 < wr.heap.size := Nat.lt_of_lt_of_le hbo1 hb.size
        have hbr2 : b2 < wr.heap.size := Nat.lt_of_lt_of_le hbo2 hb.size
        have x0 : wr.cell? ⟨w.heap.size, 0, none⟩ = some (.slice (some ⟨b1, o1, none⟩) a.parts.length ca) := ((bcell hb).1 _ 0 HW0.out).trans X0.out
        have y0 : wr.cell? ⟨w.heap.size + 1, 0, none⟩ = some (.slice (some ⟨b2, o2, none⟩) b.parts.length cb) := ((bcell hb).1 _ 0 HW1.out).trans Y0.out
        have e11 : wr.cell? ⟨b1, o1 + k * 2 + 1, none⟩ = some (.slice A1 x.stages.length c1) := ((bcell hb).1 b1 _ hbo1).trans E11.out
        have e21 : wr.cell? ⟨b2, o2 + k * 2 + 1, none⟩ = some (.slice A2 y.stages.length c2) := ((bcell hb).1 b2 _ hbo2).trans E21.out
        have i1 : (0 : Int) ≤ (k : Int) := by omega
        have i2 : (k : Int) < (a.parts.length : Int) := by omega
        have i3 : (k : Int) < (b.parts.length : Int) := by omega
        clear hbo1 hbo2
        by_cases hjl : j < x.stages.length
        · have hjlb : j < y.stages.length := by have := HSL.out; omega
          obtain ⟨b3, o3, u3, hs3, hb3, hN3, hx3⟩ := HS1.out j hjl
          obtain ⟨b4, o4, u4x, hs4, hb4, hN4, hx4⟩ := HS2.out j hjlb
          subst hs3 hs4
          have hm1 := HL1.out x.stages[j] (List.getElem_mem hjl)
          have hm2 := HL2.out y.stages[j] (List.getElem_mem hjlb)
          have HDJ := Lib.hid (HRJ.out.trans (allB_drop x.stages y.stages j hjl hjlb))
          obtain ⟨c, hc⟩ : ∃ c, x.stages[j] = c := ⟨_, rfl⟩
          obtain ⟨d, hd⟩ : ∃ d, y.stages[j] = d := ⟨_, rfl⟩
          rw [hc] at hN3 hx3 hm1 HDJ
          rw [hd] at hN4 hx4 hm2 HDJ
          clear hc hd HRJ
          obtain ⟨sa3, na3, sb3, nb3, si3, ni3, so3, no3, rfl⟩ := hN3.forms
          obtain ⟨sa4, na4, sb4, nb4, si4, ni4, so4, no4, rfl⟩ := hN4.forms
          have p30 := hx3 0 _ rfl
          have p31 := hx3 1 _ rfl
          have p32 := hx3 2 _ rfl
          have p33 := hx3 3 _ rfl
          have p34 := hx3 4 _ rfl
          have p40 := hx4 0 _ rfl
          have p41 := hx4 1 _ rfl
          have p42 := hx4 2 _ rfl
          have p43 := hx4 3 _ rfl
          have p44 := hx4 4 _ rfl
          rw [Nat.add_zero] at p30 p40
          rw [← Nat.add_assoc] at p31 p32 p33 p34 p41 p42 p43 p44
          have f30 := ((bcell HBX.out).1 b3 _ hb3).trans p30
          have f31 := ((bcell HBX.out).1 b3 _ hb3).trans p31
          have f32 := ((bcell HBX.out).1 b3 _ hb3).trans p32
          have f33 := ((bcell HBX.out).1 b3 _ hb3).trans p33
          have f34 := ((bcell HBX.out).1 b3 _ hb3).trans p34
          have f40 := ((bcell HBX.out).1 b4 _ hb4).trans p40
          have f41 := ((bcell HBX.out).1 b4 _ hb4).trans p41
          have f42 := ((bcell HBX.out).1 b4 _ hb4).trans p42
          have f43 := ((bcell HBX.out).1 b4 _ hb4).trans p43
          have f44 := ((bcell HBX.out).1 b4 _ hb4).trans p44
          have hbr3 : b3 < wr.heap.size := Nat.lt_of_lt_of_le hb3 HBX.out.size
          have hbr4 : b4 < wr.heap.size := Nat.lt_of_lt_of_le hb4 HBX.out.size
          have i4 : (0 : Int) ≤ (j : Int) := by omega
          have i5 : (j : Int) < (x.stages.length : Int) := by omega
          have i6 : (j : Int) < (y.stages.length : Int) := by omega
          have HN3 := Lib.hid (show NSp 51 39 112 wr.drew _ c from NSp.next (w := w) hN3 HBX.out.drew)
          have HN4 := Lib.hid (show NSp 51 39 112 wr.drew _ d from NSp.next (w := w) hN4 HBX.out.drew)
          have HM1 := Lib.hid hm1
          have HM2 := Lib.hid hm2
          clear hx3 hx4 p30 p31 p32 p33 p34 p40 p41 p42 p43 p44 hN3 hN4 hm1 hm2 hb
          cases hf : eqSm c d with
          | true =>
            have HF := Lib.hid hf
            rw [hf] at HDJ
            clear hf
            go_wp2
            go_region_held3 (fun w' => w'.cell? ⟨w.heap.size, 0, none⟩ = some (.slice (some ⟨b1, o1, none⟩) a.parts.length ca) ∧ w'.cell? ⟨w.heap.size + 1, 0, none⟩ = some (.slice (some ⟨b2, o2, none⟩) b.parts.length cb) ∧ w'.cell? ⟨b1, o1 + k * 2 + 1, none⟩ = some (.slice (some ⟨b3, o3, none⟩) x.stages.length c1) ∧ w'.cell? ⟨b2, o2 + k * 2 + 1, none⟩ = some (.slice (some ⟨b4, o4, none⟩) y.stages.length c2) ∧ w'.cell? ⟨b3, o3 + j * 5, none⟩ = some (.slice sa3 c.asg.length na3) ∧ w'.cell? ⟨b3, o3 + j * 5 + 1, none⟩ = some (.slice sb3 c.words.length nb3) ∧ w'.cell? ⟨b3, o3 + j * 5 + 2, none⟩ = some (.slice si3 c.inn.length ni3) ∧ w'.cell? ⟨b3, o3 + j * 5 + 3, none⟩ = some (.slice so3 c.out.length no3) ∧ w'.cell? ⟨b3, o3 + j * 5 + 4, none⟩ = some (.bool c.app) ∧ w'.cell? ⟨b4, o4 + j * 5, none⟩ = some (.slice sa4 d.asg.length na4) ∧ w'.cell? ⟨b4, o4 + j * 5 + 1, none⟩ = some (.slice sb4 d.words.length nb4) ∧ w'.cell? ⟨b4, o4 + j * 5 + 2, none⟩ = some (.slice si4 d.inn.length ni4) ∧ w'.cell? ⟨b4, o4 + j * 5 + 3, none⟩ = some (.slice so4 d.out.length no4) ∧ w'.cell? ⟨b4, o4 + j * 5 + 4, none⟩ = some (.bool d.app))
              (first | (with_reducible exact ⟨z0, z1, z2, z3, z4, z5, z6, z7, z8, z9, z10, z11, z12, z13⟩) | go_keep)
              (first | (go_at_call 48; (with_reducible refine (sst_is wr.drew _ _ _ _ _ _ _ _ c d true HN3.out HN4.out HM1.out HM2.out HF.out).mono ?_); rintro e w5 ⟨rfl, hb5⟩; have hbz := bcell hb5; have z0 := (hbz.1 _ 0 hw0).trans x0; have z1 := (hbz.1 _ 0 hw1).trans y0; have z2 := (hbz.1 b1 _ hbr1).trans e11; have z3 := (hbz.1 b2 _ hbr2).trans e21; have z4 := (hbz.1 b3 _ hbr3).trans f30; have z5 := (hbz.1 b3 _ hbr3).trans f31; have z6 := (hbz.1 b3 _ hbr3).trans f32; have z7 := (hbz.1 b3 _ hbr3).trans f33; have z8 := (hbz.1 b3 _ hbr3).trans f34; have z9 := (hbz.1 b4 _ hbr4).trans f40; have z10 := (hbz.1 b4 _ hbr4).trans f41; have z11 := (hbz.1 b4 _ hbr4).trans f42; have z12 := (hbz.1 b4 _ hbr4).trans f43; have z13 := (hbz.1 b4 _ hbr4).trans f44; have HB5 := Lib.hid (HBR.out.drew.trans (hb5.mono HBR.out.size)); clear hb5 hbz))
            all_goals
              clear z0 z1 z2 z3 z4 z5 z6 z7 z8 z9 z10 z11 z12 z13
              go_wp2
              go_roundg (gk - 1)
              case rel => exact ⟨j + 1, by go_num, by omega, by omega, HB5.out, HDJ.out⟩
              case measure => omega
          | false =>
            have HF := Lib.hid hf
            rw [hf] at HDJ
            clear hf
            go_wp2
            go_region_held3 (fun w' => w'.cell? ⟨w.heap.size, 0, none⟩ = some (.slice (some ⟨b1, o1, none⟩) a.parts.length ca) ∧ w'.cell? ⟨w.heap.size + 1, 0, none⟩ = some (.slice (some ⟨b2, o2, none⟩) b.parts.length cb) ∧ w'.cell? ⟨b1, o1 + k * 2 + 1, none⟩ = some (.slice (some ⟨b3, o3, none⟩) x.stages.length c1) ∧ w'.cell? ⟨b2, o2 + k * 2 + 1, none⟩ = some (.slice (some ⟨b4, o4, none⟩) y.stages.length c2) ∧ w'.cell? ⟨b3, o3 + j * 5, none⟩ = some (.slice sa3 c.asg.length na3) ∧ w'.cell? ⟨b3, o3 + j * 5 + 1, none⟩ = some (.slice sb3 c.words.length nb3) ∧ w'.cell? ⟨b3, o3 + j * 5 + 2, none⟩ = some (.slice si3 c.inn.length ni3) ∧ w'.cell? ⟨b3, o3 + j * 5 + 3, none⟩ = some (.slice so3 c.out.length no3) ∧ w'.cell? ⟨b3, o3 + j * 5 + 4, none⟩ = some (.bool c.app) ∧ w'.cell? ⟨b4, o4 + j * 5, none⟩ = some (.slice sa4 d.asg.length na4) ∧ w'.cell? ⟨b4, o4 + j * 5 + 1, none⟩ = some (.slice sb4 d.words.length nb4) ∧ w'.cell? ⟨b4, o4 + j * 5 + 2, none⟩ = some (.slice si4 d.inn.length ni4) ∧ w'.cell? ⟨b4, o4 + j * 5 + 3, none⟩ = some (.slice so4 d.out.length no4) ∧ w'.cell? ⟨b4, o4 + j * 5 + 4, none⟩ = some (.bool d.app))
              (first | (with_reducible exact ⟨z0, z1, z2, z3, z4, z5, z6, z7, z8, z9, z10, z11, z12, z13⟩) | go_keep)
              (first | (go_at_call 48; (with_reducible refine (sst_is wr.drew _ _ _ _ _ _ _ _ c d false HN3.out HN4.out HM1.out HM2.out HF.out).mono ?_); rintro e w5 ⟨rfl, hb5⟩; have hbz := bcell hb5; have z0 := (hbz.1 _ 0 hw0).trans x0; have z1 := (hbz.1 _ 0 hw1).trans y0; have z2 := (hbz.1 b1 _ hbr1).trans e11; have z3 := (hbz.1 b2 _ hbr2).trans e21; have z4 := (hbz.1 b3 _ hbr3).trans f30; have z5 := (hbz.1 b3 _ hbr3).trans f31; have z6 := (hbz.1 b3 _ hbr3).trans f32; have z7 := (hbz.1 b3 _ hbr3).trans f33; have z8 := (hbz.1 b3 _ hbr3).trans f34; have z9 := (hbz.1 b4 _ hbr4).trans f40; have z10 := (hbz.1 b4 _ hbr4).trans f41; have z11 := (hbz.1 b4 _ hbr4).trans f42; have z12 := (hbz.1 b4 _ hbr4).trans f43; have z13 := (hbz.1 b4 _ hbr4).trans f44; have HB5 := Lib.hid (HBR.out.drew.trans (hb5.mono HBR.out.size)); clear hb5 hbz))
            all_goals
              clear z0 z1 z2 z3 z4 z5 z6 z7 z8 z9 z10 z11 z12 z13
              go_wp2
              have HZ := Lib.hid (show eqP x y = false by rw [HQE.out, HDJ.out]; rfl)
              go_ret
              exact ⟨ret_bool (by rw [← HR0.out, HD.out, HZ.out]; rfl), HBO.out.trans (HB5.out.mono HBO.out.size)⟩
        · obtain rfl : j = x.stages.length := by omega
          have HZ := Lib.hid (show eqP x y = true by rw [HQE.out, HRJ.out, allB_end HSL.out])
          rw [HZ.out] at HD
          clear hb
          go_wp2
          go_roundg (gk0 - 1)
          case rel => exact ⟨k + 1, by go_num, by omega, by omega, HBOW.out.trans (HBR.out.mono HBOW.out.size), HD.out⟩
          case measure => omega
    · obtain rfl : k = a.parts.length := by omega
      have HZ := Lib.hid (show true = r by rw [← HR0.out, HR.out, allB_end HLP.out])
      have x0 : wr.cell? ⟨w.heap.size, 0, none⟩ = some (.slice A a.parts.length ca) := (K1.out.next HBW.out K1.out.lt).cell 0
      clear hb
      go_wp2
      go_ret
      exact ⟨ret_bool HZ.out, HBX.out⟩
end Go.Proofs.Ytiddchpkmcncdaa
/- Arguments of layer 41, opened: words, simple commands, lines, values. -/
namespace Go.Proofs.Ytiddchpkmcncdaa
open Go.RowKit Go.Deep
set_option linter.unusedSimpArgs false
set_option linter.unusedVariables false
instance : Inhabited Pc := ⟨lit []⟩
instance : Inhabited Asg := ⟨⟨[], []⟩⟩
instance : Inhabited Sm := ⟨smE⟩
instance : Inhabited Pl := ⟨⟨0, []⟩⟩
instance : Inhabited V4 := ⟨⟨.nilFunc, .nilFunc, .nilFunc, .nilFunc⟩⟩
section
variable {H : Type} {enc : TypeId × Value → H} {P : Program} {w : World} {base : Nat} {spare : Nat → Bool} {held : Bool}
theorem drop_one {α : Type} {cs : List α} {i : Nat} {u : α} (h : cs[i]? = some u) : (cs.drop i).take 1 = [u] := by
  obtain ⟨hi, rfl⟩ := List.getElem?_eq_some_iff.1 h
  rw [List.drop_eq_getElem_cons hi]; rfl
theorem field_get {t : TypeId} {fs : Array Field} {n : Nat} {cs : List Value} {y : DataW H × List MemPlace} (ht : P.underlying t = some (.struct fs)) (h : DataW.trod enc P w base spare held n t cs = some y)
    (i : Nat) (f : Field) (hf : fs[i]? = some f) (h1 : P.cellsOf f.type = 1) (ho : f.offset = i) (u : Value) (hu : cs[i]? = some u) : ∃ m x, DataW.trod enc P w base spare held m f.type [u] = some x := by
  obtain ⟨xs, m, _, _, _, hl, hall⟩ := DataW.trod_struct ht h
  have h2 := hall i f hf
  rw [h1, ho, drop_one hu] at h2
  have hi : i < xs.length := by rw [hl]; exact (Array.getElem?_eq_some_iff.1 hf).1
  rw [List.getElem?_eq_getElem hi] at h2
  exact ⟨m, _, h2⟩
end
theorem list2 {α : Type} {cs : List α} (h : cs.length = 2) : ∃ a b, cs = [a, b] := by
  match cs, h with
  | [a, b], _ => exact ⟨a, b, rfl⟩
theorem list3 {α : Type} {cs : List α} (h : cs.length = 3) : ∃ a b c, cs = [a, b, c] := by
  match cs, h with
  | [a, b, c], _ => exact ⟨a, b, c, rfl⟩
theorem list5 {α : Type} {cs : List α} (h : cs.length = 5) : ∃ a b c d e, cs = [a, b, c, d, e] := by
  match cs, h with
  | [a, b, c, d, e], _ => exact ⟨a, b, c, d, e, rfl⟩
theorem c1_9 : Try.prog.cellsOf 9 = 1 := by kernel_rfl
theorem c1_4 : Try.prog.cellsOf 4 = 1 := by kernel_rfl
theorem c1_3 : Try.prog.cellsOf 3 = 1 := by kernel_rfl
theorem c1_28 : Try.prog.cellsOf 28 = 1 := by kernel_rfl
theorem c1_39 : Try.prog.cellsOf 39 = 1 := by kernel_rfl
theorem c1_97 : Try.prog.cellsOf 97 = 1 := by kernel_rfl
theorem c1_106 : Try.prog.cellsOf 106 = 1 := by kernel_rfl
theorem c1_107 : Try.prog.cellsOf 107 = 1 := by kernel_rfl
theorem c3_51 : Try.prog.cellsOf 51 = 3 := by kernel_rfl
theorem c2_112 : Try.prog.cellsOf 112 = 2 := by kernel_rfl
theorem c5_109 : Try.prog.cellsOf 109 = 5 := by kernel_rfl
theorem c2_101 : Try.prog.cellsOf 101 = 2 := by kernel_rfl
theorem c2_30 : Try.prog.cellsOf 30 = 2 := by kernel_rfl
theorem c2_56 : Try.prog.cellsOf 56 = 2 := by kernel_rfl
theorem bs_tl' (s : ByteArray) : bs s.data.toList = s := bs_of s
section
variable {H : Type} {enc : TypeId × Value → H} {w : World} {base : Nat} {spare : Nat → Bool} {held : Bool}
theorem open_str {n : Nat} {u : Value} {x : DataW H × List MemPlace} (h : DataW.trod enc Try.prog w base spare held n 9 [u] = some x) : ∃ t : Bs, u = .string (bs t) ∧ t.length ≤ 9223372036854775807 := by
  obtain ⟨s, h1, _, h2⟩ := DataW.trod_string Try.underlying9 h
  injection h1 with h1
  refine ⟨s.data.toList, by rw [bs_of]; exact h1, ?_⟩
  unfold maxLen at h2
  simpa using h2
theorem open_boo {n : Nat} {u : Value} {x : DataW H × List MemPlace} (h : DataW.trod enc Try.prog w base spare held n 4 [u] = some x) : ∃ b : Bool, u = .bool b := by
  obtain ⟨b, h1, _⟩ := DataW.trod_bool Try.underlying4 h
  injection h1 with h1
  exact ⟨b, h1⟩
theorem open_P {n : Nat} {cs : List Value} {y : DataW H × List MemPlace} (h : DataW.trod enc Try.prog w base spare held n 51 cs = some y) (hl : cs.length = 3) : ∃ (p : Pc) (u : Unit), cs = pfc p u ∧ PN w u p := by
  obtain ⟨a, b, c, rfl⟩ := list3 hl
  obtain ⟨_, _, f0⟩ := field_get Try.underlying51 h 0 _ rfl c1_9 rfl a rfl
  obtain ⟨_, _, f1⟩ := field_get Try.underlying51 h 1 _ rfl c1_4 rfl b rfl
  obtain ⟨_, _, f2⟩ := field_get Try.underlying51 h 2 _ rfl c1_4 rfl c rfl
  obtain ⟨t, rfl, ht⟩ := open_str f0
  obtain ⟨x, rfl⟩ := open_boo f1
  obtain ⟨z, rfl⟩ := open_boo f2
  exact ⟨⟨t, x, z⟩, (), rfl, ht⟩
theorem open_W {n : Nat} {v : Value} {y : DataW H × List MemPlace} (h : DataW.trod enc Try.prog w base spare held n 39 [v] = some y) : ∃ ps : Wd, AW w.heap.size w v ps :=
  open_row (f := pfc) (N := PN) pfc_len (by omega) Try.underlying39 c3_51 (fun n cs y h hl => open_P h hl) h
theorem open_A {n : Nat} {cs : List Value} {y : DataW H × List MemPlace} (h : DataW.trod enc Try.prog w base spare held n 112 cs = some y) (hl : cs.length = 2) : ∃ (a : Asg) (u : Value), cs = asgV a u ∧ AA w.heap.size w u a := by
  obtain ⟨a, b, rfl⟩ := list2 hl
  obtain ⟨_, _, f0⟩ := field_get Try.underlying112 h 0 _ rfl c1_9 rfl a rfl
  obtain ⟨_, _, f1⟩ := field_get Try.underlying112 h 1 _ rfl c1_39 rfl b rfl
  obtain ⟨t, rfl, ht⟩ := open_str f0
  obtain ⟨ps, hp⟩ := open_W f1
  exact ⟨⟨t, ps⟩, b, rfl, hp, ht⟩
theorem open_Wc {n : Nat} {cs : List Value} {y : DataW H × List MemPlace} (h : DataW.trod enc Try.prog w base spare held n 39 cs = some y) (hl : cs.length = 1) : ∃ (a : Wd) (u : Value), cs = wdV a u ∧ AW w.heap.size w u a := by
  match cs, hl with
  | [a], _ =>
    obtain ⟨ps, hp⟩ := open_W h
    exact ⟨ps, a, rfl, hp⟩
theorem open_S {n : Nat} {cs : List Value} {y : DataW H × List MemPlace} (h : DataW.trod enc Try.prog w base spare held n 109 cs = some y) (hl : cs.length = 5) : ∃ (c : Sm) (u : V4), cs = smV c u ∧ AS w.heap.size w u c := by
  obtain ⟨a, b, c, d, e, rfl⟩ := list5 hl
  obtain ⟨_, _, f0⟩ := field_get Try.underlying109 h 0 _ rfl c1_106 rfl a rfl
  obtain ⟨_, _, f1⟩ := field_get Try.underlying109 h 1 _ rfl c1_107 rfl b rfl
  obtain ⟨_, _, f2⟩ := field_get Try.underlying109 h 2 _ rfl c1_39 rfl c rfl
  obtain ⟨_, _, f3⟩ := field_get Try.underlying109 h 3 _ rfl c1_39 rfl d rfl
  obtain ⟨_, _, f4⟩ := field_get Try.underlying109 h 4 _ rfl c1_4 rfl e rfl
  obtain ⟨asl, ha⟩ : ∃ l : List Asg, RowRa asgV (AA w.heap.size) w.heap.size w a l := open_row asgV_len (by omega) Try.underlying106 c2_112 (fun n cs y h hl => open_A h hl) f0
  obtain ⟨ws, hw⟩ : ∃ l : List Wd, RowRa wdV (AW w.heap.size) w.heap.size w b l := open_row wdV_len (by omega) Try.underlying107 c1_39 (fun n cs y h hl => open_Wc h hl) f1
  obtain ⟨i, hi⟩ := open_W f2
  obtain ⟨o, ho⟩ := open_W f3
  obtain ⟨z, rfl⟩ := open_boo f4
  exact ⟨⟨asl, ws, i, o, z⟩, ⟨a, b, c, d⟩, rfl, ha, hw, hi, ho⟩
theorem open_Q {n : Nat} {cs : List Value} {y : DataW H × List MemPlace} (h : DataW.trod enc Try.prog w base spare held n 101 cs = some y) (hl : cs.length = 2) : ∃ (q : Pl) (u : Value), cs = plV q u ∧ AP w.heap.size w u q := by
  obtain ⟨a, b, rfl⟩ := list2 hl
  obtain ⟨_, _, f0⟩ := field_get Try.underlying101 h 0 _ rfl c1_3 rfl a rfl
  obtain ⟨_, _, f1⟩ := field_get Try.underlying101 h 1 _ rfl c1_97 rfl b rfl
  obtain ⟨k, h1, _⟩ := DataW.trod_int Try.underlying3 f0
  injection h1 with h1
  subst h1
  obtain ⟨ss, hs⟩ : ∃ l : List Sm, RowRa smV (AS w.heap.size) w.heap.size w b l := open_row smV_len (by omega) Try.underlying97 c5_109 (fun n cs y h hl => open_S h hl) f1
  exact ⟨⟨k, ss⟩, b, rfl, hs⟩
set_option maxRecDepth 100000 in
theorem open_L {r : Reach} {b0 : Nat} {v : Value} {d : DataW H} {p : List MemPlace} (hv : Value.okWide Try.prog w r b0 30 v) (h : DataW.Trod enc Try.prog w base spare held 30 v d p) : ∃ (l : Ln) (u : Value), v = .agg #[u, .bool l.bg] ∧ RowRa plV (AP w.heap.size) w.heap.size w u l.parts := by
  obtain ⟨cs, rfl, hsz⟩ := Go.WideShapes.okWide_struct Try.underlying30 hv
  obtain ⟨c0, c1, rfl⟩ := Go.Joins.array2 (hsz.trans c2_30)
  obtain ⟨n, hf⟩ := h
  have hf' : DataW.trod enc Try.prog w base spare held n 30 [c0, c1] = some (d, p) := by simpa [Value.cells] using hf
  obtain ⟨_, _, f0⟩ := field_get Try.underlying30 hf' 0 _ rfl c1_28 rfl c0 rfl
  obtain ⟨_, _, f1⟩ := field_get Try.underlying30 hf' 1 _ rfl c1_4 rfl c1 rfl
  obtain ⟨qs, hq⟩ : ∃ l : List Pl, RowRa plV (AP w.heap.size) w.heap.size w c0 l := open_row plV_len (by omega) Try.underlying28 c2_101 (fun n cs y h hl => open_Q h hl) f0
  obtain ⟨z, rfl⟩ := open_boo f1
  exact ⟨⟨qs, z⟩, c0, rfl, hq⟩
end
end Go.Proofs.Ytiddchpkmcncdaa
/- Walks of layer 41: To. -/
namespace Go.Proofs.Ytiddchpkmcncdaa
open Go.RowKit
set_option linter.unusedSimpArgs false
set_option linter.unusedVariables false

def ToP (w : World) (g : Nat) (cs zs : Array Value) (l : Ln) (gk : Nat) (v : Value) (wr : World) : Prop :=
  ∃ k, v = .int .i64 ((k : Nat) : Int) ∧ k ≤ l.parts.length ∧ gk + k = l.parts.length + 1 ∧ Below w.heap.size w wr ∧ Blk wr w.heap.size 30 cs ∧ Blk wr (w.heap.size + 1) 24 zs ∧ LnB 61 42 140 46 49 24 w.heap.size g ⟨l.parts.take k, l.bg⟩ wr
def ToS (wo : World) (q : Pl) (gk : Nat) (v : Value) (wr : World) : Prop :=
  ∃ j, v = .int .i64 ((j : Nat) : Int) ∧ j ≤ q.stages.length ∧ gk + j = q.stages.length + 1 ∧ Below wo.heap.size wo wr ∧ PlB 61 42 140 46 49 wo.heap.size wo.heap.size ⟨q.wh, q.stages.take j⟩ wr
set_option maxRecDepth 100000 in
set_option maxHeartbeats 16000000 in
theorem To_any (w : World) (v : Value) (l : Ln) (h : RowRd 101 plV (NPp 51 39 112 109) w v l.parts) (hlim : LLen l) :
    Calls Try.prog 24 #[.agg #[v, .bool l.bg]] w fun e w' => ∃ v', e = .returned (.agg #[v', .bool l.bg]) ∧ RowRd 49 plV (NPp 61 42 140 46) w' v' l.parts ∧ Below w.heap.size w w' := by
  obtain ⟨js, hjs, hjs0, hjs1, hjs2⟩ := info_parts info46
  obtain ⟨jq, hjq, hjq0, hjq1, hjq2⟩ := info_parts info49
  obtain ⟨A, c, rfl, xa, hA2⟩ := h.all plV_len
  obtain ⟨l1, l2⟩ := hlim
  have HA := Lib.hid hA2
  have HL2 := Lib.hid l2
  clear h hA2 l2
  go_enter Try.func24, Try.ntmps24
  have HX0 := Lib.hid (((Blk.new w 30 #[.slice A l.parts.length c, .bool l.bg]).alloc (.cells #[.slice none 0 0, .bool false] 24)).alloc (.cells #[.slice none 0 0, .bool l.bg] 24))
  have HR0 := Lib.hid ((show Blk ((w.alloc (.cells #[.slice A l.parts.length c, .bool l.bg] 30)).alloc (.cells #[.slice none 0 0, .bool false] 24)) (w.heap.size + 1) 24 #[.slice none 0 0, .bool false] from by have := Blk.new (w.alloc (.cells #[.slice A l.parts.length c, .bool l.bg] 30)) 24 #[.slice none 0 0, .bool false]; simpa using this).alloc (.cells #[.slice none 0 0, .bool l.bg] 24))
  have HG0 := Lib.hid (show LnB 61 42 140 46 49 24 w.heap.size (w.heap.size + 1 + 1) ⟨[], l.bg⟩ (((w.alloc (.cells #[.slice A l.parts.length c, .bool l.bg] 30)).alloc (.cells #[.slice none 0 0, .bool false] 24)).alloc (.cells #[.slice none 0 0, .bool l.bg] 24)) from LnB.new (by have := Blk.new ((w.alloc (.cells #[.slice A l.parts.length c, .bool l.bg] 30)).alloc (.cells #[.slice none 0 0, .bool false] 24)) 24 #[.slice none 0 0, .bool l.bg]; simpa using this))
  have HB0 := Lib.hid ((((Below.refl w.heap.size w).alloc (Nat.le_refl _) (.cells #[.slice A l.parts.length c, .bool l.bg] 30)).alloc (by simp) (.cells #[.slice none 0 0, .bool false] 24)).alloc (by simp; omega) (.cells #[.slice none 0 0, .bool l.bg] 24))
  go_wp2
  generalize (((w.alloc (.cells #[.slice A l.parts.length c, .bool l.bg] 30)).alloc (.cells #[.slice none 0 0, .bool false] 24)).alloc (.cells #[.slice none 0 0, .bool l.bg] 24)) = wa at *
  obtain ⟨gg, hgg⟩ : ∃ gg, w.heap.size + 1 + 1 = gg := ⟨_, rfl⟩
  rw [hgg] at HG0
  simp only [hgg]
  have hg1 : w.heap.size + 1 < gg := by omega
  clear hgg
  go_loopg [4] (l.parts.length + 1) (fun gk v wr => ToP w gg #[.slice A l.parts.length c, .bool l.bg] #[.slice none 0 0, .bool false] l gk v wr)
  case atStart => exact ⟨0, rfl, Nat.zero_le _, by omega, HB0.out, HX0.out, HR0.out, HG0.out⟩
  case round =>
    obtain ⟨k, rfl, hk, hgk, hb, hX, hZ, hG⟩ := hrel
    have HX := Lib.hid hX
    have HZ := Lib.hid hZ
    have HG := Lib.hid hG
    have HB := Lib.hid hb
    clear hX hZ hG HX0 HR0 HG0 HB0
    by_cases hlt : k < l.parts.length
    · obtain ⟨b, o, u, rfl, hb0, hN, hx⟩ := HA.out k hlt
      have hlv := HL2.out l.parts[k] (List.getElem_mem hlt)
      have HTK := Lib.hid (take_next l.parts k hlt)
      obtain ⟨q, hq⟩ : ∃ q, l.parts[k] = q := ⟨_, rfl⟩
      rw [hq] at hN hx hlv HTK
      clear hq
      obtain ⟨wo, rfl⟩ : ∃ wo : World, wo = wr := ⟨_, rfl⟩
      obtain ⟨Au, cu, rfl, xu, hSt⟩ := RowRd.all (show RowRd 109 smV (NSp 51 39 112) w u q.stages from hN) smV_len
      have HSS := Lib.hid hSt
      have p0 := hx 0 _ rfl
      have p1 := hx 1 _ rfl
      have hbo : b < wo.heap.size := Nat.lt_of_lt_of_le hb0 hb.size
      have f0 : wo.cell? ⟨b, o + k * 2, none⟩ = some (.int .i64 q.wh) := ((bcell hb).1 b (o + k * 2) hb0).trans (by simpa using p0)
      have f1 : wo.cell? ⟨b, o + k * 2 + 1, none⟩ = some (.slice Au q.stages.length cu) := ((bcell hb).1 b (o + k * 2 + 1) hb0).trans (by rw [Nat.add_assoc]; exact p1)
      have x0 : wo.cell? ⟨w.heap.size, 0, none⟩ = some (.slice (some ⟨b, o, none⟩) l.parts.length c) := HX.out.cell 0
      have hxo : w.heap.size < wo.heap.size := HX.out.lt
      have i1 : (0 : Int) ≤ (k : Int) := by omega
      have i2 : (k : Int) < (l.parts.length : Int) := by omega
      have X0 := Lib.hid x0
      have F1 := Lib.hid f1
      have hl1 := hlv.1
      have HLS := Lib.hid hlv.2
      have HP0 := Lib.hid (show PlB 61 42 140 46 49 wo.heap.size wo.heap.size ⟨q.wh, []⟩ (wo.alloc (.cells #[.int .i64 q.wh, .slice none 0 0] 49)) from PlB.new (Blk.new wo 49 _))
      have HB1 := Lib.hid ((Below.refl wo.heap.size wo).alloc (Nat.le_refl _) (.cells #[.int .i64 q.wh, .slice none 0 0] 49))
      clear hN hx hlv p0 p1 hSt
      go_wp2
      generalize (wo.alloc (.cells #[.int .i64 q.wh, .slice none 0 0] 49)) = wb at *
      clear x0 f0 f1 i1 i2
      obtain ⟨gk0, rfl⟩ : ∃ gk0 : Nat, gk0 = gk := ⟨_, rfl⟩
      go_loopg [6] (q.stages.length + 1) (fun gk v wr => ToS wo q gk v wr)
      case atStart => exact ⟨0, rfl, Nat.zero_le _, by omega, HB1.out, HP0.out⟩
      case round =>
        obtain ⟨j, rfl, hj, hgj, hbj, hP⟩ := hrel
        have HPJ := Lib.hid hP
        have HBW := Lib.hid hbj
        clear hP HP0 HB1
        have x0 := ((bcell hbj).1 _ 0 hxo).trans X0.out
        have f1 := ((bcell hbj).1 b _ hbo).trans F1.out
        have hbr : b < wr.heap.size := Nat.lt_of_lt_of_le hbo hbj.size
        have hxr : w.heap.size < wr.heap.size := Nat.lt_of_lt_of_le hxo hbj.size
        have i1 : (0 : Int) ≤ (k : Int) := by omega
        have i2 : (k : Int) < (l.parts.length : Int) := by omega
        by_cases hjl : j < q.stages.length
        · obtain ⟨b2, o2, u4, rfl, hb2, hN, hx⟩ := HSS.out j hjl
          have hld := HLS.out q.stages[j] (List.getElem_mem hjl)
          have HTJ := Lib.hid (take_next q.stages j hjl)
          obtain ⟨d, hd⟩ : ∃ d, q.stages[j] = d := ⟨_, rfl⟩
          rw [hd] at hN hx hld HTJ
          clear hd
          obtain ⟨sa, na, sb, nb, si, ni, so, no, rfl⟩ := hN.forms
          have p0 := hx 0 _ rfl
          have p1 := hx 1 _ rfl
          have p2 := hx 2 _ rfl
          have p3 := hx 3 _ rfl
          have p4 := hx 4 _ rfl
          rw [← Nat.add_assoc] at p1 p2 p3 p4
          rw [Nat.add_zero] at p0
          have hb2o : b2 < wo.heap.size := Nat.lt_of_lt_of_le hb2 HB.out.size
          have E0 := Lib.hid (((bcell HB.out).1 b2 _ hb2).trans p0)
          have E1 := Lib.hid (((bcell HB.out).1 b2 _ hb2).trans p1)
          have E2 := Lib.hid (((bcell HB.out).1 b2 _ hb2).trans p2)
          have E3 := Lib.hid (((bcell HB.out).1 b2 _ hb2).trans p3)
          have E4 := Lib.hid (((bcell HB.out).1 b2 _ hb2).trans p4)
          have e0 := ((bcell hbj).1 b2 _ hb2o).trans E0.out
          have e1 := ((bcell hbj).1 b2 _ hb2o).trans E1.out
          have e2 := ((bcell hbj).1 b2 _ hb2o).trans E2.out
          have e3 := ((bcell hbj).1 b2 _ hb2o).trans E3.out
          have e4 := ((bcell hbj).1 b2 _ hb2o).trans E4.out
          have hbr2 : b2 < wr.heap.size := Nat.lt_of_lt_of_le hb2o hbj.size
          have j1 : (0 : Int) ≤ (j : Int) := by omega
          have j2 : (j : Int) < (q.stages.length : Int) := by omega
          have HND := Lib.hid (show NSp 51 39 112 wr.drew _ d from NSp.next (w := w) hN (HB.out.trans (HBW.out.drew.mono HB.out.size)))
          obtain ⟨gv, hB, ⟨vsa, hwa, hoa⟩⟩ := HPJ.out
          simp only at hB hwa hoa
          have hlk : (q.stages.take j).length = j := by rw [List.length_take]; omega
          have HLK := Lib.hid hlk
          rw [hlk] at hoa
          obtain ⟨Ga, gc, rfl, _⟩ := own_len hoa
          have g0 : wr.cell? ⟨wo.heap.size, 1, none⟩ = some (.slice Ga j gc) := hB.cell 1
          have gf0 := hB.frozen 1
          have hgl := hB.lt
          have hgl' : wo.heap.size < wr.drew.heap.size := hgl
          have HPB := Lib.hid hB
          have HWA := Lib.hid hwa
          have HOA := Lib.hid hoa
          have hne := Lib.hid (own_blk_ne hoa hB (by decide))
          have q0 : wo.heap.size ≠ w.heap.size := by omega
          have q1 : wo.heap.size ≠ b := by omega
          have q2 : wo.heap.size ≠ b2 := by omega
          have hbase := hbj.size
          clear hN hx p0 p1 p2 p3 p4 hB hwa hoa hlk hbj
          go_upto_region 9 with (fail)
          refine wp_region_noPanic ?_
          refine wp_region_last (S := (fun w' => w'.cell? ⟨w.heap.size, 0, none⟩ = some (.slice (some ⟨b, o, none⟩) l.parts.length c) ∧ w'.cell? ⟨b, o + k * 2 + 1, none⟩ = some (.slice (some ⟨b2, o2, none⟩) q.stages.length cu) ∧ w'.cell? ⟨b2, o2 + j * 5, none⟩ = some (.slice sa d.asg.length na) ∧ w'.cell? ⟨b2, o2 + j * 5 + 1, none⟩ = some (.slice sb d.words.length nb) ∧ w'.cell? ⟨b2, o2 + j * 5 + 2, none⟩ = some (.slice si d.inn.length ni) ∧ w'.cell? ⟨b2, o2 + j * 5 + 3, none⟩ = some (.slice so d.out.length no) ∧ w'.cell? ⟨b2, o2 + j * 5 + 4, none⟩ = some (.bool d.app) ∧ w'.cell? ⟨wo.heap.size, 1, none⟩ = some (.slice Ga j gc))) 15 15 rfl (by kernel_rfl) (by kernel_rfl) ?_ (fun hHeld => ?_)
          · exact ⟨x0, f1, e0, e1, e2, e3, e4, g0⟩
          refine wpAnyH_take (i := 0) (v := ?_) rfl (by kernel_rfl) (by kernel_rfl) (by kernel_rfl) (fun _ _ _ h => h) (Or.inl ⟨by rfl, ?_⟩) hHeld ?_
          rotate_left
          · (intro w hSw; (try dsimp only at hSw); go_simp; try with_reducible rfl)
          try simp only [Act.put, List.setIfInBounds_toArray, List.set_cons_zero, List.set_cons_succ]
          refine wpAnyH_take (i := 1) (v := ?_) rfl (by kernel_rfl) (by kernel_rfl) (by kernel_rfl) (fun _ _ _ h => h) (Or.inl ⟨by rfl, ?_⟩) hHeld ?_
          rotate_left
          · (intro w hSw; (try dsimp only at hSw); go_simp; try with_reducible rfl)
          try simp only [Act.put, List.setIfInBounds_toArray, List.set_cons_zero, List.set_cons_succ]
          refine wpAnyH_take (i := 2) (v := ?_) rfl (by kernel_rfl) (by kernel_rfl) (by kernel_rfl) (fun _ _ _ h => h) (Or.inl ⟨by rfl, ?_⟩) hHeld ?_
          rotate_left
          · (intro w hSw; (try dsimp only at hSw); go_simp; try with_reducible rfl)
          try simp only [Act.put, List.setIfInBounds_toArray, List.set_cons_zero, List.set_cons_succ]
          refine wpAnyH_take (i := 3) (v := ?_) rfl (by kernel_rfl) (by kernel_rfl) (by kernel_rfl) (fun _ _ _ h => h) (Or.inl ⟨by rfl, ?_⟩) hHeld ?_
          rotate_left
          · (intro w hSw; (try dsimp only at hSw); go_simp; try with_reducible rfl)
          try simp only [Act.put, List.setIfInBounds_toArray, List.set_cons_zero, List.set_cons_succ]
          refine wpAnyH_take (i := 4) (v := ?_) rfl (by kernel_rfl) (by kernel_rfl) (by kernel_rfl) (fun _ _ _ h => h) (Or.inl ⟨by rfl, ?_⟩) hHeld ?_
          rotate_left
          · (intro w hSw; (try dsimp only at hSw); go_simp; try with_reducible rfl)
          try simp only [Act.put, List.setIfInBounds_toArray, List.set_cons_zero, List.set_cons_succ]
          refine wpAnyH_take (i := 5) (v := ?_) rfl (by kernel_rfl) (by kernel_rfl) (by kernel_rfl) (fun _ _ _ h => h) (Or.inl ⟨by rfl, ?_⟩) hHeld ?_
          rotate_left
          · (intro w hSw; (try dsimp only at hSw); go_simp; try with_reducible rfl)
          try simp only [Act.put, List.setIfInBounds_toArray, List.set_cons_zero, List.set_cons_succ]
          refine wpAnyH_take (i := 6) (v := ?_) rfl (by kernel_rfl) (by kernel_rfl) (by kernel_rfl) (fun _ _ _ h => h) (Or.inl ⟨by rfl, ?_⟩) hHeld ?_
          rotate_left
          · (intro w hSw; (try dsimp only at hSw); go_simp; try with_reducible rfl)
          try simp only [Act.put, List.setIfInBounds_toArray, List.set_cons_zero, List.set_cons_succ]
          refine wpAnyH_take (i := 7) (v := ?_) rfl (by kernel_rfl) (by kernel_rfl) (by kernel_rfl) (fun _ _ _ h => h) (Or.inl ⟨by rfl, ?_⟩) hHeld ?_
          rotate_left
          · (intro w hSw; (try dsimp only at hSw); go_simp; try with_reducible rfl)
          try simp only [Act.put, List.setIfInBounds_toArray, List.set_cons_zero, List.set_cons_succ]
          refine wpAnyH_take (i := 8) (v := ?_) rfl (by kernel_rfl) (by kernel_rfl) (by kernel_rfl) (fun _ _ _ h => h) (Or.inl ⟨by rfl, ?_⟩) hHeld ?_
          rotate_left
          · (intro w hSw; (try dsimp only at hSw); go_simp; try with_reducible rfl)
          try simp only [Act.put, List.setIfInBounds_toArray, List.set_cons_zero, List.set_cons_succ]
          refine wpAnyH_take (i := 9) (v := ?_) rfl (by kernel_rfl) (by kernel_rfl) (by kernel_rfl) (fun _ _ _ h => h) (Or.inl ⟨by rfl, ?_⟩) hHeld ?_
          rotate_left
          · (intro w hSw; (try dsimp only at hSw); go_simp; try with_reducible rfl)
          try simp only [Act.put, List.setIfInBounds_toArray, List.set_cons_zero, List.set_cons_succ]
          refine wpAnyH_take (i := 10) (v := ?_) rfl (by kernel_rfl) (by kernel_rfl) (by kernel_rfl) (fun _ _ _ h => h) (Or.inl ⟨by rfl, ?_⟩) hHeld ?_
          rotate_left
          · (intro w hSw; (try dsimp only at hSw); go_simp; try with_reducible rfl)
          try simp only [Act.put, List.setIfInBounds_toArray, List.set_cons_zero, List.set_cons_succ]
          refine wpAnyH_ready (rs := [11]) (by kernel_rfl) (by simp) ?_
          refine AllReadyH.cons rfl (fun K hK => ?_) AllReadyH.nil
          go_simp
          go_at_call 58; (with_reducible refine (toSimple_any wr.drew _ _ _ _ d HND.out hld).mono ?_); rintro e w2 ⟨ra, rb, ri, ro, rfl, hn2, hbb⟩; obtain ⟨ta, ua, tb, ub, ti, ui, tq, uq, hu⟩ := NSp.forms hn2; injection hu with h1 h2 h3 h4; subst h1 h2 h3 h4; have HB2 := Lib.hid hbb; have HN2 := Lib.hid hn2; have B2 := Lib.hid (HPB.out.drew.next hbb hgl'); have z0 : w2.cell? ⟨wo.heap.size, 1, none⟩ = some (.slice Ga j gc) := B2.out.cell 1; have zf0 := B2.out.frozen 1; have hgl2 : wo.heap.size < w2.heap.size := B2.out.lt; have HBW2 := Lib.hid (HBW.out.drew.trans (hbb.mono HBW.out.size)); have hs2 : wo.heap.size ≤ w2.heap.size := HBW2.out.size; have y0 := ((bcell HBW2.out).1 _ 0 hxo).trans X0.out; have y1 := ((bcell HBW2.out).1 b _ hbo).trans F1.out; have v0 := ((bcell HBW2.out).1 b2 _ hb2o).trans E0.out; have v1 := ((bcell HBW2.out).1 b2 _ hb2o).trans E1.out; have v2 := ((bcell HBW2.out).1 b2 _ hb2o).trans E2.out; have v3 := ((bcell HBW2.out).1 b2 _ hb2o).trans E3.out; have v4 := ((bcell HBW2.out).1 b2 _ hb2o).trans E4.out; clear hn2 hbb
          try (go_wp2_with fail)
          refine hK.out _ _ ?_ (fun hNew => ?_)
          · exact ⟨y0, y1, v0, v1, v2, v3, v4, z0⟩
          clear hK K hHeld
          have hHeld := hNew
          clear hNew
          try simp only [Act.put, List.setIfInBounds_toArray, List.set_cons_zero, List.set_cons_succ]
          refine wpAnyH_ready (rs := [12]) (by kernel_rfl) (by simp) ?_
          refine AllReadyH.cons rfl (fun K hK => ?_) AllReadyH.nil
          go_simp
          refine hK.out _ _ ?_ (fun hNew => ?_)
          · go_keep
          clear hK K hHeld
          have hHeld := hNew
          clear hNew
          try simp only [Act.put, List.setIfInBounds_toArray, List.set_cons_zero, List.set_cons_succ]
          refine wpAnyH_ready (rs := [13]) (by kernel_rfl) (by simp) ?_
          refine AllReadyH.cons rfl (fun K hK => ?_) AllReadyH.nil
          refine step_append_lies _ (by rfl) _ _ _ (by rfl) wo.heap.size 46 js _ 5 104 Try.underlying47 hjs hjs0 hjs1 hjs2 rfl (by omega) (.slice Ga j gc) j (rowC smV (q.stages.take j) vsa) (by rfl) ((own_next HOA.out.drew HB2.out).alloc _) ⟨w2.heap.size, 0, none⟩ 1 1 [.slice ta d.asg.length ua, .slice tb d.words.length ub, .slice ti d.inn.length ui, .slice tq d.out.length uq, .bool d.app] (by rfl) (by rfl) (World.news_of_block (cs := #[.slice ta d.asg.length ua, .slice tb d.words.length ub, .slice ti d.inn.length ui, .slice tq d.out.length uq, .bool d.app]) (t := 46) (fr := (0, 0)) (heap_alloc_new w2 _)) (by simp [Value.oneCell']) (by omega) (by unfold maxLen; omega) (by omega) (by simp; omega) (w2.heap.size + 1) (by simp) ?_; intro gz cap w3 hown3 hgrow3 hat hlt3; have B3 := Lib.hid (Blk.grown (Blk.alloc B2.out _) hgrow3 (Ne.symm hne.out)); have d0 : w3.cell? ⟨wo.heap.size, 1, none⟩ = some (.slice Ga j gc) := B3.out.cell 1; have df0 := B3.out.frozen 1; have hgl3 : wo.heap.size < w3.heap.size := B3.out.lt; have HB3 := Lib.hid (below_own (B := wo.heap.size) (HBW2.out.alloc hs2 _) ((own_next HOA.out.drew HB2.out).alloc _) hgrow3 (Nat.le_refl _) (by simp; omega)); have y0 := ((bcell HB3.out).1 _ 0 hxo).trans X0.out; have y1 := ((bcell HB3.out).1 b _ hbo).trans F1.out; have v0 := ((bcell HB3.out).1 b2 _ hb2o).trans E0.out; have v1 := ((bcell HB3.out).1 b2 _ hb2o).trans E1.out; have v2 := ((bcell HB3.out).1 b2 _ hb2o).trans E2.out; have v3 := ((bcell HB3.out).1 b2 _ hb2o).trans E3.out; have v4 := ((bcell HB3.out).1 b2 _ hb2o).trans E4.out
          refine hK.out _ _ ?_ (fun hNew => ?_)
          · exact ⟨y0, y1, v0, v1, v2, v3, v4, d0⟩
          clear hK K hHeld
          have hHeld := hNew
          clear hNew
          try simp only [Act.put, List.setIfInBounds_toArray, List.set_cons_zero, List.set_cons_succ]
          refine wpAnyH_take (i := 14) (v := ?_) rfl (by kernel_rfl) (by kernel_rfl) (by kernel_rfl) (fun _ _ _ h => h) (Or.inl ⟨by rfl, ?_⟩) hHeld ?_
          rotate_left
          · (intro w hSw; (try dsimp only at hSw); go_simp; try with_reducible rfl)
          try simp only [Act.put, List.setIfInBounds_toArray, List.set_cons_zero, List.set_cons_succ]
          refine wpAnyH_done (by kernel_rfl) ?_ _
          refine lastQ_step rfl (fun K hK => ?_)
          clear hHeld
          go_simp
          refine hK _ _ ?_
          clear hK K
          refine NoPanic.normal ?_
          have HN3 := Lib.hid ((Below.refl w2.heap.size w2).alloc (Nat.le_refl _) (.cells #[.slice ta d.asg.length ua, .slice tb d.words.length ub, .slice ti d.inn.length ui, .slice tq d.out.length uq, .bool d.app] 46))
          have h3' : w2.ownsRow wo.heap.size 46 5 (.slice Ga j gc) (q.stages.take j).length (rowC smV (q.stages.take j) vsa) := by rw [HLK.out]; exact own_next HOA.out.drew HB2.out
          have h4' : w3.ownsRow wo.heap.size 46 5 (.slice (some ⟨gz, 0, none⟩) (j + 1) cap) ((q.stages.take j).length + 1) (rowC smV (q.stages.take j) vsa ++ smV d ⟨.slice ta d.asg.length ua, .slice tb d.words.length ub, .slice ti d.inn.length ui, .slice tq d.out.length uq⟩) := by rw [HLK.out]; exact hown3
          have HP := Lib.hid (PlB.push (q := ⟨q.wh, q.stages.take j⟩) (x := d) (by decide) (by decide) (by decide) (by decide) (by decide) (by decide) (by decide) B2.out (HWA.out.imp (fun _ _ h => NSp.next (w := wr.drew) h HB2.out)) h3' HN3.out hgrow3 h4' (NSp.next HN2.out HN3.out)).1
          have HB4 := Lib.hid (HB3.out.setCell (p := ⟨wo.heap.size, 1, none⟩) (Nat.le_refl _) (.slice (some ⟨gz, 0, none⟩) (j + 1) cap))
          clear h3' h4' hown3 hgrow3 y0 y1 v0 v1 v2 v3 v4 d0 df0 hgl3 z0 zf0 hgl2 hs2 hat hlt3 e0 e1 e2 e3 e4 x0 f1 g0 gf0 hgl hbr hbr2 hne hxr hgl'
          generalize (w3.setCell ⟨wo.heap.size, 1, none⟩ (.slice (some ⟨gz, 0, none⟩) (j + 1) cap)) = wz at *
          go_wp2
          go_roundg (gk - 1)
          case rel => exact ⟨j + 1, by go_num, by omega, by omega, HB4.out, by rw [HTJ.out]; exact HP.out⟩
          case measure => omega
        · obtain rfl : j = q.stages.length := by omega
          rw [List.take_length] at HPJ
          have HGJ := Lib.hid (HG.out.next hbj)
          have HXJ := Lib.hid (HX.out.next hbj HX.out.lt)
          have HZJ := Lib.hid (HZ.out.next hbj HZ.out.lt)
          have HBJ := Lib.hid (HB.out.trans (hbj.mono HB.out.size))
          obtain ⟨u, hB, hNq⟩ := HPJ.out.cells
          obtain ⟨Av, cv, rfl, _⟩ := RowRd.form hNq
          simp only at hB
          have HNQ := Lib.hid hNq
          obtain ⟨lv, hL, ⟨vsp, hwp, hop⟩⟩ := HGJ.out
          simp only at hL hwp hop
          have hlk : (l.parts.take k).length = k := by rw [List.length_take]; omega
          have HLK := Lib.hid hlk
          rw [hlk] at hop
          obtain ⟨Ga, gc, rfl, _⟩ := own_len hop
          have g0 : wr.cell? ⟨gg, 0, none⟩ = some (.slice Ga k gc) := hL.cell 0
          have gf0 := hL.frozen 0
          have hgl := hL.lt
          have t0 : wr.cell? ⟨wo.heap.size, 0, none⟩ = some (.int .i64 q.wh) := hB.cell 0
          have t1 : wr.cell? ⟨wo.heap.size, 1, none⟩ = some (.slice Av q.stages.length cv) := hB.cell 1
          have htl := hB.lt
          have HLB := Lib.hid hL
          have HWP := Lib.hid hwp
          have HOP := Lib.hid hop
          have hs0 : w.heap.size ≤ wr.heap.size := HBJ.out.size
          clear hbj hB hNq hL hwp hop hlk
          go_wp2_with (at_builtin; refine wpList_append_lies _ rfl _ _ _ rfl w.heap.size 49 jq _ 2 32 Try.underlying22 hjq hjq0 hjq1 hjq2 rfl (by omega) (.slice Ga k gc) k (rowC plV (l.parts.take k) vsp) rfl (HOP.out.alloc _) ⟨wr.heap.size, 0, none⟩ 1 1 [.int .i64 q.wh, .slice Av q.stages.length cv] rfl rfl (World.news_of_block (cs := #[.int .i64 q.wh, .slice Av q.stages.length cv]) (t := 49) (fr := (0, 0)) (heap_alloc_new wr _)) (by simp [Value.oneCell']) (by omega) (by unfold maxLen; omega) (by omega) (by simp; omega) (wr.heap.size + 1) (by simp) ?_; intro gz cap w3 hown3 hgrow3 hat hlt3; have B3 := Lib.hid (Blk.grown (Blk.alloc HLB.out _) hgrow3 (Ne.symm (own_blk_ne HOP.out HLB.out (by decide)))); have d0 : w3.cell? ⟨gg, 0, none⟩ = some (.slice Ga k gc) := B3.out.cell 0; have df0 := B3.out.frozen 0; have hgl3 : gg < w3.heap.size := B3.out.lt; have HB3 := Lib.hid (below_own (B := w.heap.size) (HBJ.out.alloc hs0 _) (HOP.out.alloc _) hgrow3 (Nat.le_refl _) (by simp; omega)); have HX3 := Lib.hid ((HXJ.out.alloc _).grown hgrow3 (Ne.symm (own_blk_ne HOP.out HXJ.out (by decide)))); have HZ3 := Lib.hid ((HZJ.out.alloc _).grown hgrow3 (Ne.symm (own_blk_ne HOP.out HZJ.out (by decide)))); have HOW3 := Lib.hid hown3; have HGR3 := Lib.hid hgrow3; clear hown3 hgrow3)
          have HN3 := Lib.hid ((Below.refl wr.heap.size wr).alloc (Nat.le_refl _) (.cells #[.int .i64 q.wh, .slice Av q.stages.length cv] 49))
          have h3' : wr.ownsRow w.heap.size 49 2 (.slice Ga k gc) (l.parts.take k).length (rowC plV (l.parts.take k) vsp) := by rw [HLK.out]; exact HOP.out
          have h4' : w3.ownsRow w.heap.size 49 2 (.slice (some ⟨gz, 0, none⟩) (k + 1) cap) ((l.parts.take k).length + 1) (rowC plV (l.parts.take k) vsp ++ [.int .i64 q.wh, .slice Av q.stages.length cv]) := by rw [HLK.out]; exact HOW3.out
          have HP := Lib.hid (LnB.push (l := ⟨l.parts.take k, l.bg⟩) (x := q) (by decide) (by decide) (by decide) (by decide) (by decide) (by decide) (by decide) (by decide) (by decide) HLB.out HWP.out h3' HN3.out HGR3.out h4' (NPp.next HNQ.out HN3.out)).1
          have HX4 := Lib.hid (HX3.out.far (p := ⟨gg, 0, none⟩) (show w.heap.size ≠ gg by omega) (.slice (some ⟨gz, 0, none⟩) (k + 1) cap))
          have HZ4 := Lib.hid (HZ3.out.far (p := ⟨gg, 0, none⟩) (show w.heap.size + 1 ≠ gg by omega) (.slice (some ⟨gz, 0, none⟩) (k + 1) cap))
          have HB4 := Lib.hid (HB3.out.setCell (p := ⟨gg, 0, none⟩) (show w.heap.size ≤ gg by omega) (.slice (some ⟨gz, 0, none⟩) (k + 1) cap))
          go_roundg (gk0 - 1)
          case rel => exact ⟨k + 1, by go_num, by omega, by omega, HB4.out, HX4.out, HZ4.out, by rw [HTK.out]; exact HP.out⟩
          case measure => omega
    · obtain rfl : k = l.parts.length := by omega
      rw [List.take_length] at HG
      obtain ⟨lv, hL, hrow⟩ := HG.out
      have hRD := hrow.rd
      obtain ⟨Av, cv, rfl, _⟩ := RowRd.form hRD
      simp only at hL hRD
      have HRD := Lib.hid hRD
      have x0 : wr.cell? ⟨w.heap.size, 0, none⟩ = some (.slice A l.parts.length c) := HX.out.cell 0
      have hxl := HX.out.lt
      have g0 : wr.cell? ⟨gg, 0, none⟩ = some (.slice Av l.parts.length cv) := hL.cell 0
      have g1 : wr.cell? ⟨gg, 1, none⟩ = some (.bool l.bg) := hL.cell 1
      have hgl := hL.lt
      have r0 : wr.cell? ⟨w.heap.size + 1, 0, none⟩ = some (.slice none 0 0) := HZ.out.cell 0
      have r1 : wr.cell? ⟨w.heap.size + 1, 1, none⟩ = some (.bool false) := HZ.out.cell 1
      have rf0 := HZ.out.frozen 0
      have rf1 := HZ.out.frozen 1
      have hrb := HZ.out.lt
      have G2 : wr.grownBy ((wr.setCell ⟨w.heap.size + 1, 0, none⟩ (.slice Av l.parts.length cv)).setCell ⟨w.heap.size + 1, 1, none⟩ (.bool l.bg)) (some (w.heap.size + 1)) := only_setCell (p := ⟨w.heap.size + 1, 1, none⟩) (only_setCell (p := ⟨w.heap.size + 1, 0, none⟩) (World.grownBy.refl _ _) (.inl rfl) _) (.inl rfl) _
      have K := Lib.hid (Kept.of_blk [24] HZ.out G2 rfl)
      have HGB := Lib.hid (below_of_grown' hb G2 (by omega))
      clear G2 hb hL hrow hRD
      go_wp2
      refine bodyPost_ret (v := .agg #[.slice Av l.parts.length cv, .bool l.bg]) (by simp [results, Try.results24, go_sem, hrb, r0, r1]) rfl ?_
      exact ⟨_, rfl, HRD.out.keep K.out rfl (fun _ _ h => NPp.keep h K.out rfl rfl rfl rfl), HGB.out⟩
end Go.Proofs.Ytiddchpkmcncdaa
/- Walks of layer 41: Of. -/
namespace Go.Proofs.Ytiddchpkmcncdaa
open Go.RowKit
set_option linter.unusedSimpArgs false
set_option linter.unusedVariables false

def OfP (w : World) (g : Nat) (cs zs : Array Value) (l : Ln) (gk : Nat) (v : Value) (wr : World) : Prop :=
  ∃ k, v = .int .i64 ((k : Nat) : Int) ∧ k ≤ l.parts.length ∧ gk + k = l.parts.length + 1 ∧ Below w.heap.size w wr ∧ Blk wr w.heap.size 24 cs ∧ Blk wr (w.heap.size + 1) 30 zs ∧ LnB 51 39 112 109 101 30 w.heap.size g ⟨l.parts.take k, l.bg⟩ wr
def OfS (wo : World) (q : Pl) (gk : Nat) (v : Value) (wr : World) : Prop :=
  ∃ j, v = .int .i64 ((j : Nat) : Int) ∧ j ≤ q.stages.length ∧ gk + j = q.stages.length + 1 ∧ Below wo.heap.size wo wr ∧ PlB 51 39 112 109 101 wo.heap.size wo.heap.size ⟨q.wh, q.stages.take j⟩ wr
set_option maxRecDepth 100000 in
set_option maxHeartbeats 16000000 in
theorem Of_any (w : World) (v : Value) (l : Ln) (h : RowRd 49 plV (NPp 61 42 140 46) w v l.parts) (hlim : LLen l) :
    Calls Try.prog 17 #[.agg #[v, .bool l.bg]] w fun e w' => ∃ v', e = .returned (.agg #[v', .bool l.bg]) ∧ RowRd 101 plV (NPp 51 39 112 109) w' v' l.parts ∧ Below w.heap.size w w' := by
  obtain ⟨js, hjs, hjs0, hjs1, hjs2⟩ := info_parts info109
  obtain ⟨jq, hjq, hjq0, hjq1, hjq2⟩ := info_parts info101
  obtain ⟨A, c, rfl, xa, hA2⟩ := h.all plV_len
  obtain ⟨l1, l2⟩ := hlim
  have HA := Lib.hid hA2
  have HL2 := Lib.hid l2
  clear h hA2 l2
  go_enter Try.func17, Try.ntmps17
  have HX0 := Lib.hid (((Blk.new w 24 #[.slice A l.parts.length c, .bool l.bg]).alloc (.cells #[.slice none 0 0, .bool false] 30)).alloc (.cells #[.slice none 0 0, .bool l.bg] 30))
  have HR0 := Lib.hid ((show Blk ((w.alloc (.cells #[.slice A l.parts.length c, .bool l.bg] 24)).alloc (.cells #[.slice none 0 0, .bool false] 30)) (w.heap.size + 1) 30 #[.slice none 0 0, .bool false] from by have := Blk.new (w.alloc (.cells #[.slice A l.parts.length c, .bool l.bg] 24)) 30 #[.slice none 0 0, .bool false]; simpa using this).alloc (.cells #[.slice none 0 0, .bool l.bg] 30))
  have HG0 := Lib.hid (show LnB 51 39 112 109 101 30 w.heap.size (w.heap.size + 1 + 1) ⟨[], l.bg⟩ (((w.alloc (.cells #[.slice A l.parts.length c, .bool l.bg] 24)).alloc (.cells #[.slice none 0 0, .bool false] 30)).alloc (.cells #[.slice none 0 0, .bool l.bg] 30)) from LnB.new (by have := Blk.new ((w.alloc (.cells #[.slice A l.parts.length c, .bool l.bg] 24)).alloc (.cells #[.slice none 0 0, .bool false] 30)) 30 #[.slice none 0 0, .bool l.bg]; simpa using this))
  have HB0 := Lib.hid ((((Below.refl w.heap.size w).alloc (Nat.le_refl _) (.cells #[.slice A l.parts.length c, .bool l.bg] 24)).alloc (by simp) (.cells #[.slice none 0 0, .bool false] 30)).alloc (by simp; omega) (.cells #[.slice none 0 0, .bool l.bg] 30))
  go_wp2
  generalize (((w.alloc (.cells #[.slice A l.parts.length c, .bool l.bg] 24)).alloc (.cells #[.slice none 0 0, .bool false] 30)).alloc (.cells #[.slice none 0 0, .bool l.bg] 30)) = wa at *
  obtain ⟨gg, hgg⟩ : ∃ gg, w.heap.size + 1 + 1 = gg := ⟨_, rfl⟩
  rw [hgg] at HG0
  simp only [hgg]
  have hg1 : w.heap.size + 1 < gg := by omega
  clear hgg
  go_loopg [4] (l.parts.length + 1) (fun gk v wr => OfP w gg #[.slice A l.parts.length c, .bool l.bg] #[.slice none 0 0, .bool false] l gk v wr)
  case atStart => exact ⟨0, rfl, Nat.zero_le _, by omega, HB0.out, HX0.out, HR0.out, HG0.out⟩
  case round =>
    obtain ⟨k, rfl, hk, hgk, hb, hX, hZ, hG⟩ := hrel
    have HX := Lib.hid hX
    have HZ := Lib.hid hZ
    have HG := Lib.hid hG
    have HB := Lib.hid hb
    clear hX hZ hG HX0 HR0 HG0 HB0
    by_cases hlt : k < l.parts.length
    · obtain ⟨b, o, u, rfl, hb0, hN, hx⟩ := HA.out k hlt
      have hlv := HL2.out l.parts[k] (List.getElem_mem hlt)
      have HTK := Lib.hid (take_next l.parts k hlt)
      obtain ⟨q, hq⟩ : ∃ q, l.parts[k] = q := ⟨_, rfl⟩
      rw [hq] at hN hx hlv HTK
      clear hq
      obtain ⟨wo, rfl⟩ : ∃ wo : World, wo = wr := ⟨_, rfl⟩
      obtain ⟨Au, cu, rfl, xu, hSt⟩ := RowRd.all (show RowRd 46 smV (NSp 61 42 140) w u q.stages from hN) smV_len
      have HSS := Lib.hid hSt
      have p0 := hx 0 _ rfl
      have p1 := hx 1 _ rfl
      have hbo : b < wo.heap.size := Nat.lt_of_lt_of_le hb0 hb.size
      have f0 : wo.cell? ⟨b, o + k * 2, none⟩ = some (.int .i64 q.wh) := ((bcell hb).1 b (o + k * 2) hb0).trans (by simpa using p0)
      have f1 : wo.cell? ⟨b, o + k * 2 + 1, none⟩ = some (.slice Au q.stages.length cu) := ((bcell hb).1 b (o + k * 2 + 1) hb0).trans (by rw [Nat.add_assoc]; exact p1)
      have x0 : wo.cell? ⟨w.heap.size, 0, none⟩ = some (.slice (some ⟨b, o, none⟩) l.parts.length c) := HX.out.cell 0
      have hxo : w.heap.size < wo.heap.size := HX.out.lt
      have i1 : (0 : Int) ≤ (k : Int) := by omega
      have i2 : (k : Int) < (l.parts.length : Int) := by omega
      have X0 := Lib.hid x0
      have F1 := Lib.hid f1
      have hl1 := hlv.1
      have HLS := Lib.hid hlv.2
      have HP0 := Lib.hid (show PlB 51 39 112 109 101 wo.heap.size wo.heap.size ⟨q.wh, []⟩ (wo.alloc (.cells #[.int .i64 q.wh, .slice none 0 0] 101)) from PlB.new (Blk.new wo 101 _))
      have HB1 := Lib.hid ((Below.refl wo.heap.size wo).alloc (Nat.le_refl _) (.cells #[.int .i64 q.wh, .slice none 0 0] 101))
      clear hN hx hlv p0 p1 hSt
      go_wp2
      generalize (wo.alloc (.cells #[.int .i64 q.wh, .slice none 0 0] 101)) = wb at *
      clear x0 f0 f1 i1 i2
      obtain ⟨gk0, rfl⟩ : ∃ gk0 : Nat, gk0 = gk := ⟨_, rfl⟩
      go_loopg [6] (q.stages.length + 1) (fun gk v wr => OfS wo q gk v wr)
      case atStart => exact ⟨0, rfl, Nat.zero_le _, by omega, HB1.out, HP0.out⟩
      case round =>
        obtain ⟨j, rfl, hj, hgj, hbj, hP⟩ := hrel
        have HPJ := Lib.hid hP
        have HBW := Lib.hid hbj
        clear hP HP0 HB1
        have x0 := ((bcell hbj).1 _ 0 hxo).trans X0.out
        have f1 := ((bcell hbj).1 b _ hbo).trans F1.out
        have hbr : b < wr.heap.size := Nat.lt_of_lt_of_le hbo hbj.size
        have hxr : w.heap.size < wr.heap.size := Nat.lt_of_lt_of_le hxo hbj.size
        have i1 : (0 : Int) ≤ (k : Int) := by omega
        have i2 : (k : Int) < (l.parts.length : Int) := by omega
        by_cases hjl : j < q.stages.length
        · obtain ⟨b2, o2, u4, rfl, hb2, hN, hx⟩ := HSS.out j hjl
          have hld := HLS.out q.stages[j] (List.getElem_mem hjl)
          have HTJ := Lib.hid (take_next q.stages j hjl)
          obtain ⟨d, hd⟩ : ∃ d, q.stages[j] = d := ⟨_, rfl⟩
          rw [hd] at hN hx hld HTJ
          clear hd
          obtain ⟨sa, na, sb, nb, si, ni, so, no, rfl⟩ := hN.forms
          have p0 := hx 0 _ rfl
          have p1 := hx 1 _ rfl
          have p2 := hx 2 _ rfl
          have p3 := hx 3 _ rfl
          have p4 := hx 4 _ rfl
          rw [← Nat.add_assoc] at p1 p2 p3 p4
          rw [Nat.add_zero] at p0
          have hb2o : b2 < wo.heap.size := Nat.lt_of_lt_of_le hb2 HB.out.size
          have E0 := Lib.hid (((bcell HB.out).1 b2 _ hb2).trans p0)
          have E1 := Lib.hid (((bcell HB.out).1 b2 _ hb2).trans p1)
          have E2 := Lib.hid (((bcell HB.out).1 b2 _ hb2).trans p2)
          have E3 := Lib.hid (((bcell HB.out).1 b2 _ hb2).trans p3)
          have E4 := Lib.hid (((bcell HB.out).1 b2 _ hb2).trans p4)
          have e0 := ((bcell hbj).1 b2 _ hb2o).trans E0.out
          have e1 := ((bcell hbj).1 b2 _ hb2o).trans E1.out
          have e2 := ((bcell hbj).1 b2 _ hb2o).trans E2.out
          have e3 := ((bcell hbj).1 b2 _ hb2o).trans E3.out
          have e4 := ((bcell hbj).1 b2 _ hb2o).trans E4.out
          have hbr2 : b2 < wr.heap.size := Nat.lt_of_lt_of_le hb2o hbj.size
          have j1 : (0 : Int) ≤ (j : Int) := by omega
          have j2 : (j : Int) < (q.stages.length : Int) := by omega
          have HND := Lib.hid (show NSp 61 42 140 wr.drew _ d from NSp.next (w := w) hN (HB.out.trans (HBW.out.drew.mono HB.out.size)))
          obtain ⟨gv, hB, ⟨vsa, hwa, hoa⟩⟩ := HPJ.out
          simp only at hB hwa hoa
          have hlk : (q.stages.take j).length = j := by rw [List.length_take]; omega
          have HLK := Lib.hid hlk
          rw [hlk] at hoa
          obtain ⟨Ga, gc, rfl, _⟩ := own_len hoa
          have g0 : wr.cell? ⟨wo.heap.size, 1, none⟩ = some (.slice Ga j gc) := hB.cell 1
          have gf0 := hB.frozen 1
          have hgl := hB.lt
          have hgl' : wo.heap.size < wr.drew.heap.size := hgl
          have HPB := Lib.hid hB
          have HWA := Lib.hid hwa
          have HOA := Lib.hid hoa
          have hne := Lib.hid (own_blk_ne hoa hB (by decide))
          have q0 : wo.heap.size ≠ w.heap.size := by omega
          have q1 : wo.heap.size ≠ b := by omega
          have q2 : wo.heap.size ≠ b2 := by omega
          have hbase := hbj.size
          clear hN hx p0 p1 p2 p3 p4 hB hwa hoa hlk hbj
          go_upto_region 9 with (fail)
          refine wp_region_noPanic ?_
          refine wp_region_last (S := (fun w' => w'.cell? ⟨w.heap.size, 0, none⟩ = some (.slice (some ⟨b, o, none⟩) l.parts.length c) ∧ w'.cell? ⟨b, o + k * 2 + 1, none⟩ = some (.slice (some ⟨b2, o2, none⟩) q.stages.length cu) ∧ w'.cell? ⟨b2, o2 + j * 5, none⟩ = some (.slice sa d.asg.length na) ∧ w'.cell? ⟨b2, o2 + j * 5 + 1, none⟩ = some (.slice sb d.words.length nb) ∧ w'.cell? ⟨b2, o2 + j * 5 + 2, none⟩ = some (.slice si d.inn.length ni) ∧ w'.cell? ⟨b2, o2 + j * 5 + 3, none⟩ = some (.slice so d.out.length no) ∧ w'.cell? ⟨b2, o2 + j * 5 + 4, none⟩ = some (.bool d.app) ∧ w'.cell? ⟨wo.heap.size, 1, none⟩ = some (.slice Ga j gc))) 15 15 rfl (by kernel_rfl) (by kernel_rfl) ?_ (fun hHeld => ?_)
          · exact ⟨x0, f1, e0, e1, e2, e3, e4, g0⟩
          refine wpAnyH_take (i := 0) (v := ?_) rfl (by kernel_rfl) (by kernel_rfl) (by kernel_rfl) (fun _ _ _ h => h) (Or.inl ⟨by rfl, ?_⟩) hHeld ?_
          rotate_left
          · (intro w hSw; (try dsimp only at hSw); go_simp; try with_reducible rfl)
          try simp only [Act.put, List.setIfInBounds_toArray, List.set_cons_zero, List.set_cons_succ]
          refine wpAnyH_take (i := 1) (v := ?_) rfl (by kernel_rfl) (by kernel_rfl) (by kernel_rfl) (fun _ _ _ h => h) (Or.inl ⟨by rfl, ?_⟩) hHeld ?_
          rotate_left
          · (intro w hSw; (try dsimp only at hSw); go_simp; try with_reducible rfl)
          try simp only [Act.put, List.setIfInBounds_toArray, List.set_cons_zero, List.set_cons_succ]
          refine wpAnyH_take (i := 2) (v := ?_) rfl (by kernel_rfl) (by kernel_rfl) (by kernel_rfl) (fun _ _ _ h => h) (Or.inl ⟨by rfl, ?_⟩) hHeld ?_
          rotate_left
          · (intro w hSw; (try dsimp only at hSw); go_simp; try with_reducible rfl)
          try simp only [Act.put, List.setIfInBounds_toArray, List.set_cons_zero, List.set_cons_succ]
          refine wpAnyH_take (i := 3) (v := ?_) rfl (by kernel_rfl) (by kernel_rfl) (by kernel_rfl) (fun _ _ _ h => h) (Or.inl ⟨by rfl, ?_⟩) hHeld ?_
          rotate_left
          · (intro w hSw; (try dsimp only at hSw); go_simp; try with_reducible rfl)
          try simp only [Act.put, List.setIfInBounds_toArray, List.set_cons_zero, List.set_cons_succ]
          refine wpAnyH_take (i := 4) (v := ?_) rfl (by kernel_rfl) (by kernel_rfl) (by kernel_rfl) (fun _ _ _ h => h) (Or.inl ⟨by rfl, ?_⟩) hHeld ?_
          rotate_left
          · (intro w hSw; (try dsimp only at hSw); go_simp; try with_reducible rfl)
          try simp only [Act.put, List.setIfInBounds_toArray, List.set_cons_zero, List.set_cons_succ]
          refine wpAnyH_take (i := 5) (v := ?_) rfl (by kernel_rfl) (by kernel_rfl) (by kernel_rfl) (fun _ _ _ h => h) (Or.inl ⟨by rfl, ?_⟩) hHeld ?_
          rotate_left
          · (intro w hSw; (try dsimp only at hSw); go_simp; try with_reducible rfl)
          try simp only [Act.put, List.setIfInBounds_toArray, List.set_cons_zero, List.set_cons_succ]
          refine wpAnyH_take (i := 6) (v := ?_) rfl (by kernel_rfl) (by kernel_rfl) (by kernel_rfl) (fun _ _ _ h => h) (Or.inl ⟨by rfl, ?_⟩) hHeld ?_
          rotate_left
          · (intro w hSw; (try dsimp only at hSw); go_simp; try with_reducible rfl)
          try simp only [Act.put, List.setIfInBounds_toArray, List.set_cons_zero, List.set_cons_succ]
          refine wpAnyH_take (i := 7) (v := ?_) rfl (by kernel_rfl) (by kernel_rfl) (by kernel_rfl) (fun _ _ _ h => h) (Or.inl ⟨by rfl, ?_⟩) hHeld ?_
          rotate_left
          · (intro w hSw; (try dsimp only at hSw); go_simp; try with_reducible rfl)
          try simp only [Act.put, List.setIfInBounds_toArray, List.set_cons_zero, List.set_cons_succ]
          refine wpAnyH_take (i := 8) (v := ?_) rfl (by kernel_rfl) (by kernel_rfl) (by kernel_rfl) (fun _ _ _ h => h) (Or.inl ⟨by rfl, ?_⟩) hHeld ?_
          rotate_left
          · (intro w hSw; (try dsimp only at hSw); go_simp; try with_reducible rfl)
          try simp only [Act.put, List.setIfInBounds_toArray, List.set_cons_zero, List.set_cons_succ]
          refine wpAnyH_take (i := 9) (v := ?_) rfl (by kernel_rfl) (by kernel_rfl) (by kernel_rfl) (fun _ _ _ h => h) (Or.inl ⟨by rfl, ?_⟩) hHeld ?_
          rotate_left
          · (intro w hSw; (try dsimp only at hSw); go_simp; try with_reducible rfl)
          try simp only [Act.put, List.setIfInBounds_toArray, List.set_cons_zero, List.set_cons_succ]
          refine wpAnyH_take (i := 10) (v := ?_) rfl (by kernel_rfl) (by kernel_rfl) (by kernel_rfl) (fun _ _ _ h => h) (Or.inl ⟨by rfl, ?_⟩) hHeld ?_
          rotate_left
          · (intro w hSw; (try dsimp only at hSw); go_simp; try with_reducible rfl)
          try simp only [Act.put, List.setIfInBounds_toArray, List.set_cons_zero, List.set_cons_succ]
          refine wpAnyH_ready (rs := [11]) (by kernel_rfl) (by simp) ?_
          refine AllReadyH.cons rfl (fun K hK => ?_) AllReadyH.nil
          go_simp
          go_at_call 49; (with_reducible refine (ofSimple_any wr.drew _ _ _ _ d HND.out hld).mono ?_); rintro e w2 ⟨ra, rb, ri, ro, rfl, hn2, hbb⟩; obtain ⟨ta, ua, tb, ub, ti, ui, tq, uq, hu⟩ := NSp.forms hn2; injection hu with h1 h2 h3 h4; subst h1 h2 h3 h4; have HB2 := Lib.hid hbb; have HN2 := Lib.hid hn2; have B2 := Lib.hid (HPB.out.drew.next hbb hgl'); have z0 : w2.cell? ⟨wo.heap.size, 1, none⟩ = some (.slice Ga j gc) := B2.out.cell 1; have zf0 := B2.out.frozen 1; have hgl2 : wo.heap.size < w2.heap.size := B2.out.lt; have HBW2 := Lib.hid (HBW.out.drew.trans (hbb.mono HBW.out.size)); have hs2 : wo.heap.size ≤ w2.heap.size := HBW2.out.size; have y0 := ((bcell HBW2.out).1 _ 0 hxo).trans X0.out; have y1 := ((bcell HBW2.out).1 b _ hbo).trans F1.out; have v0 := ((bcell HBW2.out).1 b2 _ hb2o).trans E0.out; have v1 := ((bcell HBW2.out).1 b2 _ hb2o).trans E1.out; have v2 := ((bcell HBW2.out).1 b2 _ hb2o).trans E2.out; have v3 := ((bcell HBW2.out).1 b2 _ hb2o).trans E3.out; have v4 := ((bcell HBW2.out).1 b2 _ hb2o).trans E4.out; clear hn2 hbb
          try (go_wp2_with fail)
          refine hK.out _ _ ?_ (fun hNew => ?_)
          · exact ⟨y0, y1, v0, v1, v2, v3, v4, z0⟩
          clear hK K hHeld
          have hHeld := hNew
          clear hNew
          try simp only [Act.put, List.setIfInBounds_toArray, List.set_cons_zero, List.set_cons_succ]
          refine wpAnyH_ready (rs := [12]) (by kernel_rfl) (by simp) ?_
          refine AllReadyH.cons rfl (fun K hK => ?_) AllReadyH.nil
          go_simp
          refine hK.out _ _ ?_ (fun hNew => ?_)
          · go_keep
          clear hK K hHeld
          have hHeld := hNew
          clear hNew
          try simp only [Act.put, List.setIfInBounds_toArray, List.set_cons_zero, List.set_cons_succ]
          refine wpAnyH_ready (rs := [13]) (by kernel_rfl) (by simp) ?_
          refine AllReadyH.cons rfl (fun K hK => ?_) AllReadyH.nil
          refine step_append_lies _ (by rfl) _ _ _ (by rfl) wo.heap.size 109 js _ 5 104 Try.underlying97 hjs hjs0 hjs1 hjs2 rfl (by omega) (.slice Ga j gc) j (rowC smV (q.stages.take j) vsa) (by rfl) ((own_next HOA.out.drew HB2.out).alloc _) ⟨w2.heap.size, 0, none⟩ 1 1 [.slice ta d.asg.length ua, .slice tb d.words.length ub, .slice ti d.inn.length ui, .slice tq d.out.length uq, .bool d.app] (by rfl) (by rfl) (World.news_of_block (cs := #[.slice ta d.asg.length ua, .slice tb d.words.length ub, .slice ti d.inn.length ui, .slice tq d.out.length uq, .bool d.app]) (t := 109) (fr := (0, 0)) (heap_alloc_new w2 _)) (by simp [Value.oneCell']) (by omega) (by unfold maxLen; omega) (by omega) (by simp; omega) (w2.heap.size + 1) (by simp) ?_; intro gz cap w3 hown3 hgrow3 hat hlt3; have B3 := Lib.hid (Blk.grown (Blk.alloc B2.out _) hgrow3 (Ne.symm hne.out)); have d0 : w3.cell? ⟨wo.heap.size, 1, none⟩ = some (.slice Ga j gc) := B3.out.cell 1; have df0 := B3.out.frozen 1; have hgl3 : wo.heap.size < w3.heap.size := B3.out.lt; have HB3 := Lib.hid (below_own (B := wo.heap.size) (HBW2.out.alloc hs2 _) ((own_next HOA.out.drew HB2.out).alloc _) hgrow3 (Nat.le_refl _) (by simp; omega)); have y0 := ((bcell HB3.out).1 _ 0 hxo).trans X0.out; have y1 := ((bcell HB3.out).1 b _ hbo).trans F1.out; have v0 := ((bcell HB3.out).1 b2 _ hb2o).trans E0.out; have v1 := ((bcell HB3.out).1 b2 _ hb2o).trans E1.out; have v2 := ((bcell HB3.out).1 b2 _ hb2o).trans E2.out; have v3 := ((bcell HB3.out).1 b2 _ hb2o).trans E3.out; have v4 := ((bcell HB3.out).1 b2 _ hb2o).trans E4.out
          refine hK.out _ _ ?_ (fun hNew => ?_)
          · exact ⟨y0, y1, v0, v1, v2, v3, v4, d0⟩
          clear hK K hHeld
          have hHeld := hNew
          clear hNew
          try simp only [Act.put, List.setIfInBounds_toArray, List.set_cons_zero, List.set_cons_succ]
          refine wpAnyH_take (i := 14) (v := ?_) rfl (by kernel_rfl) (by kernel_rfl) (by kernel_rfl) (fun _ _ _ h => h) (Or.inl ⟨by rfl, ?_⟩) hHeld ?_
          rotate_left
          · (intro w hSw; (try dsimp only at hSw); go_simp; try with_reducible rfl)
          try simp only [Act.put, List.setIfInBounds_toArray, List.set_cons_zero, List.set_cons_succ]
          refine wpAnyH_done (by kernel_rfl) ?_ _
          refine lastQ_step rfl (fun K hK => ?_)
          clear hHeld
          go_simp
          refine hK _ _ ?_
          clear hK K
          refine NoPanic.normal ?_
          have HN3 := Lib.hid ((Below.refl w2.heap.size w2).alloc (Nat.le_refl _) (.cells #[.slice ta d.asg.length ua, .slice tb d.words.length ub, .slice ti d.inn.length ui, .slice tq d.out.length uq, .bool d.app] 109))
          have h3' : w2.ownsRow wo.heap.size 109 5 (.slice Ga j gc) (q.stages.take j).length (rowC smV (q.stages.take j) vsa) := by rw [HLK.out]; exact own_next HOA.out.drew HB2.out
          have h4' : w3.ownsRow wo.heap.size 109 5 (.slice (some ⟨gz, 0, none⟩) (j + 1) cap) ((q.stages.take j).length + 1) (rowC smV (q.stages.take j) vsa ++ smV d ⟨.slice ta d.asg.length ua, .slice tb d.words.length ub, .slice ti d.inn.length ui, .slice tq d.out.length uq⟩) := by rw [HLK.out]; exact hown3
          have HP := Lib.hid (PlB.push (q := ⟨q.wh, q.stages.take j⟩) (x := d) (by decide) (by decide) (by decide) (by decide) (by decide) (by decide) (by decide) B2.out (HWA.out.imp (fun _ _ h => NSp.next (w := wr.drew) h HB2.out)) h3' HN3.out hgrow3 h4' (NSp.next HN2.out HN3.out)).1
          have HB4 := Lib.hid (HB3.out.setCell (p := ⟨wo.heap.size, 1, none⟩) (Nat.le_refl _) (.slice (some ⟨gz, 0, none⟩) (j + 1) cap))
          clear h3' h4' hown3 hgrow3 y0 y1 v0 v1 v2 v3 v4 d0 df0 hgl3 z0 zf0 hgl2 hs2 hat hlt3 e0 e1 e2 e3 e4 x0 f1 g0 gf0 hgl hbr hbr2 hne hxr hgl'
          generalize (w3.setCell ⟨wo.heap.size, 1, none⟩ (.slice (some ⟨gz, 0, none⟩) (j + 1) cap)) = wz at *
          go_wp2
          go_roundg (gk - 1)
          case rel => exact ⟨j + 1, by go_num, by omega, by omega, HB4.out, by rw [HTJ.out]; exact HP.out⟩
          case measure => omega
        · obtain rfl : j = q.stages.length := by omega
          rw [List.take_length] at HPJ
          have HGJ := Lib.hid (HG.out.next hbj)
          have HXJ := Lib.hid (HX.out.next hbj HX.out.lt)
          have HZJ := Lib.hid (HZ.out.next hbj HZ.out.lt)
          have HBJ := Lib.hid (HB.out.trans (hbj.mono HB.out.size))
          obtain ⟨u, hB, hNq⟩ := HPJ.out.cells
          obtain ⟨Av, cv, rfl, _⟩ := RowRd.form hNq
          simp only at hB
          have HNQ := Lib.hid hNq
          obtain ⟨lv, hL, ⟨vsp, hwp, hop⟩⟩ := HGJ.out
          simp only at hL hwp hop
          have hlk : (l.parts.take k).length = k := by rw [List.length_take]; omega
          have HLK := Lib.hid hlk
          rw [hlk] at hop
          obtain ⟨Ga, gc, rfl, _⟩ := own_len hop
          have g0 : wr.cell? ⟨gg, 0, none⟩ = some (.slice Ga k gc) := hL.cell 0
          have gf0 := hL.frozen 0
          have hgl := hL.lt
          have t0 : wr.cell? ⟨wo.heap.size, 0, none⟩ = some (.int .i64 q.wh) := hB.cell 0
          have t1 : wr.cell? ⟨wo.heap.size, 1, none⟩ = some (.slice Av q.stages.length cv) := hB.cell 1
          have htl := hB.lt
          have HLB := Lib.hid hL
          have HWP := Lib.hid hwp
          have HOP := Lib.hid hop
          have hs0 : w.heap.size ≤ wr.heap.size := HBJ.out.size
          clear hbj hB hNq hL hwp hop hlk
          go_wp2_with (at_builtin; refine wpList_append_lies _ rfl _ _ _ rfl w.heap.size 101 jq _ 2 32 Try.underlying28 hjq hjq0 hjq1 hjq2 rfl (by omega) (.slice Ga k gc) k (rowC plV (l.parts.take k) vsp) rfl (HOP.out.alloc _) ⟨wr.heap.size, 0, none⟩ 1 1 [.int .i64 q.wh, .slice Av q.stages.length cv] rfl rfl (World.news_of_block (cs := #[.int .i64 q.wh, .slice Av q.stages.length cv]) (t := 101) (fr := (0, 0)) (heap_alloc_new wr _)) (by simp [Value.oneCell']) (by omega) (by unfold maxLen; omega) (by omega) (by simp; omega) (wr.heap.size + 1) (by simp) ?_; intro gz cap w3 hown3 hgrow3 hat hlt3; have B3 := Lib.hid (Blk.grown (Blk.alloc HLB.out _) hgrow3 (Ne.symm (own_blk_ne HOP.out HLB.out (by decide)))); have d0 : w3.cell? ⟨gg, 0, none⟩ = some (.slice Ga k gc) := B3.out.cell 0; have df0 := B3.out.frozen 0; have hgl3 : gg < w3.heap.size := B3.out.lt; have HB3 := Lib.hid (below_own (B := w.heap.size) (HBJ.out.alloc hs0 _) (HOP.out.alloc _) hgrow3 (Nat.le_refl _) (by simp; omega)); have HX3 := Lib.hid ((HXJ.out.alloc _).grown hgrow3 (Ne.symm (own_blk_ne HOP.out HXJ.out (by decide)))); have HZ3 := Lib.hid ((HZJ.out.alloc _).grown hgrow3 (Ne.symm (own_blk_ne HOP.out HZJ.out (by decide)))); have HOW3 := Lib.hid hown3; have HGR3 := Lib.hid hgrow3; clear hown3 hgrow3)
          have HN3 := Lib.hid ((Below.refl wr.heap.size wr).alloc (Nat.le_refl _) (.cells #[.int .i64 q.wh, .slice Av q.stages.length cv] 101))
          have h3' : wr.ownsRow w.heap.size 101 2 (.slice Ga k gc) (l.parts.take k).length (rowC plV (l.parts.take k) vsp) := by rw [HLK.out]; exact HOP.out
          have h4' : w3.ownsRow w.heap.size 101 2 (.slice (some ⟨gz, 0, none⟩) (k + 1) cap) ((l.parts.take k).length + 1) (rowC plV (l.parts.take k) vsp ++ [.int .i64 q.wh, .slice Av q.stages.length cv]) := by rw [HLK.out]; exact HOW3.out
          have HP := Lib.hid (LnB.push (l := ⟨l.parts.take k, l.bg⟩) (x := q) (by decide) (by decide) (by decide) (by decide) (by decide) (by decide) (by decide) (by decide) (by decide) HLB.out HWP.out h3' HN3.out HGR3.out h4' (NPp.next HNQ.out HN3.out)).1
          have HX4 := Lib.hid (HX3.out.far (p := ⟨gg, 0, none⟩) (show w.heap.size ≠ gg by omega) (.slice (some ⟨gz, 0, none⟩) (k + 1) cap))
          have HZ4 := Lib.hid (HZ3.out.far (p := ⟨gg, 0, none⟩) (show w.heap.size + 1 ≠ gg by omega) (.slice (some ⟨gz, 0, none⟩) (k + 1) cap))
          have HB4 := Lib.hid (HB3.out.setCell (p := ⟨gg, 0, none⟩) (show w.heap.size ≤ gg by omega) (.slice (some ⟨gz, 0, none⟩) (k + 1) cap))
          go_roundg (gk0 - 1)
          case rel => exact ⟨k + 1, by go_num, by omega, by omega, HB4.out, HX4.out, HZ4.out, by rw [HTK.out]; exact HP.out⟩
          case measure => omega
    · obtain rfl : k = l.parts.length := by omega
      rw [List.take_length] at HG
      obtain ⟨lv, hL, hrow⟩ := HG.out
      have hRD := hrow.rd
      obtain ⟨Av, cv, rfl, _⟩ := RowRd.form hRD
      simp only at hL hRD
      have HRD := Lib.hid hRD
      have x0 : wr.cell? ⟨w.heap.size, 0, none⟩ = some (.slice A l.parts.length c) := HX.out.cell 0
      have hxl := HX.out.lt
      have g0 : wr.cell? ⟨gg, 0, none⟩ = some (.slice Av l.parts.length cv) := hL.cell 0
      have g1 : wr.cell? ⟨gg, 1, none⟩ = some (.bool l.bg) := hL.cell 1
      have hgl := hL.lt
      have r0 : wr.cell? ⟨w.heap.size + 1, 0, none⟩ = some (.slice none 0 0) := HZ.out.cell 0
      have r1 : wr.cell? ⟨w.heap.size + 1, 1, none⟩ = some (.bool false) := HZ.out.cell 1
      have rf0 := HZ.out.frozen 0
      have rf1 := HZ.out.frozen 1
      have hrb := HZ.out.lt
      have G2 : wr.grownBy ((wr.setCell ⟨w.heap.size + 1, 0, none⟩ (.slice Av l.parts.length cv)).setCell ⟨w.heap.size + 1, 1, none⟩ (.bool l.bg)) (some (w.heap.size + 1)) := only_setCell (p := ⟨w.heap.size + 1, 1, none⟩) (only_setCell (p := ⟨w.heap.size + 1, 0, none⟩) (World.grownBy.refl _ _) (.inl rfl) _) (.inl rfl) _
      have K := Lib.hid (Kept.of_blk [30] HZ.out G2 rfl)
      have HGB := Lib.hid (below_of_grown' hb G2 (by omega))
      clear G2 hb hL hrow hRD
      go_wp2
      refine bodyPost_ret (v := .agg #[.slice Av l.parts.length cv, .bool l.bg]) (by simp [results, Try.results17, go_sem, hrb, r0, r1]) rfl ?_
      exact ⟨_, rfl, HRD.out.keep K.out rfl (fun _ _ h => NPp.keep h K.out rfl rfl rfl rfl), HGB.out⟩
end Go.Proofs.Ytiddchpkmcncdaa
/- The law CommandCanonical, walked. -/
namespace Go.Proofs.Ytiddchpkmcncdaa
open Go.RowKit
set_option linter.unusedSimpArgs false
set_option linter.unusedVariables false
theorem toksS_err : ∀ (l : Bs) (k p : Nat) (q : Nat) (e : Int), toksS l k p = .err q e → e ≠ 0
  | [], k, p, q, e, h => by unfold toksS at h; cases h
  | b :: l, k + 1, p, q, e, h => toksS_err l k (p + 1) q e h
  | b :: l, 0, p, q, e, h => by
    have hc : ∀ (t : Tk) (r : R (List Tk)), r.cons t = .err q e → r = .err q e := fun t r h => by
      cases r with
      | ok a => cases h
      | err p' e' => exact h
    simp only [toksS] at h
    split at h
    · exact toksS_err l 0 (p + 1) q e h
    split at h
    · exact toksS_err l _ (p + 1) q e (hc _ _ h)
    · split at h
      · exact toksS_err l _ (p + 1) q e (hc _ _ h)
      · rename_i hw; cases h; exact wordS_err _ _ _ _ _ _ _ hw
theorem pipS_err (en : Nat) : ∀ (n : Nat) (ts : List Tk) (a : List Sm) (q : Nat) (e : Int), 0 < n → pipS en n ts a = .err q e → e ≠ 0
  | 0, ts, a, q, e, h0, h => by omega
  | n + 1, ts, a, q, e, _, h => by
    cases hs : simS en ts smE with
    | err p e' => rw [pip_bad en n ts a p e' hs] at h; cases h; exact simS_err en ts.length ts smE _ _ (Nat.le_refl _) hs
    | ok x =>
      obtain ⟨c, ts2⟩ := x
      by_cases hu : (hdT en ts2).op = [124]
      · obtain ⟨t, r, rfl, ht⟩ := hd_bar en ts2 [124] (by simp) hu
        cases n with
        | zero => rw [pip_full en ts a c t r hs ht] at h; cases h; decide
        | succ m =>
          rw [pip_more en (m + 1) ts a c t r hs ht (by omega)] at h
          exact pipS_err en (m + 1) r _ q e (by omega) h
      · rw [pip_end en n ts a c ts2 hs hu] at h
        cases h
theorem linS_err (en : Nat) : ∀ (n : Nat) (ts : List Tk) (wh : Int) (a : List Pl) (q : Nat) (e : Int), 0 < n → linS en n ts wh a = .err q e → e ≠ 0
  | 0, ts, wh, a, q, e, h0, h => by omega
  | n + 1, ts, wh, a, q0, e, _, h => by
    cases hp : pipS en 8 ts [] with
    | err p e' => rw [lin_bad en n ts wh a p e' hp] at h; cases h; exact pipS_err en 8 ts [] _ _ (by omega) hp
    | ok x =>
      obtain ⟨q, ts2⟩ := x
      have hsep : ∀ (t : Tk) (r : List Tk), ts2 = t :: r → isSep t.op → e ≠ 0 := by
        rintro t r rfl hs
        cases n with
        | zero => rw [lin_full en ts wh a q t r hp hs] at h; cases h; decide
        | succ m =>
          rw [lin_more en (m + 1) ts wh a q t r hp hs (by omega)] at h
          exact linS_err en (m + 1) r _ _ q0 e (by omega) h
      by_cases o1 : (hdT en ts2).op = [59]
      · obtain ⟨t, r, e1, ht⟩ := hd_bar en ts2 [59] (by simp) o1
        exact hsep t r e1 (.inl ht)
      by_cases o2 : (hdT en ts2).op = [38, 38]
      · obtain ⟨t, r, e1, ht⟩ := hd_bar en ts2 [38, 38] (by simp) o2
        exact hsep t r e1 (.inr (.inl ht))
      by_cases o3 : (hdT en ts2).op = [124, 124]
      · obtain ⟨t, r, e1, ht⟩ := hd_bar en ts2 [124, 124] (by simp) o3
        exact hsep t r e1 (.inr (.inr ht))
      by_cases o4 : (hdT en ts2).op = [38]
      · obtain ⟨t, r, rfl, ht⟩ := hd_bar en ts2 [38] (by simp) o4
        cases r with
        | nil => rw [lin_bg en n ts wh a q t hp ht] at h; cases h
        | cons u r => rw [lin_bgno en n ts wh a q t u r hp ht] at h; cases h; decide
      · rw [lin_end en n ts wh a q ts2 hp o1 o2 o3 o4] at h
        cases h
theorem parS_err (L : Bs) (q : Nat) (e : Int) (h : parS L = .err q e) : e ≠ 0 := by
  unfold parS at h
  split at h
  · cases h; decide
  split at h
  · cases h; decide
  split at h
  · rename_i ht; cases h; exact toksS_err _ _ _ _ _ ht
  · cases h
  · exact linS_err _ _ _ _ _ _ _ (by omega) h
theorem SmIn.lim {c : Sm} (h : SmIn c) : SmLim c := by
  obtain ⟨h1, h2, h3, h4, h5, h6⟩ := h
  exact ⟨by omega, by omega, fun a ha => by have := (h3 a ha).2.1; omega, fun x hx => by have := (h4 x hx).1; omega, by have := h5.1; omega, by have := h6.1; omega⟩
theorem LnIn.lim {l : Ln} (h : LnIn l) : LLen l := ⟨by have := h.1; omega, fun q hq => ⟨by have := (h.2 q hq).1; omega, fun c hc => ((h.2 q hq).2 c hc).lim⟩⟩
theorem Print_is (w : World) (v : Value) (l : Ln) (bg : Bool) (T : Bs) (e0 : Int) (h : RowRd 49 plV (NPp 61 42 140 46) w v l.parts) (hlim : LnIn l) (hb : l.bg = bg) (hp : prtS l = (T, e0)) :
    Calls Try.prog 35 #[.agg #[v, .bool bg]] w fun e w' => e = .returned (.tuple #[.string (bs T), .int .i64 e0]) ∧ Below w.heap.size w w' := by
  subst hb
  refine (Print_any w v l h hlim).mono ?_
  rintro e w' ⟨h1, h2⟩
  rw [hp] at h1
  exact ⟨h1, h2⟩
theorem Parse_is (L : Bs) (w : World) (l : Ln) (bg : Bool) (h : parS L = .ok l) (hb : l.bg = bg) (hs : L.length ≤ 100000) : Calls Try.prog 13 #[.string (bs L)] w fun r w' => ∃ v, r = .returned (.tuple #[.agg #[v, .bool bg], .int .i64 0, .int .i64 0]) ∧ RowRd 49 plV (NPp 61 42 140 46) w' v l.parts ∧ Below w.heap.size w w' := by
  subst hb
  exact Parse_ok (bs L) w l (by rw [bs_list]; exact h) (by rw [bs_size]; exact hs)
theorem Parse_err (L : Bs) (w : World) (q : Nat) (e : Int) (h : parS L = .err q e) (hs : L.length ≤ 100000) : Calls Try.prog 13 #[.string (bs L)] w fun r w' => r = .returned (.tuple #[.agg #[.slice none 0 0, .bool false], .int .i64 (q : Int), .int .i64 e]) ∧ Below w.heap.size w w' :=
  Parse_no (bs L) w q e (by rw [bs_list]; exact h) (by rw [bs_size]; exact hs)
theorem PL.next {w w' : World} {v : Value} {l : List Pl} (h : RowRd 49 plV (NPp 61 42 140 46) w v l) (hb : Below w.heap.size w w') : RowRd 49 plV (NPp 61 42 140 46) w' v l := h.next hb (fun _ _ h => NPp.next h hb)
set_option maxRecDepth 100000 in
set_option maxHeartbeats 8000000 in
theorem canon_small (s : ByteArray) (w : World) (hs : s.size ≤ maxLen) (h60 : s.size ≤ 1100) :
    Calls Try.prog 12 #[.string s] w fun e w' => e = .returned (.bool true) ∧ Below w.heap.size w w' := by
  unfold maxLen at hs
  have hm : min (s.size : Int) 1100 = s.size := by omega
  obtain ⟨L, hL⟩ : ∃ L, s = bs L := ⟨(s).data.toList, (bs_of _).symm⟩
  have hLl : L.length ≤ 1100 := by rw [← bs_size, ← hL]; exact h60
  have HL := Lib.hid hL
  clear hL
  go_enter Try.func12, Try.ntmps12
  go_wp2_with fail
  rw [HL.out]
  clear hm h60 hs HL
  cases hp : parS L with
  | err q ev =>
    have HP := Lib.hid hp
    have hne := parS_err L q ev hp
    have n1 : (ev == 0) = false := beq_false_of_ne hne
    have n2 : (ev != 0) = true := by simpa using hne
    clear hp hne
    refine (Parse_err L _ q ev HP.out (by omega)).mono ?_
    rintro e w1 ⟨rfl, hb1⟩
    have HB1 := Lib.hid (hb1.alloc hb1.size (.cells #[.slice none 0 0, .bool false] 24))
    have HX1 := Lib.hid (Blk.new w1 24 #[.slice none 0 0, .bool false])
    clear hb1
    go_wp2_with fail
    generalize (w1.alloc (.cells #[.slice none 0 0, .bool false] 24)) = wa at *
    generalize w1.heap.size = g at *
    refine (known_any _).mono ?_
    rintro e w2 ⟨rfl, hb2⟩
    have HB2 := Lib.hid (HB1.out.trans (hb2.mono HB1.out.size))
    have HX2 := Lib.hid (HX1.out.next hb2 HX1.out.lt)
    clear hb2
    go_wp2_with fail
    refine (known_any _).mono ?_
    rintro e w3 ⟨rfl, hb3⟩
    have HB3 := Lib.hid (HB2.out.trans (hb3.mono HB2.out.size))
    have HX3 := Lib.hid (HX2.out.next hb3 HX2.out.lt)
    clear hb3
    have x0 : w3.cell? ⟨g, 0, none⟩ = some (.slice none 0 0) := HX3.out.cell 0
    have x1 : w3.cell? ⟨g, 1, none⟩ = some (.bool false) := HX3.out.cell 1
    go_wp2_with fail
    refine (Equal_is _ _ _ ⟨[], false⟩ ⟨[], false⟩ true RowRd.nil RowRd.nil ⟨by simp, fun q hq => by simp at hq⟩ ⟨by simp, fun q hq => by simp at hq⟩ rfl).mono ?_
    rintro e w4 ⟨rfl, hb4⟩
    go_wp2
    go_ret
    exact ⟨rfl, HB3.out.trans (hb4.mono HB3.out.size)⟩
  | ok l =>
    have HP := Lib.hid hp
    obtain ⟨hck, hin⟩ := par_v L l hp
    have HCK := Lib.hid hck
    have HIN := Lib.hid hin
    have HEQ := Lib.hid ((eqLn_iff l l).2 rfl)
    have hprt : (prtS l = ([], 5)) ∨ (prtS l = (lnT l, 0) ∧ parS (lnT l) = .ok l ∧ (lnT l).length ≤ 1024) := by
      by_cases h : 1024 < (lnT l).length
      · exact .inl (prtS_2 hck h)
      · exact .inr ⟨prtS_3 hck h, par_print l hck (by omega), by omega⟩
    clear hp hck hin
    refine (Parse_is L _ l l.bg HP.out rfl (by omega)).mono ?_
    rintro e w1 ⟨v, rfl, hr1, hb1⟩
    obtain ⟨A, c, rfl, _⟩ := RowRd.form hr1
    have HB1 := Lib.hid (hb1.alloc hb1.size (.cells #[.slice A l.parts.length c, .bool l.bg] 24))
    have HX1 := Lib.hid (Blk.new w1 24 #[.slice A l.parts.length c, .bool l.bg])
    have HR1 := Lib.hid (PL.next hr1 ((Below.refl w1.heap.size w1).alloc (Nat.le_refl _) (.cells #[.slice A l.parts.length c, .bool l.bg] 24)))
    clear hb1 hr1
    go_wp2_with fail
    generalize (w1.alloc (.cells #[.slice A l.parts.length c, .bool l.bg] 24)) = wa at *
    generalize w1.heap.size = g at *
    refine (known_any _).mono ?_
    rintro e w2 ⟨rfl, hb2⟩
    have HB2 := Lib.hid (HB1.out.trans (hb2.mono HB1.out.size))
    have HX2 := Lib.hid (HX1.out.next hb2 HX1.out.lt)
    have HR2 := Lib.hid (PL.next HR1.out hb2)
    clear hb2 HB1 HX1 HR1
    have x0 : w2.cell? ⟨g, 0, none⟩ = some (.slice A l.parts.length c) := HX2.out.cell 0
    have x1 : w2.cell? ⟨g, 1, none⟩ = some (.bool l.bg) := HX2.out.cell 1
    rcases hprt with hpr | ⟨hpr, hpp, hlen⟩
    · have HPR := Lib.hid hpr
      clear hpr
      go_wp2_with fail
      refine (Print_is _ _ l l.bg [] 5 HR2.out HIN.out rfl HPR.out).mono ?_
      rintro e w3 ⟨rfl, hb3⟩
      have HB3 := Lib.hid (HB2.out.trans (hb3.mono HB2.out.size))
      have HX3 := Lib.hid (HX2.out.next hb3 HX2.out.lt)
      have HR3 := Lib.hid (PL.next HR2.out hb3)
      clear hb3 x0 x1 HB2 HX2 HR2
      have x0 : w3.cell? ⟨g, 0, none⟩ = some (.slice A l.parts.length c) := HX3.out.cell 0
      have x1 : w3.cell? ⟨g, 1, none⟩ = some (.bool l.bg) := HX3.out.cell 1
      go_wp2_with fail
      refine (Check_is _ _ l l.bg 0 HR3.out HIN.out rfl HCK.out).mono ?_
      rintro e w4 ⟨rfl, hb4⟩
      have HB4 := Lib.hid (HB3.out.trans (hb4.mono HB3.out.size))
      have HX4 := Lib.hid (HX3.out.next hb4 HX3.out.lt)
      have HR4 := Lib.hid (PL.next HR3.out hb4)
      clear hb4 x0 x1 HB3 HX3 HR3
      have x0 : w4.cell? ⟨g, 0, none⟩ = some (.slice A l.parts.length c) := HX4.out.cell 0
      have x1 : w4.cell? ⟨g, 1, none⟩ = some (.bool l.bg) := HX4.out.cell 1
      go_wp2_with fail
      refine (Check_is _ _ l l.bg 0 HR4.out HIN.out rfl HCK.out).mono ?_
      rintro e w5 ⟨rfl, hb5⟩
      go_wp2
      go_ret
      exact ⟨rfl, HB4.out.trans (hb5.mono HB4.out.size)⟩
    · have HPR := Lib.hid hpr
      have HPP := Lib.hid hpp
      clear hpr hpp
      obtain ⟨T, hT⟩ : ∃ T, lnT l = T := ⟨_, rfl⟩
      rw [hT] at HPR HPP hlen
      clear hT
      go_wp2_with fail
      refine (Print_is _ _ l l.bg T 0 HR2.out HIN.out rfl HPR.out).mono ?_
      rintro e w3 ⟨rfl, hb3⟩
      have HB3 := Lib.hid (HB2.out.trans (hb3.mono HB2.out.size))
      have HX3 := Lib.hid (HX2.out.next hb3 HX2.out.lt)
      have HR3 := Lib.hid (PL.next HR2.out hb3)
      clear hb3 x0 x1 HB2 HX2 HR2
      have x0 : w3.cell? ⟨g, 0, none⟩ = some (.slice A l.parts.length c) := HX3.out.cell 0
      have x1 : w3.cell? ⟨g, 1, none⟩ = some (.bool l.bg) := HX3.out.cell 1
      go_wp2_with fail
      refine (Check_is _ _ l l.bg 0 HR3.out HIN.out rfl HCK.out).mono ?_
      rintro e w4 ⟨rfl, hb4⟩
      have HB4 := Lib.hid (HB3.out.trans (hb4.mono HB3.out.size))
      have HX4 := Lib.hid (HX3.out.next hb4 HX3.out.lt)
      have HR4 := Lib.hid (PL.next HR3.out hb4)
      clear hb4 x0 x1 HB3 HX3 HR3
      go_wp2_with fail
      refine (Parse_is T _ l l.bg HPP.out rfl (by omega)).mono ?_
      rintro e w5 ⟨v5, rfl, hr5, hb5⟩
      obtain ⟨A5, c5, rfl, _⟩ := RowRd.form hr5
      have HB5 := Lib.hid ((HB4.out.trans (hb5.mono HB4.out.size)).alloc (Nat.le_trans HB4.out.size hb5.size) (.cells #[.slice A5 l.parts.length c5, .bool l.bg] 24))
      have HX5 := Lib.hid ((HX4.out.next hb5 HX4.out.lt).alloc (.cells #[.slice A5 l.parts.length c5, .bool l.bg] 24))
      have HR5 := Lib.hid (PL.next (PL.next HR4.out hb5) ((Below.refl w5.heap.size w5).alloc (Nat.le_refl _) (.cells #[.slice A5 l.parts.length c5, .bool l.bg] 24)))
      have HY5 := Lib.hid (Blk.new w5 24 #[.slice A5 l.parts.length c5, .bool l.bg])
      have HS5 := Lib.hid (PL.next hr5 ((Below.refl w5.heap.size w5).alloc (Nat.le_refl _) (.cells #[.slice A5 l.parts.length c5, .bool l.bg] 24)))
      clear hb5 hr5 HB4 HX4 HR4
      go_wp2_with fail
      generalize (w5.alloc (.cells #[.slice A5 l.parts.length c5, .bool l.bg] 24)) = wb at *
      generalize w5.heap.size = h at *
      refine (Print_is _ _ l l.bg T 0 HS5.out HIN.out rfl HPR.out).mono ?_
      rintro e w6 ⟨rfl, hb6⟩
      have HB6 := Lib.hid (HB5.out.trans (hb6.mono HB5.out.size))
      have HX6 := Lib.hid (HX5.out.next hb6 HX5.out.lt)
      have HR6 := Lib.hid (PL.next HR5.out hb6)
      have HY6 := Lib.hid (HY5.out.next hb6 HY5.out.lt)
      have HS6 := Lib.hid (PL.next HS5.out hb6)
      clear hb6 HB5 HX5 HR5 HY5 HS5
      have x0 : w6.cell? ⟨g, 0, none⟩ = some (.slice A l.parts.length c) := HX6.out.cell 0
      have x1 : w6.cell? ⟨g, 1, none⟩ = some (.bool l.bg) := HX6.out.cell 1
      have y0 : w6.cell? ⟨h, 0, none⟩ = some (.slice A5 l.parts.length c5) := HY6.out.cell 0
      have y1 : w6.cell? ⟨h, 1, none⟩ = some (.bool l.bg) := HY6.out.cell 1
      go_wp2_with fail
      refine (Equal_is _ _ _ l l true HR6.out HS6.out HIN.out.lim HIN.out.lim HEQ.out).mono ?_
      rintro e w7 ⟨rfl, hb7⟩
      go_wp2
      go_ret
      exact ⟨rfl, HB6.out.trans (hb7.mono HB6.out.size)⟩
set_option maxRecDepth 100000 in
set_option maxHeartbeats 8000000 in
theorem canon_large (s : ByteArray) (w : World) (hs : s.size ≤ maxLen) (h60 : ¬ s.size ≤ 1100) :
    Calls Try.prog 12 #[.string s] w fun e w' => e = .returned (.bool true) ∧ Below w.heap.size w w' := by
  unfold maxLen at hs
  have hm : min (s.size : Int) 1100 = 1100 := by omega
  obtain ⟨L, hL⟩ : ∃ L, s.extract 0 1100 = bs L := ⟨(s.extract 0 1100).data.toList, (bs_of _).symm⟩
  have hLl : L.length ≤ 1100 := by rw [← bs_size, ← hL]; rw [size_extract _ _ _ (by omega)]; omega
  have HL := Lib.hid hL
  clear hL
  go_enter Try.func12, Try.ntmps12
  go_wp2_with fail
  rw [HL.out]
  clear hm h60 hs HL
  cases hp : parS L with
  | err q ev =>
    have HP := Lib.hid hp
    have hne := parS_err L q ev hp
    have n1 : (ev == 0) = false := beq_false_of_ne hne
    have n2 : (ev != 0) = true := by simpa using hne
    clear hp hne
    refine (Parse_err L _ q ev HP.out (by omega)).mono ?_
    rintro e w1 ⟨rfl, hb1⟩
    have HB1 := Lib.hid (hb1.alloc hb1.size (.cells #[.slice none 0 0, .bool false] 24))
    have HX1 := Lib.hid (Blk.new w1 24 #[.slice none 0 0, .bool false])
    clear hb1
    go_wp2_with fail
    generalize (w1.alloc (.cells #[.slice none 0 0, .bool false] 24)) = wa at *
    generalize w1.heap.size = g at *
    refine (known_any _).mono ?_
    rintro e w2 ⟨rfl, hb2⟩
    have HB2 := Lib.hid (HB1.out.trans (hb2.mono HB1.out.size))
    have HX2 := Lib.hid (HX1.out.next hb2 HX1.out.lt)
    clear hb2
    go_wp2_with fail
    refine (known_any _).mono ?_
    rintro e w3 ⟨rfl, hb3⟩
    have HB3 := Lib.hid (HB2.out.trans (hb3.mono HB2.out.size))
    have HX3 := Lib.hid (HX2.out.next hb3 HX2.out.lt)
    clear hb3
    have x0 : w3.cell? ⟨g, 0, none⟩ = some (.slice none 0 0) := HX3.out.cell 0
    have x1 : w3.cell? ⟨g, 1, none⟩ = some (.bool false) := HX3.out.cell 1
    go_wp2_with fail
    refine (Equal_is _ _ _ ⟨[], false⟩ ⟨[], false⟩ true RowRd.nil RowRd.nil ⟨by simp, fun q hq => by simp at hq⟩ ⟨by simp, fun q hq => by simp at hq⟩ rfl).mono ?_
    rintro e w4 ⟨rfl, hb4⟩
    go_wp2
    go_ret
    exact ⟨rfl, HB3.out.trans (hb4.mono HB3.out.size)⟩
  | ok l =>
    have HP := Lib.hid hp
    obtain ⟨hck, hin⟩ := par_v L l hp
    have HCK := Lib.hid hck
    have HIN := Lib.hid hin
    have HEQ := Lib.hid ((eqLn_iff l l).2 rfl)
    have hprt : (prtS l = ([], 5)) ∨ (prtS l = (lnT l, 0) ∧ parS (lnT l) = .ok l ∧ (lnT l).length ≤ 1024) := by
      by_cases h : 1024 < (lnT l).length
      · exact .inl (prtS_2 hck h)
      · exact .inr ⟨prtS_3 hck h, par_print l hck (by omega), by omega⟩
    clear hp hck hin
    refine (Parse_is L _ l l.bg HP.out rfl (by omega)).mono ?_
    rintro e w1 ⟨v, rfl, hr1, hb1⟩
    obtain ⟨A, c, rfl, _⟩ := RowRd.form hr1
    have HB1 := Lib.hid (hb1.alloc hb1.size (.cells #[.slice A l.parts.length c, .bool l.bg] 24))
    have HX1 := Lib.hid (Blk.new w1 24 #[.slice A l.parts.length c, .bool l.bg])
    have HR1 := Lib.hid (PL.next hr1 ((Below.refl w1.heap.size w1).alloc (Nat.le_refl _) (.cells #[.slice A l.parts.length c, .bool l.bg] 24)))
    clear hb1 hr1
    go_wp2_with fail
    generalize (w1.alloc (.cells #[.slice A l.parts.length c, .bool l.bg] 24)) = wa at *
    generalize w1.heap.size = g at *
    refine (known_any _).mono ?_
    rintro e w2 ⟨rfl, hb2⟩
    have HB2 := Lib.hid (HB1.out.trans (hb2.mono HB1.out.size))
    have HX2 := Lib.hid (HX1.out.next hb2 HX1.out.lt)
    have HR2 := Lib.hid (PL.next HR1.out hb2)
    clear hb2 HB1 HX1 HR1
    have x0 : w2.cell? ⟨g, 0, none⟩ = some (.slice A l.parts.length c) := HX2.out.cell 0
    have x1 : w2.cell? ⟨g, 1, none⟩ = some (.bool l.bg) := HX2.out.cell 1
    rcases hprt with hpr | ⟨hpr, hpp, hlen⟩
    · have HPR := Lib.hid hpr
      clear hpr
      go_wp2_with fail
      refine (Print_is _ _ l l.bg [] 5 HR2.out HIN.out rfl HPR.out).mono ?_
      rintro e w3 ⟨rfl, hb3⟩
      have HB3 := Lib.hid (HB2.out.trans (hb3.mono HB2.out.size))
      have HX3 := Lib.hid (HX2.out.next hb3 HX2.out.lt)
      have HR3 := Lib.hid (PL.next HR2.out hb3)
      clear hb3 x0 x1 HB2 HX2 HR2
      have x0 : w3.cell? ⟨g, 0, none⟩ = some (.slice A l.parts.length c) := HX3.out.cell 0
      have x1 : w3.cell? ⟨g, 1, none⟩ = some (.bool l.bg) := HX3.out.cell 1
      go_wp2_with fail
      refine (Check_is _ _ l l.bg 0 HR3.out HIN.out rfl HCK.out).mono ?_
      rintro e w4 ⟨rfl, hb4⟩
      have HB4 := Lib.hid (HB3.out.trans (hb4.mono HB3.out.size))
      have HX4 := Lib.hid (HX3.out.next hb4 HX3.out.lt)
      have HR4 := Lib.hid (PL.next HR3.out hb4)
      clear hb4 x0 x1 HB3 HX3 HR3
      have x0 : w4.cell? ⟨g, 0, none⟩ = some (.slice A l.parts.length c) := HX4.out.cell 0
      have x1 : w4.cell? ⟨g, 1, none⟩ = some (.bool l.bg) := HX4.out.cell 1
      go_wp2_with fail
      refine (Check_is _ _ l l.bg 0 HR4.out HIN.out rfl HCK.out).mono ?_
      rintro e w5 ⟨rfl, hb5⟩
      go_wp2
      go_ret
      exact ⟨rfl, HB4.out.trans (hb5.mono HB4.out.size)⟩
    · have HPR := Lib.hid hpr
      have HPP := Lib.hid hpp
      clear hpr hpp
      obtain ⟨T, hT⟩ : ∃ T, lnT l = T := ⟨_, rfl⟩
      rw [hT] at HPR HPP hlen
      clear hT
      go_wp2_with fail
      refine (Print_is _ _ l l.bg T 0 HR2.out HIN.out rfl HPR.out).mono ?_
      rintro e w3 ⟨rfl, hb3⟩
      have HB3 := Lib.hid (HB2.out.trans (hb3.mono HB2.out.size))
      have HX3 := Lib.hid (HX2.out.next hb3 HX2.out.lt)
      have HR3 := Lib.hid (PL.next HR2.out hb3)
      clear hb3 x0 x1 HB2 HX2 HR2
      have x0 : w3.cell? ⟨g, 0, none⟩ = some (.slice A l.parts.length c) := HX3.out.cell 0
      have x1 : w3.cell? ⟨g, 1, none⟩ = some (.bool l.bg) := HX3.out.cell 1
      go_wp2_with fail
      refine (Check_is _ _ l l.bg 0 HR3.out HIN.out rfl HCK.out).mono ?_
      rintro e w4 ⟨rfl, hb4⟩
      have HB4 := Lib.hid (HB3.out.trans (hb4.mono HB3.out.size))
      have HX4 := Lib.hid (HX3.out.next hb4 HX3.out.lt)
      have HR4 := Lib.hid (PL.next HR3.out hb4)
      clear hb4 x0 x1 HB3 HX3 HR3
      go_wp2_with fail
      refine (Parse_is T _ l l.bg HPP.out rfl (by omega)).mono ?_
      rintro e w5 ⟨v5, rfl, hr5, hb5⟩
      obtain ⟨A5, c5, rfl, _⟩ := RowRd.form hr5
      have HB5 := Lib.hid ((HB4.out.trans (hb5.mono HB4.out.size)).alloc (Nat.le_trans HB4.out.size hb5.size) (.cells #[.slice A5 l.parts.length c5, .bool l.bg] 24))
      have HX5 := Lib.hid ((HX4.out.next hb5 HX4.out.lt).alloc (.cells #[.slice A5 l.parts.length c5, .bool l.bg] 24))
      have HR5 := Lib.hid (PL.next (PL.next HR4.out hb5) ((Below.refl w5.heap.size w5).alloc (Nat.le_refl _) (.cells #[.slice A5 l.parts.length c5, .bool l.bg] 24)))
      have HY5 := Lib.hid (Blk.new w5 24 #[.slice A5 l.parts.length c5, .bool l.bg])
      have HS5 := Lib.hid (PL.next hr5 ((Below.refl w5.heap.size w5).alloc (Nat.le_refl _) (.cells #[.slice A5 l.parts.length c5, .bool l.bg] 24)))
      clear hb5 hr5 HB4 HX4 HR4
      go_wp2_with fail
      generalize (w5.alloc (.cells #[.slice A5 l.parts.length c5, .bool l.bg] 24)) = wb at *
      generalize w5.heap.size = h at *
      refine (Print_is _ _ l l.bg T 0 HS5.out HIN.out rfl HPR.out).mono ?_
      rintro e w6 ⟨rfl, hb6⟩
      have HB6 := Lib.hid (HB5.out.trans (hb6.mono HB5.out.size))
      have HX6 := Lib.hid (HX5.out.next hb6 HX5.out.lt)
      have HR6 := Lib.hid (PL.next HR5.out hb6)
      have HY6 := Lib.hid (HY5.out.next hb6 HY5.out.lt)
      have HS6 := Lib.hid (PL.next HS5.out hb6)
      clear hb6 HB5 HX5 HR5 HY5 HS5
      have x0 : w6.cell? ⟨g, 0, none⟩ = some (.slice A l.parts.length c) := HX6.out.cell 0
      have x1 : w6.cell? ⟨g, 1, none⟩ = some (.bool l.bg) := HX6.out.cell 1
      have y0 : w6.cell? ⟨h, 0, none⟩ = some (.slice A5 l.parts.length c5) := HY6.out.cell 0
      have y1 : w6.cell? ⟨h, 1, none⟩ = some (.bool l.bg) := HY6.out.cell 1
      go_wp2_with fail
      refine (Equal_is _ _ _ l l true HR6.out HS6.out HIN.out.lim HIN.out.lim HEQ.out).mono ?_
      rintro e w7 ⟨rfl, hb7⟩
      go_wp2
      go_ret
      exact ⟨rfl, HB6.out.trans (hb7.mono HB6.out.size)⟩
theorem canon_walk (s : ByteArray) (w : World) (hs : s.size ≤ maxLen) :
    Calls Try.prog 12 #[.string s] w fun e w' => e = .returned (.bool true) ∧ Below w.heap.size w w' := by
  by_cases h : s.size ≤ 1100
  · exact canon_small s w hs h
  · exact canon_large s w hs h
end Go.Proofs.Ytiddchpkmcncdaa
/- The law CommandEquals, walked. -/
namespace Go.Proofs.Ytiddchpkmcncdaa
open Go.RowKit
set_option linter.unusedSimpArgs false
set_option linter.unusedVariables false
theorem cutS_in (d : Sm) : SmIn (cutS d) := by
  refine ⟨?_, ?_, ?_, ?_, cutW_tx _, cutW_tx _⟩
  · show ((d.asg.take 36).map cutA).length ≤ 1100
    rw [List.length_map, List.length_take]; omega
  · show ((d.words.take 36).map cutW).length ≤ 1100
    rw [List.length_map, List.length_take]; omega
  · intro a ha
    obtain ⟨b, _, rfl⟩ := List.mem_map.1 ha
    exact ⟨by show (b.name.take 60).length ≤ 2000; rw [List.length_take]; omega, cutW_tx _⟩
  · intro x hx
    obtain ⟨b, _, rfl⟩ := List.mem_map.1 hx
    exact cutW_tx _
theorem cutL_in (l : Ln) : LnIn (cutL l) := by
  refine ⟨by show ((l.parts.take 18).map cutQ).length ≤ 1100; rw [List.length_map, List.length_take]; omega, fun q hq => ?_⟩
  obtain ⟨p, _, rfl⟩ := List.mem_map.1 hq
  refine ⟨by show ((p.stages.take 10).map cutS).length ≤ 1100; rw [List.length_map, List.length_take]; omega, fun c hc => ?_⟩
  obtain ⟨d, _, rfl⟩ := List.mem_map.1 hc
  exact cutS_in d
theorem SmIn.lim' {c : Sm} (h : SmIn c) : SmLim c := by
  obtain ⟨h1, h2, h3, h4, h5, h6⟩ := h
  exact ⟨by omega, by omega, fun a ha => by have := (h3 a ha).2.1; omega, fun x hx => by have := (h4 x hx).1; omega, by have := h5.1; omega, by have := h6.1; omega⟩
theorem LnIn.lim' {l : Ln} (h : LnIn l) : LLen l := ⟨by have := h.1; omega, fun q hq => ⟨by have := (h.2 q hq).1; omega, fun c hc => ((h.2 q hq).2 c hc).lim'⟩⟩
theorem RL.next {w w' : World} {v : Value} {l : List Pl} (h : RowRd 101 plV (NPp 51 39 112 109) w v l) (hb : Below w.heap.size w w') : RowRd 101 plV (NPp 51 39 112 109) w' v l := h.next hb (fun _ _ h => NPp.next h hb)
theorem CL.next {w w' : World} {v : Value} {l : List Pl} (h : RowRd 49 plV (NPp 61 42 140 46) w v l) (hb : Below w.heap.size w w') : RowRd 49 plV (NPp 61 42 140 46) w' v l := h.next hb (fun _ _ h => NPp.next h hb)
theorem RL.keep {w w' : World} {v : Value} {l : List Pl} {L : List TypeId} (h : RowRd 101 plV (NPp 51 39 112 109) w v l) (k : Kept L w w') (h1 : L.contains 101 = false) (h2 : L.contains 51 = false) (h3 : L.contains 39 = false) (h4 : L.contains 112 = false) (h5 : L.contains 109 = false) : RowRd 101 plV (NPp 51 39 112 109) w' v l :=
  RowRd.keep h k h1 (fun _ _ h => NPp.keep h k h2 h3 h4 h5)
theorem RA.below {B : Nat} {w w' : World} {v : Value} {l : List Pl} (h : RowRa plV (AP B) B w v l) (hb : Below B w w') : RowRa plV (AP B) B w' v l := RowRa.below h hb (fun _ _ h => h.below hb)
theorem set2 {w : World} {g : Nat} {t : TypeId} {z0 z1 : Value} (h : Blk w g t #[z0, z1]) (a b : Value) :
    Blk ((w.setCell ⟨g, 0, none⟩ a).setCell ⟨g, 1, none⟩ b) g t #[a, b] ∧ w.grownBy ((w.setCell ⟨g, 0, none⟩ a).setCell ⟨g, 1, none⟩ b) (some g) :=
  ⟨blk_cast ((h.set_ 0 a).set_ 1 b) rfl, only_setCell (p := ⟨g, 1, none⟩) (only_setCell (p := ⟨g, 0, none⟩) (World.grownBy.refl _ _) (.inl rfl) _) (.inl rfl) _⟩
def CeS (w : World) (l m : Ln) (wx : World) : Prop :=
  ∃ va vb, Blk wx w.heap.size 30 #[va, .bool (cutL l).bg] ∧ Blk wx (w.heap.size + 1) 30 #[vb, .bool (cutL m).bg] ∧ RowRd 101 plV (NPp 51 39 112 109) wx va (cutL l).parts ∧ RowRd 101 plV (NPp 51 39 112 109) wx vb (cutL m).parts ∧ Below w.heap.size w wx
theorem ce_fin {w w2 : World} {l m : Ln} {z0 z1 z2 z3 va vb : Value} (hx : Blk w2 w.heap.size 30 #[z0, z1]) (hy : Blk w2 (w.heap.size + 1) 30 #[z2, z3]) (ha : RowRd 101 plV (NPp 51 39 112 109) w2 va (cutL l).parts) (hb : RowRd 101 plV (NPp 51 39 112 109) w2 vb (cutL m).parts) (hw : Below w.heap.size w w2) :
    CeS w l m ((((w2.setCell ⟨w.heap.size, 0, none⟩ va).setCell ⟨w.heap.size, 1, none⟩ (.bool l.bg)).setCell ⟨w.heap.size + 1, 0, none⟩ vb).setCell ⟨w.heap.size + 1, 1, none⟩ (.bool m.bg)) := by
  obtain ⟨b1, g1⟩ := set2 hx va (.bool l.bg)
  have k1 : Kept [30] w2 _ := Kept.of_blk [30] hx g1 rfl
  have hy1 := hy.grown g1 (by intro h; injection h with h; omega)
  obtain ⟨b2, g2⟩ := set2 hy1 vb (.bool m.bg)
  have k2 : Kept [30] _ _ := Kept.of_blk [30] hy1 g2 rfl
  refine ⟨va, vb, b1.grown g2 (by intro h; injection h with h; omega), b2, RL.keep (RL.keep ha k1 rfl rfl rfl rfl rfl) k2 rfl rfl rfl rfl rfl, RL.keep (RL.keep hb k1 rfl rfl rfl rfl rfl) k2 rfl rfl rfl rfl rfl, below_of_grown' (below_of_grown' hw g1 (Nat.le_refl _)) g2 (by omega)⟩
set_option maxRecDepth 100000 in
set_option maxHeartbeats 16000000 in
theorem equals_walk (w : World) (va : Value) (l : Ln) (vb : Value) (m : Ln) (ha : RowRa plV (AP w.heap.size) w.heap.size w va l.parts) (hb : RowRa plV (AP w.heap.size) w.heap.size w vb m.parts) :
    Calls Try.prog 5 #[.agg #[va, .bool l.bg], .agg #[vb, .bool m.bg]] w fun e w' => e = .returned (.bool true) ∧ Below w.heap.size w w' := by
  obtain ⟨A, ca, rfl, _, _⟩ := ha.form
  obtain ⟨B, cb, rfl, _, _⟩ := hb.form
  have HLA := Lib.hid ha
  have HMA := Lib.hid hb
  clear ha hb
  have HB0 := Lib.hid (((Below.refl w.heap.size w).alloc (Nat.le_refl _) (.cells #[.slice A l.parts.length ca, .bool l.bg] 30)).alloc (by simp) (.cells #[.slice B m.parts.length cb, .bool m.bg] 30))
  have HXA := Lib.hid ((Blk.new w 30 #[.slice A l.parts.length ca, .bool l.bg]).alloc (.cells #[.slice B m.parts.length cb, .bool m.bg] 30))
  have HYA := Lib.hid (show Blk ((w.alloc (.cells #[.slice A l.parts.length ca, .bool l.bg] 30)).alloc (.cells #[.slice B m.parts.length cb, .bool m.bg] 30)) (w.heap.size + 1) 30 #[.slice B m.parts.length cb, .bool m.bg] from by have := Blk.new (w.alloc (.cells #[.slice A l.parts.length ca, .bool l.bg] 30)) 30 #[.slice B m.parts.length cb, .bool m.bg]; simpa using this)
  go_enter Try.func5, Try.ntmps5
  go_upto_region 1 with (fail)
  generalize ((w.alloc (.cells #[.slice A l.parts.length ca, .bool l.bg] 30)).alloc (.cells #[.slice B m.parts.length cb, .bool m.bg] 30)) = wa at *
  have HU0 := Lib.hid HB0.out.drew
  have HX0 := Lib.hid HXA.out.drew
  have HY0 := Lib.hid HYA.out.drew
  have x00 := HXA.out.cell 0
  have x01 := HXA.out.cell 1
  have y00 := HYA.out.cell 0
  have y01 := HYA.out.cell 1
  simp only [List.getElem?_toArray, List.getElem?_cons_zero, List.getElem?_cons_succ] at x00 x01 y00 y01
  have xl0 := HXA.out.lt
  have yl0 := HYA.out.lt
  go_cut [6] (fun s6 wx => CeS w l m wx)
  case first =>
    go_region_with (first | (go_at_call 22; (with_reducible refine (short_any w.heap.size w1 _ m (RA.below HMA.out HU1.out) HU1.out.size).mono ?_); rintro e w2 ⟨v2, rfl, hr2, hb2⟩; obtain ⟨S2, c2, rfl, _⟩ := RowRd.form hr2; have HS2 := Lib.hid hr2; have HW2 := Lib.hid hb2; have HU2 := Lib.hid (HU1.out.trans (hb2.mono HU1.out.size)); have HX2 := Lib.hid (HX1.out.next hb2 HX1.out.lt); have HY2 := Lib.hid (HY1.out.next hb2 HY1.out.lt); have x20 := HX2.out.cell 0; have x21 := HX2.out.cell 1; have y20 := HY2.out.cell 0; have y21 := HY2.out.cell 1; have xf20 := HX2.out.frozen 0; have xf21 := HX2.out.frozen 1; have yf20 := HY2.out.frozen 0; have yf21 := HY2.out.frozen 1; have xl2 := HX2.out.lt; have yl2 := HY2.out.lt; simp only [List.getElem?_toArray, List.getElem?_cons_zero, List.getElem?_cons_succ] at x20 x21 y20 y21; clear hr2 hb2) | (go_at_call 22; (with_reducible refine (short_any w.heap.size wa.drew _ l (RA.below HLA.out HU0.out) HU0.out.size).mono ?_); rintro e w1 ⟨v1, rfl, hr1, hb1⟩; obtain ⟨S1, c1, rfl, _⟩ := RowRd.form hr1; have HS1 := Lib.hid hr1; have HW1 := Lib.hid hb1; have HU1 := Lib.hid (HU0.out.trans (hb1.mono HU0.out.size)); have HX1 := Lib.hid (HX0.out.next hb1 HX0.out.lt); have HY1 := Lib.hid (HY0.out.next hb1 HY0.out.lt); have x10 := HX1.out.cell 0; have x11 := HX1.out.cell 1; have y10 := HY1.out.cell 0; have y11 := HY1.out.cell 1; have xf10 := HX1.out.frozen 0; have xf11 := HX1.out.frozen 1; have yf10 := HY1.out.frozen 0; have yf11 := HY1.out.frozen 1; have xl1 := HX1.out.lt; have yl1 := HY1.out.lt; simp only [List.getElem?_toArray, List.getElem?_cons_zero, List.getElem?_cons_succ] at x10 x11 y10 y11; clear hr1 hb1))
    all_goals
      go_wp2_with fail
      go_meet
      case rel => exact ce_fin HX2.out HY2.out (RL.next HS1.out HW2.out) HS2.out HU2.out
  case rest =>
    obtain ⟨va, vb, hX, hY, hA, hB, hb⟩ := hcut
    have hLi := Lib.hid (cutL_in l)
    have hMi := Lib.hid (cutL_in m)
    generalize cutL l = L at *
    generalize cutL m = M at *
    obtain ⟨A, ca, rfl, _⟩ := RowRd.form hA
    obtain ⟨B, cb, rfl, _⟩ := RowRd.form hB
    have HU := Lib.hid hb
    have HX0 := Lib.hid hX.drew
    have HY0 := Lib.hid hY.drew
    have HA0 := Lib.hid (show RowRd 101 plV (NPp 51 39 112 109) wc.drew _ L.parts from RL.next hA ((Below.refl _ _).drew))
    have HB0 := Lib.hid (show RowRd 101 plV (NPp 51 39 112 109) wc.drew _ M.parts from RL.next hB ((Below.refl _ _).drew))
    have HK0 := Lib.hid (Below.refl wc.drew.heap.size wc.drew)
    have HLL := Lib.hid hLi.out.lim'
    have HML := Lib.hid hMi.out.lim'
    obtain ⟨r, hr⟩ : ∃ r, eqLn L M = r := ⟨_, rfl⟩
    have HEQ := Lib.hid hr
    have HEL := Lib.hid ((eqLn_iff L L).2 rfl)
    have hrr : (r == r) = true := by cases r <;> rfl
    have x00 : wc.cell? ⟨w.heap.size, 0, none⟩ = some (.slice A L.parts.length ca) := hX.cell 0
    have x01 : wc.cell? ⟨w.heap.size, 1, none⟩ = some (.bool L.bg) := hX.cell 1
    have y00 : wc.cell? ⟨w.heap.size + 1, 0, none⟩ = some (.slice B M.parts.length cb) := hY.cell 0
    have y01 : wc.cell? ⟨w.heap.size + 1, 1, none⟩ = some (.bool M.bg) := hY.cell 1
    have xl0 := hX.lt
    have yl0 := hY.lt
    clear hb hX hY hA hB hr HLA HMA HXA HYA
    go_upto_region 2 with (fail)
    go_region_held3 (fun w' => w'.cell? ⟨w.heap.size, 0, none⟩ = some (.slice A L.parts.length ca) ∧ w'.cell? ⟨w.heap.size, 1, none⟩ = some (.bool L.bg) ∧ w'.cell? ⟨w.heap.size + 1, 0, none⟩ = some (.slice B M.parts.length cb) ∧ w'.cell? ⟨w.heap.size + 1, 1, none⟩ = some (.bool M.bg))
      (first | (with_reducible exact ⟨z0, z1, z2, z3⟩) | go_keep)
      (first | (go_at_call 23; (with_reducible refine (Equal_is w7 _ _ L L true (CL.next HP6.out HB7.out) HP7.out HLL.out HLL.out HEL.out).mono ?_); rintro e w8 ⟨rfl, hb8⟩; have HB8 := Lib.hid hb8; have HK8 := Lib.hid (HK7.out.trans (hb8.mono HK7.out.size)); have HX8 := Lib.hid (HX0.out.next HK8.out HX0.out.lt); have HY8 := Lib.hid (HY0.out.next HK8.out HY0.out.lt); have z0 := HX8.out.cell 0; have z1 := HX8.out.cell 1; have z2 := HY8.out.cell 0; have z3 := HY8.out.cell 1; simp only [List.getElem?_toArray, List.getElem?_cons_zero, List.getElem?_cons_succ] at z0 z1 z2 z3; clear hb8) | (go_at_call 24; (with_reducible refine (To_any w6 _ L (RL.next HA0.out HK6.out) HLL.out).mono ?_); rintro e w7 ⟨t7, rfl, hq7, hb7⟩; obtain ⟨T7, d7, rfl, _⟩ := RowRd.form hq7; have HP7 := Lib.hid hq7; clear hq7; have HB7 := Lib.hid hb7; have HK7 := Lib.hid (HK6.out.trans (hb7.mono HK6.out.size)); have HX7 := Lib.hid (HX0.out.next HK7.out HX0.out.lt); have HY7 := Lib.hid (HY0.out.next HK7.out HY0.out.lt); have z0 := HX7.out.cell 0; have z1 := HX7.out.cell 1; have z2 := HY7.out.cell 0; have z3 := HY7.out.cell 1; simp only [List.getElem?_toArray, List.getElem?_cons_zero, List.getElem?_cons_succ] at z0 z1 z2 z3; clear hb7) | (go_at_call 24; (with_reducible refine (To_any w5 _ L (RL.next HA0.out HK5.out) HLL.out).mono ?_); rintro e w6 ⟨t6, rfl, hq6, hb6⟩; obtain ⟨T6, d6, rfl, _⟩ := RowRd.form hq6; have HP6 := Lib.hid hq6; clear hq6; have HB6 := Lib.hid hb6; have HK6 := Lib.hid (HK5.out.trans (hb6.mono HK5.out.size)); have HX6 := Lib.hid (HX0.out.next HK6.out HX0.out.lt); have HY6 := Lib.hid (HY0.out.next HK6.out HY0.out.lt); have z0 := HX6.out.cell 0; have z1 := HX6.out.cell 1; have z2 := HY6.out.cell 0; have z3 := HY6.out.cell 1; simp only [List.getElem?_toArray, List.getElem?_cons_zero, List.getElem?_cons_succ] at z0 z1 z2 z3; clear hb6) | (go_at_call 16; (with_reducible refine (Same_is w4 _ _ L M r (RL.next HA0.out HK4.out) (RL.next HB0.out HK4.out) HLL.out HML.out HEQ.out).mono ?_); rintro e w5 ⟨rfl, hb5⟩; have HB5 := Lib.hid hb5; have HK5 := Lib.hid (HK4.out.trans (hb5.mono HK4.out.size)); have HX5 := Lib.hid (HX0.out.next HK5.out HX0.out.lt); have HY5 := Lib.hid (HY0.out.next HK5.out HY0.out.lt); have z0 := HX5.out.cell 0; have z1 := HX5.out.cell 1; have z2 := HY5.out.cell 0; have z3 := HY5.out.cell 1; simp only [List.getElem?_toArray, List.getElem?_cons_zero, List.getElem?_cons_succ] at z0 z1 z2 z3; clear hb5) | (go_at_call 23; (with_reducible refine (Equal_is w3 _ _ L M r (CL.next HP2.out HB3.out) HP3.out HLL.out HML.out HEQ.out).mono ?_); rintro e w4 ⟨rfl, hb4⟩; have HB4 := Lib.hid hb4; have HK4 := Lib.hid (HK3.out.trans (hb4.mono HK3.out.size)); have HX4 := Lib.hid (HX0.out.next HK4.out HX0.out.lt); have HY4 := Lib.hid (HY0.out.next HK4.out HY0.out.lt); have z0 := HX4.out.cell 0; have z1 := HX4.out.cell 1; have z2 := HY4.out.cell 0; have z3 := HY4.out.cell 1; simp only [List.getElem?_toArray, List.getElem?_cons_zero, List.getElem?_cons_succ] at z0 z1 z2 z3; clear hb4) | (go_at_call 24; (with_reducible refine (To_any w2 _ M (RL.next HB0.out HK2.out) HML.out).mono ?_); rintro e w3 ⟨t3, rfl, hq3, hb3⟩; obtain ⟨T3, d3, rfl, _⟩ := RowRd.form hq3; have HP3 := Lib.hid hq3; clear hq3; have HB3 := Lib.hid hb3; have HK3 := Lib.hid (HK2.out.trans (hb3.mono HK2.out.size)); have HX3 := Lib.hid (HX0.out.next HK3.out HX0.out.lt); have HY3 := Lib.hid (HY0.out.next HK3.out HY0.out.lt); have z0 := HX3.out.cell 0; have z1 := HX3.out.cell 1; have z2 := HY3.out.cell 0; have z3 := HY3.out.cell 1; simp only [List.getElem?_toArray, List.getElem?_cons_zero, List.getElem?_cons_succ] at z0 z1 z2 z3; clear hb3) | (go_at_call 24; (with_reducible refine (To_any w1 _ L (RL.next HA0.out HK1.out) HLL.out).mono ?_); rintro e w2 ⟨t2, rfl, hq2, hb2⟩; obtain ⟨T2, d2, rfl, _⟩ := RowRd.form hq2; have HP2 := Lib.hid hq2; clear hq2; have HB2 := Lib.hid hb2; have HK2 := Lib.hid (HK1.out.trans (hb2.mono HK1.out.size)); have HX2 := Lib.hid (HX0.out.next HK2.out HX0.out.lt); have HY2 := Lib.hid (HY0.out.next HK2.out HY0.out.lt); have z0 := HX2.out.cell 0; have z1 := HX2.out.cell 1; have z2 := HY2.out.cell 0; have z3 := HY2.out.cell 1; simp only [List.getElem?_toArray, List.getElem?_cons_zero, List.getElem?_cons_succ] at z0 z1 z2 z3; clear hb2) | (go_at_call 15; (with_reducible refine (known_any wc.drew).mono ?_); rintro e w1 ⟨rfl, hb1⟩; have HB1 := Lib.hid hb1; have HK1 := Lib.hid (HK0.out.trans (hb1.mono HK0.out.size)); have HX1 := Lib.hid (HX0.out.next HK1.out HX0.out.lt); have HY1 := Lib.hid (HY0.out.next HK1.out HY0.out.lt); have z0 := HX1.out.cell 0; have z1 := HX1.out.cell 1; have z2 := HY1.out.cell 0; have z3 := HY1.out.cell 1; simp only [List.getElem?_toArray, List.getElem?_cons_zero, List.getElem?_cons_succ] at z0 z1 z2 z3; clear hb1))
    all_goals
      clear z0 z1 z2 z3
      go_wp2
      go_ret
      exact ⟨rfl, HU.out.drew.trans (HK8.out.mono HU.out.drew.size)⟩
end Go.Proofs.Ytiddchpkmcncdaa
/- The law CommandRoundTrip, walked. -/
namespace Go.Proofs.Ytiddchpkmcncdaa
open Go.RowKit
set_option linter.unusedSimpArgs false
set_option linter.unusedVariables false
theorem short_is (B : Nat) (w : World) (v : Value) (l L : Ln) (hL : cutL l = L) (h : RowRa plV (AP B) B w v l.parts) (hB : B ≤ w.heap.size) :
    Calls Try.prog 22 #[.agg #[v, .bool l.bg]] w fun e w' => ∃ v', e = .returned (.agg #[v', .bool L.bg]) ∧ RowRd 101 plV (NPp 51 39 112 109) w' v' L.parts ∧ Below w.heap.size w w' := by
  subst hL; exact short_any B w v l h hB
theorem Print_is0 (w : World) (v : Value) (l : Ln) (bg : Bool) (e0 : Int) (h : RowRd 49 plV (NPp 61 42 140 46) w v l.parts) (hlim : LnIn l) (hb : l.bg = bg) (hp : prtS l = ([], e0)) :
    Calls Try.prog 35 #[.agg #[v, .bool bg]] w fun e w' => e = .returned (.tuple #[.string ⟨#[]⟩, .int .i64 e0]) ∧ Below w.heap.size w w' := Print_is w v l bg [] e0 h hlim hb hp
theorem prtS_cases (l : Ln) : (∃ e, prtS l = ([], e) ∧ e ≠ 0) ∨ (prtS l = (lnT l, 0) ∧ parS (lnT l) = .ok l ∧ (lnT l).length ≤ 1024 ∧ lchk l = 0) := by
  by_cases h : lchk l = 0
  · by_cases h2 : 1024 < (lnT l).length
    · exact .inl ⟨5, prtS_2 h h2, by decide⟩
    · exact .inr ⟨prtS_3 h h2, par_print l h (by omega), by omega, h⟩
  · exact .inl ⟨lchk l, prtS_1 rfl h, h⟩
/-- Behind the store of the shortened command line into its box. -/
theorem box_fin {w w1 : World} {g : Nat} {z0 z1 : Value} {L : Ln} {v1 : Value} (hg : w.heap.size ≤ g) (hx : Blk w1 g 30 #[z0, z1]) (hr : RowRd 101 plV (NPp 51 39 112 109) w1 v1 L.parts) (hb : Below w.heap.size w w1) :
    Blk ((w1.setCell ⟨g, 0, none⟩ v1).setCell ⟨g, 1, none⟩ (.bool L.bg)) g 30 #[v1, .bool L.bg] ∧ RowRd 101 plV (NPp 51 39 112 109) ((w1.setCell ⟨g, 0, none⟩ v1).setCell ⟨g, 1, none⟩ (.bool L.bg)) v1 L.parts ∧ Below w.heap.size w ((w1.setCell ⟨g, 0, none⟩ v1).setCell ⟨g, 1, none⟩ (.bool L.bg)) := by
  obtain ⟨b1, g1⟩ := set2 hx v1 (.bool L.bg)
  have k1 : Kept [30] w1 _ := Kept.of_blk [30] hx g1 rfl
  exact ⟨b1, RL.keep hr k1 rfl rfl rfl rfl rfl, below_of_grown' hb g1 hg⟩
set_option maxRecDepth 100000 in
set_option maxHeartbeats 16000000 in
theorem rt_walk (w : World) (va : Value) (l : Ln) (ha : RowRa plV (AP w.heap.size) w.heap.size w va l.parts) :
    Calls Try.prog 10 #[.agg #[va, .bool l.bg]] w fun e w' => e = .returned (.bool true) ∧ Below w.heap.size w w' := by
  obtain ⟨A, ca, rfl, _, _⟩ := ha.form
  have HLA := Lib.hid ha
  clear ha
  have HBA := Lib.hid ((Below.refl w.heap.size w).alloc (Nat.le_refl _) (.cells #[.slice A l.parts.length ca, .bool l.bg] 30))
  have HXA := Lib.hid (Blk.new w 30 #[.slice A l.parts.length ca, .bool l.bg])
  obtain ⟨L, hL⟩ : ∃ L, cutL l = L := ⟨_, rfl⟩
  have HL := Lib.hid hL
  have HIN := Lib.hid (show LnIn L by rw [← hL]; exact cutL_in l)
  have HLL := Lib.hid HIN.out.lim'
  clear hL
  go_enter Try.func10, Try.ntmps10
  go_wp2_with fail
  generalize (w.alloc (.cells #[.slice A l.parts.length ca, .bool l.bg] 30)) = wa at *
  (with_reducible refine (short_is w.heap.size wa _ l L HL.out (RA.below HLA.out HBA.out) HBA.out.size).mono ?_); rintro e w1 ⟨v1, rfl, hr1, hb1⟩
  obtain ⟨A1, c1, rfl, _⟩ := RowRd.form hr1
  have HB1 := Lib.hid (HBA.out.trans (hb1.mono HBA.out.size))
  have HX1 := Lib.hid (HXA.out.next hb1 HXA.out.lt)
  have HF := Lib.hid (box_fin (Nat.le_refl _) HX1.out hr1 HB1.out)
  have x0 : w1.cell? ⟨w.heap.size, 0, none⟩ = some (.slice A l.parts.length ca) := HX1.out.cell 0
  have x1 : w1.cell? ⟨w.heap.size, 1, none⟩ = some (.bool l.bg) := HX1.out.cell 1
  have xf0 := HX1.out.frozen 0
  have xf1 := HX1.out.frozen 1
  have xl := HX1.out.lt
  clear hr1 hb1 HBA HXA HLA
  go_wp2_with fail
  generalize ((w1.setCell ⟨w.heap.size, 0, none⟩ (.slice A1 L.parts.length c1)).setCell ⟨w.heap.size, 1, none⟩ (.bool L.bg)) = w2 at *
  obtain ⟨hX2, hR2, hB2⟩ := HF.out
  have HX2 := Lib.hid hX2
  have HR2 := Lib.hid hR2
  have HB2 := Lib.hid hB2
  clear hX2 hR2 hB2 HF x0 x1 xf0 xf1 xl HX1 HB1
  (with_reducible refine (To_any w2 _ L HR2.out HLL.out).mono ?_); rintro e w3 ⟨v3, rfl, hr3, hb3⟩
  obtain ⟨A3, c3, rfl, _⟩ := RowRd.form hr3
  have HR3 := Lib.hid hr3
  have HX3 := Lib.hid (HX2.out.next hb3 HX2.out.lt)
  have HQ3 := Lib.hid (RL.next HR2.out hb3)
  have HB3 := Lib.hid (HB2.out.trans (hb3.mono HB2.out.size))
  clear hr3 hb3 HX2 HR2 HB2
  go_wp2_with fail
  rcases prtS_cases L with ⟨ev, hp, hne⟩ | ⟨hp, hpp, hlen, hck⟩
  · have HP := Lib.hid hp
    have n1 : (ev == 0) = false := beq_false_of_ne hne
    have n2 : (ev != 0) = true := by simpa using hne
    clear hp hne
    (with_reducible refine (Print_is0 w3 _ L L.bg ev HR3.out HIN.out rfl HP.out).mono ?_); rintro e w4 ⟨rfl, hb4⟩
    have HB4 := Lib.hid (HB3.out.trans (hb4.mono HB3.out.size)); clear hb4
    go_wp2_with fail
    (with_reducible refine (known_any w4).mono ?_); rintro e w5 ⟨rfl, hb5⟩
    have HB5 := Lib.hid (HB4.out.trans (hb5.mono HB4.out.size)); clear hb5
    go_wp2_with fail
    (with_reducible refine (known_any w5).mono ?_); rintro e w6 ⟨rfl, hb6⟩
    have HB6 := Lib.hid (HB5.out.trans (hb6.mono HB5.out.size)); clear hb6
    go_wp2
    go_ret
    exact ⟨rfl, HB6.out⟩
  · have HP := Lib.hid hp
    have HPP := Lib.hid hpp
    obtain ⟨T, hT⟩ : ∃ T, lnT L = T := ⟨_, rfl⟩
    rw [hT] at HP HPP hlen
    clear hp hpp hT hck
    (with_reducible refine (Print_is w3 _ L L.bg T 0 HR3.out HIN.out rfl HP.out).mono ?_); rintro e w4 ⟨rfl, hb4⟩
    have HX4 := Lib.hid (HX3.out.next hb4 HX3.out.lt); have HQ4 := Lib.hid (RL.next HQ3.out hb4); have HB4 := Lib.hid (HB3.out.trans (hb4.mono HB3.out.size)); clear hb4
    go_wp2_with fail
    (with_reducible refine (known_any w4).mono ?_); rintro e w5 ⟨rfl, hb5⟩
    have HX5 := Lib.hid (HX4.out.next hb5 HX4.out.lt); have HQ5 := Lib.hid (RL.next HQ4.out hb5); have HB5 := Lib.hid (HB4.out.trans (hb5.mono HB4.out.size)); clear hb5
    go_wp2_with fail
    (with_reducible refine (Parse_is T w5 L L.bg HPP.out rfl (by omega)).mono ?_); rintro e w6 ⟨v6, rfl, hr6, hb6⟩
    obtain ⟨A6, c6, rfl, _⟩ := RowRd.form hr6
    have HM6 := Lib.hid hr6
    have HX6 := Lib.hid (HX5.out.next hb6 HX5.out.lt); have HQ6 := Lib.hid (RL.next HQ5.out hb6); have HB6 := Lib.hid (HB5.out.trans (hb6.mono HB5.out.size)); clear hb6
    have HX7 := Lib.hid (HX6.out.alloc (.cells #[.slice A6 L.parts.length c6, .bool L.bg] 24))
    have HY7 := Lib.hid (Blk.new w6 24 #[.slice A6 L.parts.length c6, .bool L.bg])
    have HN := Lib.hid ((Below.refl w6.heap.size w6).alloc (Nat.le_refl _) (.cells #[.slice A6 L.parts.length c6, .bool L.bg] 24))
    have HQ7 := Lib.hid (RL.next HQ6.out HN.out)
    have HM7 := Lib.hid (CL.next HM6.out HN.out)
    have HB7 := Lib.hid (HB6.out.trans (HN.out.mono HB6.out.size))
    clear hr6
    go_upto_region 6 with (fail)
    generalize (w6.alloc (.cells #[.slice A6 L.parts.length c6, .bool L.bg] 24)) = w7 at *
    generalize w6.heap.size = g at *
    have x00 : w7.cell? ⟨w.heap.size, 0, none⟩ = some (.slice A1 L.parts.length c1) := HX7.out.cell 0
    have x01 : w7.cell? ⟨w.heap.size, 1, none⟩ = some (.bool L.bg) := HX7.out.cell 1
    have y00 : w7.cell? ⟨g, 0, none⟩ = some (.slice A6 L.parts.length c6) := HY7.out.cell 0
    have y01 : w7.cell? ⟨g, 1, none⟩ = some (.bool L.bg) := HY7.out.cell 1
    have HEL := Lib.hid ((eqLn_iff L L).2 rfl)
    clear HX6 HQ6 HM6 HB6 HX5 HQ5 HB5 HX4 HQ4 HB4 HX3 HQ3 HB3 HR3 HN
    go_region_held3 (fun w' => w'.cell? ⟨w.heap.size, 0, none⟩ = some (.slice A1 L.parts.length c1) ∧ w'.cell? ⟨w.heap.size, 1, none⟩ = some (.bool L.bg) ∧ w'.cell? ⟨g, 0, none⟩ = some (.slice A6 L.parts.length c6) ∧ w'.cell? ⟨g, 1, none⟩ = some (.bool L.bg))
      (first | (with_reducible exact ⟨z0, z1, z2, z3⟩) | go_keep)
      (first
        | (go_at_call 16; (with_reducible refine (Same_is w8 _ _ L L true HM8.out HQ8.out HLL.out HLL.out HEL.out).mono ?_); rintro e w9 ⟨rfl, hb9⟩; have HX9 := Lib.hid (HX8.out.next hb9 HX8.out.lt); have HY9 := Lib.hid (HY8.out.next hb9 HY8.out.lt); have HB9 := Lib.hid (HB8.out.trans (hb9.mono HB8.out.size)); have z0 := HX9.out.cell 0; have z1 := HX9.out.cell 1; have z2 := HY9.out.cell 0; have z3 := HY9.out.cell 1; simp only [List.getElem?_toArray, List.getElem?_cons_zero, List.getElem?_cons_succ] at z0 z1 z2 z3; clear hb9)
        | (go_at_call 17; (with_reducible refine (Of_any w7.drew _ L (CL.next HM7.out (Below.refl _ _).drew) HLL.out).mono ?_); rintro e w8 ⟨v8, rfl, hr8, hb8⟩; obtain ⟨A8, c8, rfl, _⟩ := RowRd.form hr8; have HM8 := Lib.hid hr8; have HX8 := Lib.hid (HX7.out.drew.next hb8 HX7.out.drew.lt); have HY8 := Lib.hid (HY7.out.drew.next hb8 HY7.out.drew.lt); have HQ8 := Lib.hid (RL.next (RL.next HQ7.out (Below.refl _ _).drew) hb8); have HB8 := Lib.hid (HB7.out.drew.trans (hb8.mono HB7.out.drew.size)); have z0 := HX8.out.cell 0; have z1 := HX8.out.cell 1; have z2 := HY8.out.cell 0; have z3 := HY8.out.cell 1; simp only [List.getElem?_toArray, List.getElem?_cons_zero, List.getElem?_cons_succ] at z0 z1 z2 z3; clear hr8 hb8))
    all_goals
      clear z0 z1 z2 z3
      go_wp2
      go_ret
      exact ⟨rfl, HB9.out⟩
end Go.Proofs.Ytiddchpkmcncdaa
