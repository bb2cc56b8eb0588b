/- Walks and plain facts, packed: Q8, W121, W91, W122, LA. -/
import Derived.Test.YtamjllakfgphnaaGreatDoorZE1
import Derived.Test.YtamjllakfgphnaaGreatDoorZE2
set_option linter.unusedSimpArgs false
set_option linter.unusedVariables false
namespace Go.Proofs.YtamjllakfgphnaaGreatDoor
theorem vers_of {n : Nm} : ∀ {i : Nat} {l : List Ac} {v : Ver}, v ∈ vers n i l → ∃ (k : Nat) (h : k < l.length) (c : Ch), c ∈ l[k].writes ∧ c.name = n ∧ v = ⟨((i + k : Nat) : Int), c.value, c.absent⟩
  | i, a :: l, v, h => by
    simp only [vers, List.mem_append, List.mem_map] at h
    rcases h with ⟨c, hc, rfl⟩ | h
    · obtain ⟨h1, h2⟩ := List.mem_filter.1 hc
      exact ⟨0, by simp, c, h1, by simpa using h2, rfl⟩
    · obtain ⟨k, hk, c, h1, h2, h3⟩ := vers_of h
      refine ⟨k + 1, by simp; omega, c, by simpa using h1, h2, ?_⟩
      rw [h3, show i + 1 + k = i + (k + 1) by omega]
end Go.Proofs.YtamjllakfgphnaaGreatDoor
namespace Go.Proofs.YtamjllakfgphnaaGreatDoor
open Go.RowKit
attribute [local go_sem ↓] Go.wp_at_zero Go.wp_at_succ
open Go.MapKept Go.ChangeMaps
def ac1 : Ac := ⟨⟨1, 0, 1, []⟩, [], []⟩
theorem rdAc_one (W : World) : RdAc (W.alloc (.cells #[.int .i64 1, .int .i64 0, .int .i64 1, .string ⟨#[]⟩, .slice none 0 0, .slice none 0 0] 77)) (.slice (some ⟨W.heap.size, 0, none⟩) 1 1) [ac1] := by
  refine ⟨[(.slice none 0 0, .slice none 0 0)], ⟨rfl, fun i x v h1 h2 => ?_⟩, Rd.of_own (own_new W 0 77 6 [.int .i64 1, .int .i64 0, .int .i64 1, .string ⟨#[]⟩, .slice none 0 0, .slice none 0 0] rfl (Nat.zero_le _))⟩
  cases i with
  | zero =>
    simp at h1 h2
    subst h1 h2
    exact ⟨RdP.nil, RdP.nil⟩
  | succ i => simp at h1
theorem ks_one : KS [ac1] := fun k hk => by simp at hk
theorem acr_one : ∀ a ∈ [ac1], AcR a := by
  intro a ha
  rw [List.mem_singleton] at ha; subst ha
  exact ⟨⟨⟨by decide, by decide⟩, by decide, .inl ⟨rfl, by decide, by decide, rfl⟩⟩, by simp [ac1], by simp [ac1], by simp [ac1], by simp [ac1]⟩
theorem ok_one : ∀ a ∈ [ac1], okAc a = true := by
  intro a ha
  rw [List.mem_singleton] at ha; subst ha
  decide +kernel
theorem ver_short {l : List Ac} (hok : ∀ a ∈ l, okAc a = true) (n : Nm) : ∀ v ∈ verL base54 l n, v.value.length ≤ 65536 := by
  intro v hv
  unfold verL at hv
  rcases List.mem_cons.1 hv with e | hv
  · rw [e]
    unfold ver0
    show ((look cmpN n base54).getD []).length ≤ 65536
    unfold base54
    simp only [look]
    repeat' split
    all_goals simp
  · obtain ⟨j, hj, c, hc, hcn, e⟩ := vers_of hv
    rw [e]
    exact (ord_ob (ok_ch (hok _ (List.getElem_mem hj))).2 c (by simpa using hc)).2
theorem tof_o {w : World} {F0 : Nat → Prop} {gx B gg : Nat} {l : List Ac} {n : Nm} (a i : Int) (hv : VAt w F0 gx base54 l) (hg : GAt w B gg [ac1]) (hn : OwnE n) (ho : VOk l) (h5 : ∀ a ∈ l, a.key.lin ∈ lin5) :
    Calls Tryz.prog 18 #[.pointer (some ⟨gx, 0, none⟩), .pointer (some ⟨gg, 0, none⟩), plV n a, .int .i64 i] w fun e w' => ∃ A1 n1 c1 A2 n2 c2 A3 n3 c3 er, e = .returned (.tuple #[.agg #[.slice A1 n1 c1, .slice A2 n2 c2, .slice A3 n3 c3], .int .i64 er]) ∧ (l.length ≠ 1 → er = 10) ∧ Below w.heap.size w w' := by
  by_cases h : l.length = 1
  · refine (tof_is (n := n) a i hv hg hn ho (by have := ho.len; omega) (by rw [h]; rfl) (fun a ha => (acr_one a ha).2.2.2.1) h5).mono ?_
    rintro e w' ⟨v1, v2, v3, er, S1, S2, S3, rfl, h1, h2, h3, hb, _⟩; obtain ⟨B1, k1, rfl, _⟩ := RdP.form h1; obtain ⟨B2, k2, rfl, _⟩ := RdP.form h2; obtain ⟨B3, k3, rfl, _⟩ := RdP.form h3
    exact ⟨_, _, _, _, _, _, _, _, _, er, rfl, fun h2 => absurd h h2, hb⟩
  · refine (tof_err n a i 10 (fun W hW => ?_) (by decide)).mono ?_
    · have := tcheck_is (hv.next hW) (hg.next hW) (by have := ho.len; omega) (by decide)
      rw [if_neg (show ¬ l.length = [ac1].length from h)] at this
      exact this
    · rintro e w' ⟨rfl, hb⟩
      exact ⟨_, _, _, _, _, _, _, _, _, 10, rfl, fun _ => rfl, hb⟩
theorem tmarks_o {w : World} {F0 : Nat → Prop} {gx B gg : Nat} {l : List Ac} (i : Int) (hv : VAt w F0 gx base54 l) (hg : GAt w B gg [ac1]) (ho : VOk l) :
    Calls Tryz.prog 25 #[.pointer (some ⟨gx, 0, none⟩), .pointer (some ⟨gg, 0, none⟩), .slice none 0 0, .int .i64 i] w fun e w' => ∃ er, e = .returned (.tuple #[.slice none 0 0, .int .i64 er]) ∧ (l.length ≠ 1 → er = 10) ∧ Below w.heap.size w w' := by
  by_cases h : l.length = 1
  · refine (tmarks_none i hv hg ho base54_v (fun n => ver_short ho.ok n) h).mono ?_
    rintro e w' ⟨er, rfl, hb⟩
    exact ⟨er, rfl, fun h2 => absurd h h2, hb⟩
  · refine (tmarks_err i 10 (fun W hW => ?_) (by decide)).mono ?_
    · have := tcheck_is (hv.next hW) (hg.next hW) (by have := ho.len; omega) (by decide)
      rw [if_neg (show ¬ l.length = [ac1].length from h)] at this
      exact this
    · rintro e w' ⟨rfl, hb⟩
      exact ⟨10, rfl, fun _ => rfl, hb⟩
end Go.Proofs.YtamjllakfgphnaaGreatDoor
namespace Go.Proofs.YtamjllakfgphnaaGreatDoor
open Go.RowKit
attribute [local go_sem ↓] Go.wp_at_zero Go.wp_at_succ
def acts3 : List A54 := [⟨0, 1, 0, 1, [97, 98], false⟩, ⟨0, 2, 0, 2, [120], false⟩, ⟨0, 1, 0, 1, [97, 99], false⟩]
theorem W54_vok (l : List A54) : VOk (W54 l) := ⟨fun a ha => ((good_W l).all a ha).2.1, fun a ha => ((good_W l).all a ha).1, by have := (good_W l).len; unfold W54; omega⟩
theorem obA_own : OwnE obA := ob54_own _ (by simp [ob54])
theorem known_a : orgR (W54 acts3).length (verL base54 (W54 acts3) obA) 0 3 = (0, 0) := by decide +kernel
theorem known_b : orgR (W54 acts3).length (verL base54 (W54 acts3) obA) 1 3 = (2, 0) := by decide +kernel
theorem acts3_at (w : World) : A54At (w.alloc (.cells (acts3.flatMap a54C).toArray 93)).heap.size (w.alloc (.cells (acts3.flatMap a54C).toArray 93)) (.slice (some ⟨w.heap.size, 0, none⟩) 3 3) acts3 := by
  refine ⟨⟨some ⟨w.heap.size, 0, none⟩, 3, rfl, Nat.le_refl _, by unfold maxLen; omega, .inr ⟨w.heap.size, 0, rfl, by simp, fun j u hu => ?_⟩⟩, fun a ha => ?_⟩
  · rw [Nat.zero_add, (Blk.new w 93 (acts3.flatMap a54C).toArray).cell j, List.getElem?_toArray]
    exact hu
  · simp only [acts3, List.mem_cons, List.not_mem_nil, or_false] at ha
    rcases ha with rfl | rfl | rfl <;> exact ⟨by decide, by decide, by decide, by decide, by decide, by decide⟩
set_option maxRecDepth 100000 in
set_option maxHeartbeats 2000000 in
theorem known54_is {w : World} (hu : UseAt w) : Calls Tryz.prog 10 #[] w fun e w' => e = .returned (.bool true) ∧ Below w.heap.size w w' := by
  have ha := (Below.refl w.heap.size w).alloc (Nat.le_refl _) (.cells #[.int .u8 0, .int .u8 1, .int .u8 0, .int .u8 1, .string (bs [97, 98]), .bool false, .int .u8 0, .int .u8 2, .int .u8 0, .int .u8 2, .string (bs [120]), .bool false, .int .u8 0, .int .u8 1, .int .u8 0, .int .u8 1, .string (bs [97, 99]), .bool false] 93); have HA := Lib.hid ha; have HAT : Hid (A54At (w.alloc (.cells #[.int .u8 0, .int .u8 1, .int .u8 0, .int .u8 1, .string (bs [97, 98]), .bool false, .int .u8 0, .int .u8 2, .int .u8 0, .int .u8 2, .string (bs [120]), .bool false, .int .u8 0, .int .u8 1, .int .u8 0, .int .u8 1, .string (bs [97, 99]), .bool false] 93)).heap.size (w.alloc (.cells #[.int .u8 0, .int .u8 1, .int .u8 0, .int .u8 1, .string (bs [97, 98]), .bool false, .int .u8 0, .int .u8 2, .int .u8 0, .int .u8 2, .string (bs [120]), .bool false, .int .u8 0, .int .u8 1, .int .u8 0, .int .u8 1, .string (bs [97, 99]), .bool false] 93)) (.slice (some ⟨w.heap.size, 0, none⟩) 3 3) acts3) := Lib.hid (acts3_at w); have HU := Lib.hid (hu.below ha); have KA := Lib.hid known_a; have KB := Lib.hid known_b; have HVO := Lib.hid (W54_vok acts3); clear ha hu
  go_enter Tryz.func10, Tryz.ntmps10
  go_wp2_with fail
  go_at_call 13; refine (build54_is HAT.out HU.out).mono ?_; rintro e w2 ⟨pb, lv, gx, gg, F, B', rfl, hst, hac, hvx, hgx, hF, hb2⟩; have hal := (Below.refl w2.heap.size w2).alloc (Nat.le_refl _) (.cells #[.pointer pb, lv, .pointer (some ⟨gx, 0, none⟩), .pointer (some ⟨gg, 0, none⟩)] 49); have zc := Blk.new w2 49 #[.pointer pb, lv, .pointer (some ⟨gx, 0, none⟩), .pointer (some ⟨gg, 0, none⟩)]; have HX := Lib.hid (hvx.next hal); have HB2 := Lib.hid (HA.out.trans (hb2.mono HA.out.size)); have HB3 := Lib.hid (HB2.out.trans (hal.mono HB2.out.size)); obtain ⟨A9, c9, rfl, hc9⟩ := RowRd.form hac; generalize W54 acts3 = L at *
  go_upto_region 4 with (fail)
  have hcb : w2.heap.size < (w2.alloc (.cells #[.pointer pb, .slice A9 L.length c9, .pointer (some ⟨gx, 0, none⟩), .pointer (some ⟨gg, 0, none⟩)] 49)).heap.size := by simp
  have h0l : 0 < ob54.length := by decide
  have x2 := zc.cell 2; simp only [qB, qC, qD] at x2; have ZC := Lib.hid zc; clear hal hb2 hst hac hvx hgx zc HAT HU; generalize w2.alloc (.cells #[.pointer pb, .slice A9 L.length c9, .pointer (some ⟨gx, 0, none⟩), .pointer (some ⟨gg, 0, none⟩)] 49) = W at *; generalize w2.heap.size = cb at *
  refine wp_region_noPanic ?_
  refine wp_region_held_drew (S := (fun (w' : World) => w'.cell? ⟨cb, 2, none⟩ = some (.pointer (some ⟨gx, 0, none⟩)))) (by kernel_rfl) ?_ (fun hHeld => ?_)
  · exact x2
  refine tk (v := ?_) 0 rfl (by kernel_rfl) (fun _ _ _ h => h) ?_ hHeld ?_; rotate_left
  · (intro w h; (try dsimp only at h); go_simp; try with_reducible rfl)
  try simp only [Act.put, pB, pC, pD]
  refine tk (v := ?_) 1 rfl (by kernel_rfl) (fun _ _ _ h => h) ?_ hHeld ?_; rotate_left
  · (intro w h; (try dsimp only at h); go_simp; try with_reducible rfl)
  try simp only [Act.put, pB, pC, pD]
  refine wpAnyH_ready (rs := [2]) (by kernel_rfl) (by simp) ?_; refine AllReadyH.cons rfl (fun K hK => ?_) AllReadyH.nil; go_simp; refine (objects_is W.drew).mono ?_; rintro e w9 ⟨go, co, rfl, how9, hb9'⟩; have hb9 := (Below.refl W.heap.size W).drew.trans hb9'; have HB9 := Lib.hid hb9; clear hb9'
  try (go_wp2_with fail)
  refine hK.out _ _ ?_ (fun hNew => ?_)
  · exact (hb9.cell (p := ⟨cb, 2, none⟩) hcb).trans x2
  clear hK K hHeld; have hHeld := hNew; clear hNew; try simp only [Act.put, pB, pC, pD]
  have yy := RdNm.piece (show RdNm w9 (.slice (some ⟨go, 0, none⟩) ob54.length co) ob54 from Rd.of_own how9) (k := 0) (by decide); obtain ⟨b9, o9, hbe9, hbr9, y0, y1, y2, y3, y4⟩ := yy
  injection hbe9 with hbe9
  injection hbe9 with e1 e2
  subst e1 e2
  simp only [Nat.zero_add, Nat.zero_mul, show ob54[0]'(by decide) = obA from rfl] at y0 y1 y2 y3 y4
  refine wpAnyH_more (S' := (fun (w' : World) => w'.cell? ⟨cb, 2, none⟩ = some (.pointer (some ⟨gx, 0, none⟩)) ∧ w'.cell? ⟨go, 0, none⟩ = some (.int .i64 obA.kind) ∧ w'.cell? ⟨go, 1, none⟩ = some (.string (bs obA.owner)) ∧ w'.cell? ⟨go, 2, none⟩ = some (.int .i64 obA.num) ∧ w'.cell? ⟨go, 3, none⟩ = some (.int .i64 obA.idx) ∧ w'.cell? ⟨go, 4, none⟩ = some (.string (bs obA.text)))) (fun _ h => h.1) ?_
  clear hHeld; have hHeld : (fun (w' : World) => w'.cell? ⟨cb, 2, none⟩ = some (.pointer (some ⟨gx, 0, none⟩)) ∧ w'.cell? ⟨go, 0, none⟩ = some (.int .i64 obA.kind) ∧ w'.cell? ⟨go, 1, none⟩ = some (.string (bs obA.owner)) ∧ w'.cell? ⟨go, 2, none⟩ = some (.int .i64 obA.num) ∧ w'.cell? ⟨go, 3, none⟩ = some (.int .i64 obA.idx) ∧ w'.cell? ⟨go, 4, none⟩ = some (.string (bs obA.text))) _ := ⟨(hb9.cell (p := ⟨cb, 2, none⟩) hcb).trans x2, y0, y1, y2, y3, y4⟩
  refine tk (v := ?_) 3 rfl (by kernel_rfl) (fun _ _ _ h => h) ?_ hHeld ?_; rotate_left
  · (intro w h; (try dsimp only at h); go_simp; try with_reducible rfl)
  try simp only [Act.put, pB, pC, pD]
  refine tk (v := ?_) 4 rfl (by kernel_rfl) (fun _ _ _ h => h) ?_ hHeld ?_; rotate_left
  · (intro w h; (try dsimp only at h); go_simp; try with_reducible rfl)
  try simp only [Act.put, pB, pC, pD]
  refine tk (v := ?_) 5 rfl (by kernel_rfl) (fun _ _ _ h => h) ?_ hHeld ?_; rotate_left
  · (intro w h; (try dsimp only at h); go_simp; try with_reducible rfl)
  try simp only [Act.put, pB, pC, pD]
  refine wpAnyH_ready (rs := [6]) (by kernel_rfl) (by simp) ?_; refine AllReadyH.cons rfl (fun K hK => ?_) AllReadyH.nil; go_simp; refine (origin_is (n := obA) 0 3 (HX.out.next HB9.out) obA_own HVO.out).mono ?_; rintro e w10 ⟨rfl, hb10⟩; rw [KA.out]; have HB10 := Lib.hid (HB9.out.trans (hb10.mono HB9.out.size))
  try (go_wp2_with fail)
  refine hK.out _ _ ?_ (fun hNew => ?_)
  · exact ⟨(HB10.out.cell (p := ⟨cb, 2, none⟩) hcb).trans x2, (hb10.cell (p := ⟨go, 0, none⟩) hbr9).trans y0, (hb10.cell (p := ⟨go, 1, none⟩) hbr9).trans y1, (hb10.cell (p := ⟨go, 2, none⟩) hbr9).trans y2, (hb10.cell (p := ⟨go, 3, none⟩) hbr9).trans y3, (hb10.cell (p := ⟨go, 4, none⟩) hbr9).trans y4⟩
  clear hK K hHeld; have hHeld := hNew; clear hNew; try simp only [Act.put, pB, pC, pD]
  refine tk (v := ?_) 7 rfl (by kernel_rfl) (fun _ _ _ h => h) ?_ hHeld ?_; rotate_left
  · (intro w h; (try dsimp only at h); go_simp; try with_reducible rfl)
  try simp only [Act.put, pB, pC, pD]
  refine tk (v := ?_) 8 rfl (by kernel_rfl) (fun _ _ _ h => h) ?_ hHeld ?_; rotate_left
  · (intro w h; (try dsimp only at h); go_simp; try with_reducible rfl)
  try simp only [Act.put, pB, pC, pD]
  refine tk (v := ?_) 9 rfl (by kernel_rfl) (fun _ _ _ h => h) ?_ hHeld ?_; rotate_left
  · (intro w h; (try dsimp only at h); go_simp; try with_reducible rfl)
  try simp only [Act.put, pB, pC, pD]
  refine tk (v := ?_) 10 rfl (by kernel_rfl) (fun _ _ _ h => h) ?_ hHeld ?_; rotate_left
  · (intro w h; (try dsimp only at h); go_simp; try with_reducible rfl)
  try simp only [Act.put, pB, pC, pD]
  refine tk (v := ?_) 11 rfl (by kernel_rfl) (fun _ _ _ h => h) ?_ hHeld ?_; rotate_left
  · (intro w h; (try dsimp only at h); go_simp; try with_reducible rfl)
  try simp only [Act.put, pB, pC, pD]
  refine wpAnyH_done (by kernel_rfl) ?_ _; clear hHeld
  try simp only [List.getElem_toArray, List.getElem_cons_zero, List.getElem_cons_succ, Act.put, pB, pC, pD]
  refine NoPanic.normal ?_
  clear y0 y1 y2 y3 y4 how9 hb9 hb10; have HB5 := Lib.hid HB10.out; replace x2 := (HB5.out.cell (p := ⟨cb, 2, none⟩) hcb).trans x2; replace hcb := Nat.lt_of_lt_of_le hcb HB5.out.size; replace HX := Lib.hid (HX.out.next HB5.out); have HBB := Lib.hid (HB3.out.trans (HB5.out.mono HB3.out.size)); clear HB3 HB9 HB10 HB2; generalize w10 = W at *
  go_upto_region 5 with (fail)
  refine wp_region_noPanic ?_
  refine wp_region_held_drew (S := (fun (w' : World) => w'.cell? ⟨cb, 2, none⟩ = some (.pointer (some ⟨gx, 0, none⟩)))) (by kernel_rfl) ?_ (fun hHeld => ?_)
  · exact x2
  refine tk (v := ?_) 0 rfl (by kernel_rfl) (fun _ _ _ h => h) ?_ hHeld ?_; rotate_left
  · (intro w h; (try dsimp only at h); go_simp; try with_reducible rfl)
  try simp only [Act.put, pB, pC, pD]
  refine tk (v := ?_) 1 rfl (by kernel_rfl) (fun _ _ _ h => h) ?_ hHeld ?_; rotate_left
  · (intro w h; (try dsimp only at h); go_simp; try with_reducible rfl)
  try simp only [Act.put, pB, pC, pD]
  refine wpAnyH_ready (rs := [2]) (by kernel_rfl) (by simp) ?_; refine AllReadyH.cons rfl (fun K hK => ?_) AllReadyH.nil; go_simp; refine (objects_is W.drew).mono ?_; rintro e w9 ⟨go, co, rfl, how9, hb9'⟩; have hb9 := (Below.refl W.heap.size W).drew.trans hb9'; have HB9 := Lib.hid hb9; clear hb9'
  try (go_wp2_with fail)
  refine hK.out _ _ ?_ (fun hNew => ?_)
  · exact (hb9.cell (p := ⟨cb, 2, none⟩) hcb).trans x2
  clear hK K hHeld; have hHeld := hNew; clear hNew; try simp only [Act.put, pB, pC, pD]
  have yy := RdNm.piece (show RdNm w9 (.slice (some ⟨go, 0, none⟩) ob54.length co) ob54 from Rd.of_own how9) (k := 0) (by decide); obtain ⟨b9, o9, hbe9, hbr9, y0, y1, y2, y3, y4⟩ := yy
  injection hbe9 with hbe9
  injection hbe9 with e1 e2
  subst e1 e2
  simp only [Nat.zero_add, Nat.zero_mul, show ob54[0]'(by decide) = obA from rfl] at y0 y1 y2 y3 y4
  refine wpAnyH_more (S' := (fun (w' : World) => w'.cell? ⟨cb, 2, none⟩ = some (.pointer (some ⟨gx, 0, none⟩)) ∧ w'.cell? ⟨go, 0, none⟩ = some (.int .i64 obA.kind) ∧ w'.cell? ⟨go, 1, none⟩ = some (.string (bs obA.owner)) ∧ w'.cell? ⟨go, 2, none⟩ = some (.int .i64 obA.num) ∧ w'.cell? ⟨go, 3, none⟩ = some (.int .i64 obA.idx) ∧ w'.cell? ⟨go, 4, none⟩ = some (.string (bs obA.text)))) (fun _ h => h.1) ?_
  clear hHeld; have hHeld : (fun (w' : World) => w'.cell? ⟨cb, 2, none⟩ = some (.pointer (some ⟨gx, 0, none⟩)) ∧ w'.cell? ⟨go, 0, none⟩ = some (.int .i64 obA.kind) ∧ w'.cell? ⟨go, 1, none⟩ = some (.string (bs obA.owner)) ∧ w'.cell? ⟨go, 2, none⟩ = some (.int .i64 obA.num) ∧ w'.cell? ⟨go, 3, none⟩ = some (.int .i64 obA.idx) ∧ w'.cell? ⟨go, 4, none⟩ = some (.string (bs obA.text))) _ := ⟨(hb9.cell (p := ⟨cb, 2, none⟩) hcb).trans x2, y0, y1, y2, y3, y4⟩
  refine tk (v := ?_) 3 rfl (by kernel_rfl) (fun _ _ _ h => h) ?_ hHeld ?_; rotate_left
  · (intro w h; (try dsimp only at h); go_simp; try with_reducible rfl)
  try simp only [Act.put, pB, pC, pD]
  refine tk (v := ?_) 4 rfl (by kernel_rfl) (fun _ _ _ h => h) ?_ hHeld ?_; rotate_left
  · (intro w h; (try dsimp only at h); go_simp; try with_reducible rfl)
  try simp only [Act.put, pB, pC, pD]
  refine tk (v := ?_) 5 rfl (by kernel_rfl) (fun _ _ _ h => h) ?_ hHeld ?_; rotate_left
  · (intro w h; (try dsimp only at h); go_simp; try with_reducible rfl)
  try simp only [Act.put, pB, pC, pD]
  refine wpAnyH_ready (rs := [6]) (by kernel_rfl) (by simp) ?_; refine AllReadyH.cons rfl (fun K hK => ?_) AllReadyH.nil; go_simp; refine (origin_is (n := obA) 1 3 (HX.out.next HB9.out) obA_own HVO.out).mono ?_; rintro e w10 ⟨rfl, hb10⟩; rw [KB.out]; have HB10 := Lib.hid (HB9.out.trans (hb10.mono HB9.out.size))
  try (go_wp2_with fail)
  refine hK.out _ _ ?_ (fun hNew => ?_)
  · exact ⟨(HB10.out.cell (p := ⟨cb, 2, none⟩) hcb).trans x2, (hb10.cell (p := ⟨go, 0, none⟩) hbr9).trans y0, (hb10.cell (p := ⟨go, 1, none⟩) hbr9).trans y1, (hb10.cell (p := ⟨go, 2, none⟩) hbr9).trans y2, (hb10.cell (p := ⟨go, 3, none⟩) hbr9).trans y3, (hb10.cell (p := ⟨go, 4, none⟩) hbr9).trans y4⟩
  clear hK K hHeld; have hHeld := hNew; clear hNew; try simp only [Act.put, pB, pC, pD]
  refine tk (v := ?_) 7 rfl (by kernel_rfl) (fun _ _ _ h => h) ?_ hHeld ?_; rotate_left
  · (intro w h; (try dsimp only at h); go_simp; try with_reducible rfl)
  try simp only [Act.put, pB, pC, pD]
  refine tk (v := ?_) 8 rfl (by kernel_rfl) (fun _ _ _ h => h) ?_ hHeld ?_; rotate_left
  · (intro w h; (try dsimp only at h); go_simp; try with_reducible rfl)
  try simp only [Act.put, pB, pC, pD]
  refine tk (v := ?_) 9 rfl (by kernel_rfl) (fun _ _ _ h => h) ?_ hHeld ?_; rotate_left
  · (intro w h; (try dsimp only at h); go_simp; try with_reducible rfl)
  try simp only [Act.put, pB, pC, pD]
  refine tk (v := ?_) 10 rfl (by kernel_rfl) (fun _ _ _ h => h) ?_ hHeld ?_; rotate_left
  · (intro w h; (try dsimp only at h); go_simp; try with_reducible rfl)
  try simp only [Act.put, pB, pC, pD]
  refine tk (v := ?_) 11 rfl (by kernel_rfl) (fun _ _ _ h => h) ?_ hHeld ?_; rotate_left
  · (intro w h; (try dsimp only at h); go_simp; try with_reducible rfl)
  try simp only [Act.put, pB, pC, pD]
  refine wpAnyH_done (by kernel_rfl) ?_ _; clear hHeld
  try simp only [List.getElem_toArray, List.getElem_cons_zero, List.getElem_cons_succ, Act.put, pB, pC, pD]
  refine NoPanic.normal ?_
  go_wp2_with fail
  go_ret
  exact ⟨rfl, HBB.out.trans (HB10.out.mono HBB.out.size)⟩
end Go.Proofs.YtamjllakfgphnaaGreatDoor
namespace Go.Proofs.YtamjllakfgphnaaGreatDoor
open Go.RowKit
attribute [local go_sem ↓] Go.wp_at_zero Go.wp_at_succ
open Go.MapKept Go.ChangeMaps
def cutE (P : Int → Prop) (W : World) (v1 v2 : Value) (wx : World) : Prop := ∃ bb er, v1 = .pointer (some ⟨bb, 0, none⟩) ∧ v2 = .int .i64 er ∧ P er ∧ Below W.heap.size W wx
theorem A54At.up {B B' : Nat} {w : World} {v : Value} {l : List A54} (h : A54At B w v l) (hb : B ≤ B') : A54At B' w v l := by
  obtain ⟨⟨A, c, e, h1, h2, h3⟩, h4⟩ := h
  refine ⟨⟨A, c, e, h1, h2, ?_⟩, h4⟩
  rcases h3 with h3 | ⟨b, o, e2, h5, h6⟩
  · exact .inl h3
  · exact .inr ⟨b, o, e2, Nat.lt_of_lt_of_le h5 hb, h6⟩
set_option maxRecDepth 100000 in
set_option maxHeartbeats 4000000 in
theorem law_terrors {w : World} {v : Value} {l : List A54} (wh a : Int) (i : Int) (h : A54At w.heap.size w v l) (hw0 : 0 ≤ wh) (hw1 : wh < 256) (hu : UseAt w) : Calls Tryz.prog 7 #[v, .agg #[.int .u8 wh, .int .i64 a], .int .i64 i] w fun e w' => e = .returned (.bool true) ∧ Below w.heap.size w w' := by
  have ha := (Below.refl w.heap.size w).alloc (Nat.le_refl _) (.cells #[.int .u8 wh, .int .i64 a] 43)
  have hz : w.heap.size < (w.alloc (.cells #[.int .u8 wh, .int .i64 a] 43)).heap.size := by simp
  have zs := Blk.new w 43 #[.int .u8 wh, .int .i64 a]; obtain ⟨A0, c0, rfl, hc0, hcm0⟩ := h.form; have HA := Lib.hid ha; have HAT := Lib.hid ((h.below ha).up (Nat.le_of_lt hz)); have HU := Lib.hid (hu.below ha); have HVO := Lib.hid (W54_vok l); have ZS := Lib.hid zs; clear ha hu h zs
  go_enter Tryz.func7, Tryz.ntmps7
  go_wp2_with fail
  go_at_call 13; refine (build54_is HAT.out HU.out).mono ?_; rintro e w2 ⟨pb, lv, gx, gg, F, B', rfl, hst, hac, hvx, hgx, hF, hb2⟩; obtain ⟨A9, c9, rfl, hc9⟩ := RowRd.form hac; have HW54 := Lib.hid (good_W l); have HLE := Lib.hid (show W54 l = (fold54 (l.take 20)).l from rfl); generalize W54 l = L at *; have hal := (Below.refl w2.heap.size w2).alloc (Nat.le_refl _) (.cells #[.pointer pb, .slice A9 L.length c9, .pointer (some ⟨gx, 0, none⟩), .pointer (some ⟨gg, 0, none⟩)] 49); have zc := Blk.new w2 49 #[.pointer pb, .slice A9 L.length c9, .pointer (some ⟨gx, 0, none⟩), .pointer (some ⟨gg, 0, none⟩)]
  have hcb : w2.heap.size < (w2.alloc (.cells #[.pointer pb, .slice A9 L.length c9, .pointer (some ⟨gx, 0, none⟩), .pointer (some ⟨gg, 0, none⟩)] 49)).heap.size := by simp
  have HX := Lib.hid (hvx.next hal); have HG := Lib.hid (hgx.next hal); have HST := Lib.hid (hst.next hal); have HAC := Lib.hid (RdAc.next hac hal); have HB2 := Lib.hid (hb2.trans (hal.mono hb2.size)); have HUX := Lib.hid ((HU.out.below hb2).below hal); have ZC := Lib.hid zc; have HSW := Lib.hid (show (w2.alloc (.cells #[.pointer pb, .slice A9 L.length c9, .pointer (some ⟨gx, 0, none⟩), .pointer (some ⟨gg, 0, none⟩)] 49)).heap.size = w2.heap.size + 1 by simp); clear hal hb2 hst hac hvx hgx zc HAT HU
  go_wp2_with fail
  generalize w2.alloc (.cells #[.pointer pb, .slice A9 L.length c9, .pointer (some ⟨gx, 0, none⟩), .pointer (some ⟨gg, 0, none⟩)] 49) = W at *; generalize w2.heap.size = cb at *; have ZSW := Lib.hid (ZS.out.next HB2.out hz); generalize hsb : w.heap.size = sb at *; have HSB := Lib.hid hsb; clear hsb ZS; have hao := (Below.refl W.heap.size W).alloc (Nat.le_refl _) (.cells #[.int .i64 1, .int .i64 0, .int .i64 1, .string ⟨#[]⟩, .slice none 0 0, .slice none 0 0] 77); have hra := rdAc_one W; rw [HSW.out] at hra; have HAO := Lib.hid hao; have HRA := Lib.hid hra; clear hao hra; go_at_call 23; refine (dbuild_is HRA.out ks_one acr_one ok_one (by decide)).mono ?_; rintro e w4 ⟨go, rfl, hgo, hb4⟩; have HGO := Lib.hid hgo; have hbo := HAO.out.trans (hb4.mono HAO.out.size); replace HB2 := Lib.hid (HB2.out.trans (hbo.mono HB2.out.size)); replace HX := Lib.hid (HX.out.next hbo); replace HG := Lib.hid (HG.out.next hbo); replace HST := Lib.hid (HST.out.next hbo); replace HAC := Lib.hid (RdAc.next HAC.out hbo); replace HUX := Lib.hid (HUX.out.below hbo); replace ZSW := Lib.hid (ZSW.out.next hbo ZSW.out.lt); replace ZC := Lib.hid (ZC.out.next hbo hcb); replace hcb := Nat.lt_of_lt_of_le hcb hbo.size; clear hbo hb4 hgo HAO HRA HSW; generalize w4 = Wo at *
  go_wp2_with fail
  go_at_call 10; refine (known54_is HUX.out).mono ?_; rintro e w3 ⟨rfl, hb3⟩; have HB3 := Lib.hid (HB2.out.trans (hb3.mono HB2.out.size)); replace HX := Lib.hid (HX.out.next hb3); replace HG := Lib.hid (HG.out.next hb3); replace HST := Lib.hid (HST.out.next hb3); replace HAC := Lib.hid (RdAc.next HAC.out hb3); replace HUX := Lib.hid (HUX.out.below hb3); replace ZSW := Lib.hid (ZSW.out.next hb3 ZSW.out.lt); replace ZC := Lib.hid (ZC.out.next hb3 hcb); replace hcb := ZC.out.lt; have hsb := ZSW.out.lt; have s0 := ZSW.out.cell 0; have s1 := ZSW.out.cell 1; have x0 := ZC.out.cell 0; have x1 := ZC.out.cell 1; have x2 := ZC.out.cell 2; have x3 := ZC.out.cell 3; simp only [qB, qC, qD] at s0 s1 x0 x1 x2 x3; have HBW := Lib.hid (HA.out.trans (HB3.out.mono (Nat.le_of_lt hz))); have hnn := spN_own wh; replace HGO := Lib.hid (HGO.out.next hb3); clear hb3 HB2 HB3 HA hz
  go_upto_region 5 with (fail)
  have H5 := Lib.hid (show ∀ x ∈ L, x.key.lin ∈ lin5 from fun x hx => (HW54.out.all x (by rw [← HLE.out]; exact hx)).1.1.2.1)
  go_wp2_with fail
  go_at_call 15; refine (place_is _ wh a hw0 hw1).mono ?_; rintro e w4 ⟨rfl, hb4⟩
  go_wp2_with fail
  go_at_call 24; refine (origin_nil (spN wh) a i).mono ?_; rintro e w5 ⟨rfl, hb5⟩; have HB5 := Lib.hid (hb4.trans (hb5.mono hb4.size)); clear hb4 hb5; replace HBW := Lib.hid (HBW.out.trans (HB5.out.mono (by have := HBW.out.size; have := HSB.out; omega))); replace HX := Lib.hid (HX.out.next HB5.out); replace HG := Lib.hid (HG.out.next HB5.out); replace HAC := Lib.hid (RdAc.next HAC.out HB5.out); replace HGO := Lib.hid (HGO.out.next HB5.out); replace ZSW := Lib.hid (ZSW.out.next HB5.out hsb); replace ZC := Lib.hid (ZC.out.next HB5.out hcb); replace hcb := ZC.out.lt; replace hsb := ZSW.out.lt; replace s0 := ZSW.out.cell 0; replace s1 := ZSW.out.cell 1; replace x0 := ZC.out.cell 0; replace x1 := ZC.out.cell 1; replace x2 := ZC.out.cell 2; replace x3 := ZC.out.cell 3; simp only [qB, qC, qD] at s0 s1 x0 x1 x2 x3; clear HB5; generalize w5 = W6 at *
  go_upto_region 6 with (fail)
  go_cut [13, 14] (fun v13 v14 wx => cutE (fun er => er = 1) W6 v13 v14 wx)
  case first =>
    refine wp_region_noPanic ?_
    refine wp_region_held_drew (S := (fun (w' : World) => w'.cell? ⟨cb, 3, none⟩ = some (.pointer (some ⟨gg, 0, none⟩)) ∧ w'.cell? ⟨sb, 0, none⟩ = some (.int .u8 wh) ∧ w'.cell? ⟨sb, 1, none⟩ = some (.int .i64 a))) (by kernel_rfl) ?_ (fun hHeld => ?_)
    · exact ⟨x3, s0, s1⟩
    refine tk (v := ?_) 0 rfl (by kernel_rfl) (fun _ _ _ h => h) ?_ hHeld ?_; rotate_left
    · (intro w h; (try dsimp only at h); go_simp; try with_reducible rfl)
    try simp only [Act.put, pB, pC, pD]
    refine tk (v := ?_) 1 rfl (by kernel_rfl) (fun _ _ _ h => h) ?_ hHeld ?_; rotate_left
    · (intro w h; (try dsimp only at h); go_simp; try with_reducible rfl)
    try simp only [Act.put, pB, pC, pD]
    refine tk (v := ?_) 2 rfl (by kernel_rfl) (fun _ _ _ h => h) ?_ hHeld ?_; rotate_left
    · (intro w h; (try dsimp only at h); go_simp; try with_reducible rfl)
    try simp only [Act.put, pB, pC, pD]
    refine tk (v := ?_) 4 rfl (by kernel_rfl) (fun _ _ _ h => h) ?_ hHeld ?_; rotate_left
    · (intro w h; (try dsimp only at h); go_simp; try with_reducible rfl)
    try simp only [Act.put, pB, pC, pD]
    refine wpAnyH_ready (rs := [3, 9]) (by kernel_rfl) (by simp) ?_
    refine AllReadyH.cons rfl (fun K hK => ?_) (AllReadyH.cons rfl (fun K hK => ?_) AllReadyH.nil)
    · go_simp
      refine (place_is (W6.drew) wh a hw0 hw1).mono ?_; rintro e w9 ⟨rfl, hb9'⟩; have HB9 := Lib.hid (((Below.refl W6.heap.size W6).drew).trans (hb9'.mono ((Below.refl W6.heap.size W6).drew).size)); clear hb9'
      try (go_wp2_with fail)
      refine hK.out _ _ ?_ (fun hNew => ?_)
      · exact ⟨(HB9.out.cell (p := ⟨cb, 3, none⟩) hcb).trans x3, (HB9.out.cell (p := ⟨sb, 0, none⟩) hsb).trans s0, (HB9.out.cell (p := ⟨sb, 1, none⟩) hsb).trans s1⟩
      clear hK K hHeld; have hHeld := hNew; clear hNew; try simp only [Act.put, pB, pC, pD]
      refine wpAnyH_ready (rs := [5, 9]) (by kernel_rfl) (by simp) ?_
      refine AllReadyH.cons rfl (fun K hK => ?_) (AllReadyH.cons rfl (fun K hK => ?_) AllReadyH.nil)
      · go_simp
        refine (tof_err (spN wh) a i 1 (fun W' _ => tcheck_n1 W' _) (by decide)).mono ?_; rintro e w10 ⟨rfl, hb10⟩; have HB10 := Lib.hid ((HB9.out).trans (hb10.mono (HB9.out).size)); clear hb10
        try (go_wp2_with fail)
        refine hK.out _ _ ?_ (fun hNew => ?_)
        · exact ⟨(HB10.out.cell (p := ⟨cb, 3, none⟩) hcb).trans x3, (HB10.out.cell (p := ⟨sb, 0, none⟩) hsb).trans s0, (HB10.out.cell (p := ⟨sb, 1, none⟩) hsb).trans s1⟩
        clear hK K hHeld; have hHeld := hNew; clear hNew; try simp only [Act.put, pB, pC, pD]
        refine tk (v := ?_) 6 rfl (by kernel_rfl) (fun _ _ _ h => h) ?_ hHeld ?_; rotate_left
        · (intro w h; (try dsimp only at h); go_simp; try with_reducible rfl)
        try simp only [Act.put, pB, pC, pD]
        refine tk (v := ?_) 7 rfl (by kernel_rfl) (fun _ _ _ h => h) ?_ hHeld ?_; rotate_left
        · (intro w h; (try dsimp only at h); go_simp; try with_reducible rfl)
        try simp only [Act.put, pB, pC, pD]
        refine tk (v := ?_) 8 rfl (by kernel_rfl) (fun _ _ _ h => h) ?_ hHeld ?_; rotate_left
        · (intro w h; (try dsimp only at h); go_simp; try with_reducible rfl)
        try simp only [Act.put, pB, pC, pD]
        refine wpAnyH_ready (rs := [9]) (by kernel_rfl) (by simp) ?_; refine AllReadyH.cons rfl (fun K hK => ?_) AllReadyH.nil
        · go_simp
          have HBA : Hid (Below W6.heap.size W6 (w10.alloc (.cells #[.slice none 0 0, .slice none 0 0, .slice none 0 0] 36))) := Lib.hid ((HB10.out).alloc (HB10.out).size (.cells #[.slice none 0 0, .slice none 0 0, .slice none 0 0] 36)); have ZBA : Hid (Blk (w10.alloc (.cells #[.slice none 0 0, .slice none 0 0, .slice none 0 0] 36)) w10.heap.size 36 #[.slice none 0 0, .slice none 0 0, .slice none 0 0]) := Lib.hid (Blk.new w10 36 #[.slice none 0 0, .slice none 0 0, .slice none 0 0]); have HGE := Lib.hid (show W6.heap.size ≤ w10.heap.size from (HB10.out).size)
          refine hK.out _ _ ?_ (fun hNew => ?_)
          · exact ⟨(HBA.out.cell (p := ⟨cb, 3, none⟩) hcb).trans x3, (HBA.out.cell (p := ⟨sb, 0, none⟩) hsb).trans s0, (HBA.out.cell (p := ⟨sb, 1, none⟩) hsb).trans s1⟩
          clear hK K hHeld; have hHeld := hNew; clear hNew; try simp only [Act.put, pB, pC, pD]
          have hal := (Below.refl w10.heap.size w10).alloc (Nat.le_refl _) (.cells #[.slice none 0 0, .slice none 0 0, .slice none 0 0] 36); have HBS := Lib.hid ((HB10.out).trans (hal.mono (HB10.out).size)); clear hal; refine wpAnyH_ready (rs := [10]) (by kernel_rfl) (by simp) ?_; refine AllReadyH.cons rfl (fun K hK => ?_) AllReadyH.nil; go_simp
          refine hK.out _ _ ?_ (fun hNew => ?_)
          · exact ⟨(HBS.out.cell (p := ⟨cb, 3, none⟩) hcb).trans x3, (HBS.out.cell (p := ⟨sb, 0, none⟩) hsb).trans s0, (HBS.out.cell (p := ⟨sb, 1, none⟩) hsb).trans s1⟩
          clear hK K hHeld; have hHeld := hNew; clear hNew; try simp only [Act.put, pB, pC, pD]
          refine tk (v := ?_) 11 rfl (by kernel_rfl) (fun _ _ _ h => h) ?_ hHeld ?_; rotate_left
          · (intro w h; (try dsimp only at h); go_simp; try with_reducible rfl)
          try simp only [Act.put, pB, pC, pD]
          refine wpAnyH_done (by kernel_rfl) ?_ _; clear hHeld
          try simp only [List.getElem_toArray, List.getElem_cons_zero, List.getElem_cons_succ, Act.put, pB, pC, pD]
          refine NoPanic.normal ?_
          go_wp2_with fail
          go_meet
          case rel => exact ⟨_, 1, rfl, rfl, rfl, HBS.out⟩
      · go_simp
        have HBA : Hid (Below W6.heap.size W6 (w9.alloc (.cells #[.slice none 0 0, .slice none 0 0, .slice none 0 0] 36))) := Lib.hid ((HB9.out).alloc (HB9.out).size (.cells #[.slice none 0 0, .slice none 0 0, .slice none 0 0] 36)); have ZBA : Hid (Blk (w9.alloc (.cells #[.slice none 0 0, .slice none 0 0, .slice none 0 0] 36)) w9.heap.size 36 #[.slice none 0 0, .slice none 0 0, .slice none 0 0]) := Lib.hid (Blk.new w9 36 #[.slice none 0 0, .slice none 0 0, .slice none 0 0]); have HGE := Lib.hid (show W6.heap.size ≤ w9.heap.size from (HB9.out).size)
        refine hK.out _ _ ?_ (fun hNew => ?_)
        · exact ⟨(HBA.out.cell (p := ⟨cb, 3, none⟩) hcb).trans x3, (HBA.out.cell (p := ⟨sb, 0, none⟩) hsb).trans s0, (HBA.out.cell (p := ⟨sb, 1, none⟩) hsb).trans s1⟩
        clear hK K hHeld; have hHeld := hNew; clear hNew; try simp only [Act.put, pB, pC, pD]
        refine wpAnyH_ready (rs := [5]) (by kernel_rfl) (by simp) ?_; refine AllReadyH.cons rfl (fun K hK => ?_) AllReadyH.nil
        · go_simp
          refine (tof_err (spN wh) a i 1 (fun W' _ => tcheck_n1 W' _) (by decide)).mono ?_; rintro e w10 ⟨rfl, hb10⟩; have HB10 := Lib.hid ((HBA.out).trans (hb10.mono (HBA.out).size)); have ZB10 := Lib.hid (ZBA.out.next hb10 ZBA.out.lt); clear hb10
          try (go_wp2_with fail)
          refine hK.out _ _ ?_ (fun hNew => ?_)
          · exact ⟨(HB10.out.cell (p := ⟨cb, 3, none⟩) hcb).trans x3, (HB10.out.cell (p := ⟨sb, 0, none⟩) hsb).trans s0, (HB10.out.cell (p := ⟨sb, 1, none⟩) hsb).trans s1⟩
          clear hK K hHeld; have hHeld := hNew; clear hNew; try simp only [Act.put, pB, pC, pD]
          refine tk (v := ?_) 6 rfl (by kernel_rfl) (fun _ _ _ h => h) ?_ hHeld ?_; rotate_left
          · (intro w h; (try dsimp only at h); go_simp; try with_reducible rfl)
          try simp only [Act.put, pB, pC, pD]
          refine tk (v := ?_) 7 rfl (by kernel_rfl) (fun _ _ _ h => h) ?_ hHeld ?_; rotate_left
          · (intro w h; (try dsimp only at h); go_simp; try with_reducible rfl)
          try simp only [Act.put, pB, pC, pD]
          refine tk (v := ?_) 8 rfl (by kernel_rfl) (fun _ _ _ h => h) ?_ hHeld ?_; rotate_left
          · (intro w h; (try dsimp only at h); go_simp; try with_reducible rfl)
          try simp only [Act.put, pB, pC, pD]
          have z0 := ZB10.out.cell 0; have z1 := ZB10.out.cell 1; have z2 := ZB10.out.cell 2; have f0 := ZB10.out.frozen 0; have f1 := ZB10.out.frozen 1; have f2 := ZB10.out.frozen 2; simp only [qB, qC, qD] at z0 z1 z2; have hg3 := set3 w10 w9.heap.size (.slice none 0 0) (.slice none 0 0) (.slice none 0 0); have HBS := Lib.hid ((HB10.out).grown hg3 (HB10.out).size (fun r e => by injection e with e; subst e; exact HGE.out)); clear hg3; refine wpAnyH_ready (rs := [10]) (by kernel_rfl) (by simp) ?_; refine AllReadyH.cons rfl (fun K hK => ?_) AllReadyH.nil; go_simp
          refine hK.out _ _ ?_ (fun hNew => ?_)
          · exact ⟨(HBS.out.cell (p := ⟨cb, 3, none⟩) hcb).trans x3, (HBS.out.cell (p := ⟨sb, 0, none⟩) hsb).trans s0, (HBS.out.cell (p := ⟨sb, 1, none⟩) hsb).trans s1⟩
          clear hK K hHeld; have hHeld := hNew; clear hNew; try simp only [Act.put, pB, pC, pD]
          refine tk (v := ?_) 11 rfl (by kernel_rfl) (fun _ _ _ h => h) ?_ hHeld ?_; rotate_left
          · (intro w h; (try dsimp only at h); go_simp; try with_reducible rfl)
          try simp only [Act.put, pB, pC, pD]
          refine wpAnyH_done (by kernel_rfl) ?_ _; clear hHeld
          try simp only [List.getElem_toArray, List.getElem_cons_zero, List.getElem_cons_succ, Act.put, pB, pC, pD]
          refine NoPanic.normal ?_
          go_wp2_with fail
          go_meet
          case rel => exact ⟨_, 1, rfl, rfl, rfl, HBS.out⟩
    · go_simp
      have HBA : Hid (Below W6.heap.size W6 (W6.alloc (.cells #[.slice none 0 0, .slice none 0 0, .slice none 0 0] 36)).drew) := Lib.hid (((Below.refl W6.heap.size W6).alloc (Nat.le_refl _) (.cells #[.slice none 0 0, .slice none 0 0, .slice none 0 0] 36)).drew); have ZBA : Hid (Blk (W6.alloc (.cells #[.slice none 0 0, .slice none 0 0, .slice none 0 0] 36)).drew W6.heap.size 36 #[.slice none 0 0, .slice none 0 0, .slice none 0 0]) := Lib.hid (Blk.new W6 36 #[.slice none 0 0, .slice none 0 0, .slice none 0 0]); have HGE := Lib.hid (show W6.heap.size ≤ W6.heap.size from ((Below.refl W6.heap.size W6).drew).size)
      refine hK.out _ _ ?_ (fun hNew => ?_)
      · exact ⟨(HBA.out.cell (p := ⟨cb, 3, none⟩) hcb).trans x3, (HBA.out.cell (p := ⟨sb, 0, none⟩) hsb).trans s0, (HBA.out.cell (p := ⟨sb, 1, none⟩) hsb).trans s1⟩
      clear hK K hHeld; have hHeld := hNew; clear hNew; try simp only [Act.put, pB, pC, pD]
      refine wpAnyH_ready (rs := [3]) (by kernel_rfl) (by simp) ?_; refine AllReadyH.cons rfl (fun K hK => ?_) AllReadyH.nil
      · go_simp
        refine (place_is ((W6.alloc (.cells #[.slice none 0 0, .slice none 0 0, .slice none 0 0] 36)).drew) wh a hw0 hw1).mono ?_; rintro e w9 ⟨rfl, hb9'⟩; have HB9 := Lib.hid ((HBA.out).trans (hb9'.mono (HBA.out).size)); have ZB9 := Lib.hid (ZBA.out.next hb9' ZBA.out.lt); clear hb9'
        try (go_wp2_with fail)
        refine hK.out _ _ ?_ (fun hNew => ?_)
        · exact ⟨(HB9.out.cell (p := ⟨cb, 3, none⟩) hcb).trans x3, (HB9.out.cell (p := ⟨sb, 0, none⟩) hsb).trans s0, (HB9.out.cell (p := ⟨sb, 1, none⟩) hsb).trans s1⟩
        clear hK K hHeld; have hHeld := hNew; clear hNew; try simp only [Act.put, pB, pC, pD]
        refine wpAnyH_ready (rs := [5]) (by kernel_rfl) (by simp) ?_; refine AllReadyH.cons rfl (fun K hK => ?_) AllReadyH.nil
        · go_simp
          refine (tof_err (spN wh) a i 1 (fun W' _ => tcheck_n1 W' _) (by decide)).mono ?_; rintro e w10 ⟨rfl, hb10⟩; have HB10 := Lib.hid ((HB9.out).trans (hb10.mono (HB9.out).size)); have ZB10 := Lib.hid (ZB9.out.next hb10 ZB9.out.lt); clear hb10
          try (go_wp2_with fail)
          refine hK.out _ _ ?_ (fun hNew => ?_)
          · exact ⟨(HB10.out.cell (p := ⟨cb, 3, none⟩) hcb).trans x3, (HB10.out.cell (p := ⟨sb, 0, none⟩) hsb).trans s0, (HB10.out.cell (p := ⟨sb, 1, none⟩) hsb).trans s1⟩
          clear hK K hHeld; have hHeld := hNew; clear hNew; try simp only [Act.put, pB, pC, pD]
          refine tk (v := ?_) 6 rfl (by kernel_rfl) (fun _ _ _ h => h) ?_ hHeld ?_; rotate_left
          · (intro w h; (try dsimp only at h); go_simp; try with_reducible rfl)
          try simp only [Act.put, pB, pC, pD]
          refine tk (v := ?_) 7 rfl (by kernel_rfl) (fun _ _ _ h => h) ?_ hHeld ?_; rotate_left
          · (intro w h; (try dsimp only at h); go_simp; try with_reducible rfl)
          try simp only [Act.put, pB, pC, pD]
          refine tk (v := ?_) 8 rfl (by kernel_rfl) (fun _ _ _ h => h) ?_ hHeld ?_; rotate_left
          · (intro w h; (try dsimp only at h); go_simp; try with_reducible rfl)
          try simp only [Act.put, pB, pC, pD]
          have z0 := ZB10.out.cell 0; have z1 := ZB10.out.cell 1; have z2 := ZB10.out.cell 2; have f0 := ZB10.out.frozen 0; have f1 := ZB10.out.frozen 1; have f2 := ZB10.out.frozen 2; simp only [qB, qC, qD] at z0 z1 z2; have hg3 := set3 w10 W6.heap.size (.slice none 0 0) (.slice none 0 0) (.slice none 0 0); have HBS := Lib.hid ((HB10.out).grown hg3 (HB10.out).size (fun r e => by injection e with e; subst e; exact HGE.out)); clear hg3; refine wpAnyH_ready (rs := [10]) (by kernel_rfl) (by simp) ?_; refine AllReadyH.cons rfl (fun K hK => ?_) AllReadyH.nil; go_simp
          refine hK.out _ _ ?_ (fun hNew => ?_)
          · exact ⟨(HBS.out.cell (p := ⟨cb, 3, none⟩) hcb).trans x3, (HBS.out.cell (p := ⟨sb, 0, none⟩) hsb).trans s0, (HBS.out.cell (p := ⟨sb, 1, none⟩) hsb).trans s1⟩
          clear hK K hHeld; have hHeld := hNew; clear hNew; try simp only [Act.put, pB, pC, pD]
          refine tk (v := ?_) 11 rfl (by kernel_rfl) (fun _ _ _ h => h) ?_ hHeld ?_; rotate_left
          · (intro w h; (try dsimp only at h); go_simp; try with_reducible rfl)
          try simp only [Act.put, pB, pC, pD]
          refine wpAnyH_done (by kernel_rfl) ?_ _; clear hHeld
          try simp only [List.getElem_toArray, List.getElem_cons_zero, List.getElem_cons_succ, Act.put, pB, pC, pD]
          refine NoPanic.normal ?_
          go_wp2_with fail
          go_meet
          case rel => exact ⟨_, 1, rfl, rfl, rfl, HBS.out⟩
  case rest =>
    obtain ⟨b6, er, rfl, rfl, rfl, hbx⟩ := hcut; have HBX := Lib.hid hbx; clear hbx; replace HBW := Lib.hid (HBW.out.trans (HBX.out.mono (by have := HBW.out.size; have := HSB.out; omega))); replace HX := Lib.hid (HX.out.next HBX.out); replace HG := Lib.hid (HG.out.next HBX.out); replace HAC := Lib.hid (RdAc.next HAC.out HBX.out); replace HGO := Lib.hid (HGO.out.next HBX.out); replace ZSW := Lib.hid (ZSW.out.next HBX.out hsb); replace ZC := Lib.hid (ZC.out.next HBX.out hcb); replace hcb := ZC.out.lt; replace hsb := ZSW.out.lt; replace s0 := ZSW.out.cell 0; replace s1 := ZSW.out.cell 1; replace x0 := ZC.out.cell 0; replace x1 := ZC.out.cell 1; replace x2 := ZC.out.cell 2; replace x3 := ZC.out.cell 3; simp only [qB, qC, qD] at s0 s1 x0 x1 x2 x3; clear HBX; generalize wc = W7 at *
    go_upto_region 7 with (fail)
    go_cut [15, 16] (fun v15 v16 wx => cutE (fun er => er = 1) W7 v15 v16 wx)
    case first =>
      refine wp_region_noPanic ?_
      refine wp_region_held_drew (S := (fun (w' : World) => w'.cell? ⟨cb, 2, none⟩ = some (.pointer (some ⟨gx, 0, none⟩)) ∧ w'.cell? ⟨sb, 0, none⟩ = some (.int .u8 wh) ∧ w'.cell? ⟨sb, 1, none⟩ = some (.int .i64 a))) (by kernel_rfl) ?_ (fun hHeld => ?_)
      · exact ⟨x2, s0, s1⟩
      refine tk (v := ?_) 0 rfl (by kernel_rfl) (fun _ _ _ h => h) ?_ hHeld ?_; rotate_left
      · (intro w h; (try dsimp only at h); go_simp; try with_reducible rfl)
      try simp only [Act.put, pB, pC, pD]
      refine tk (v := ?_) 1 rfl (by kernel_rfl) (fun _ _ _ h => h) ?_ hHeld ?_; rotate_left
      · (intro w h; (try dsimp only at h); go_simp; try with_reducible rfl)
      try simp only [Act.put, pB, pC, pD]
      refine tk (v := ?_) 2 rfl (by kernel_rfl) (fun _ _ _ h => h) ?_ hHeld ?_; rotate_left
      · (intro w h; (try dsimp only at h); go_simp; try with_reducible rfl)
      try simp only [Act.put, pB, pC, pD]
      refine tk (v := ?_) 4 rfl (by kernel_rfl) (fun _ _ _ h => h) ?_ hHeld ?_; rotate_left
      · (intro w h; (try dsimp only at h); go_simp; try with_reducible rfl)
      try simp only [Act.put, pB, pC, pD]
      refine wpAnyH_ready (rs := [3, 9]) (by kernel_rfl) (by simp) ?_
      refine AllReadyH.cons rfl (fun K hK => ?_) (AllReadyH.cons rfl (fun K hK => ?_) AllReadyH.nil)
      · go_simp
        refine (place_is (W7.drew) wh a hw0 hw1).mono ?_; rintro e w9 ⟨rfl, hb9'⟩; have HB9 := Lib.hid (((Below.refl W7.heap.size W7).drew).trans (hb9'.mono ((Below.refl W7.heap.size W7).drew).size)); clear hb9'
        try (go_wp2_with fail)
        refine hK.out _ _ ?_ (fun hNew => ?_)
        · exact ⟨(HB9.out.cell (p := ⟨cb, 2, none⟩) hcb).trans x2, (HB9.out.cell (p := ⟨sb, 0, none⟩) hsb).trans s0, (HB9.out.cell (p := ⟨sb, 1, none⟩) hsb).trans s1⟩
        clear hK K hHeld; have hHeld := hNew; clear hNew; try simp only [Act.put, pB, pC, pD]
        refine wpAnyH_ready (rs := [5, 9]) (by kernel_rfl) (by simp) ?_
        refine AllReadyH.cons rfl (fun K hK => ?_) (AllReadyH.cons rfl (fun K hK => ?_) AllReadyH.nil)
        · go_simp
          refine (tof_err (spN wh) a i 1 (fun W' _ => tcheck_n2 W' _) (by decide)).mono ?_; rintro e w10 ⟨rfl, hb10⟩; have HB10 := Lib.hid ((HB9.out).trans (hb10.mono (HB9.out).size)); clear hb10
          try (go_wp2_with fail)
          refine hK.out _ _ ?_ (fun hNew => ?_)
          · exact ⟨(HB10.out.cell (p := ⟨cb, 2, none⟩) hcb).trans x2, (HB10.out.cell (p := ⟨sb, 0, none⟩) hsb).trans s0, (HB10.out.cell (p := ⟨sb, 1, none⟩) hsb).trans s1⟩
          clear hK K hHeld; have hHeld := hNew; clear hNew; try simp only [Act.put, pB, pC, pD]
          refine tk (v := ?_) 6 rfl (by kernel_rfl) (fun _ _ _ h => h) ?_ hHeld ?_; rotate_left
          · (intro w h; (try dsimp only at h); go_simp; try with_reducible rfl)
          try simp only [Act.put, pB, pC, pD]
          refine tk (v := ?_) 7 rfl (by kernel_rfl) (fun _ _ _ h => h) ?_ hHeld ?_; rotate_left
          · (intro w h; (try dsimp only at h); go_simp; try with_reducible rfl)
          try simp only [Act.put, pB, pC, pD]
          refine tk (v := ?_) 8 rfl (by kernel_rfl) (fun _ _ _ h => h) ?_ hHeld ?_; rotate_left
          · (intro w h; (try dsimp only at h); go_simp; try with_reducible rfl)
          try simp only [Act.put, pB, pC, pD]
          refine wpAnyH_ready (rs := [9]) (by kernel_rfl) (by simp) ?_; refine AllReadyH.cons rfl (fun K hK => ?_) AllReadyH.nil
          · go_simp
            have HBA : Hid (Below W7.heap.size W7 (w10.alloc (.cells #[.slice none 0 0, .slice none 0 0, .slice none 0 0] 36))) := Lib.hid ((HB10.out).alloc (HB10.out).size (.cells #[.slice none 0 0, .slice none 0 0, .slice none 0 0] 36)); have ZBA : Hid (Blk (w10.alloc (.cells #[.slice none 0 0, .slice none 0 0, .slice none 0 0] 36)) w10.heap.size 36 #[.slice none 0 0, .slice none 0 0, .slice none 0 0]) := Lib.hid (Blk.new w10 36 #[.slice none 0 0, .slice none 0 0, .slice none 0 0]); have HGE := Lib.hid (show W7.heap.size ≤ w10.heap.size from (HB10.out).size)
            refine hK.out _ _ ?_ (fun hNew => ?_)
            · exact ⟨(HBA.out.cell (p := ⟨cb, 2, none⟩) hcb).trans x2, (HBA.out.cell (p := ⟨sb, 0, none⟩) hsb).trans s0, (HBA.out.cell (p := ⟨sb, 1, none⟩) hsb).trans s1⟩
            clear hK K hHeld; have hHeld := hNew; clear hNew; try simp only [Act.put, pB, pC, pD]
            have hal := (Below.refl w10.heap.size w10).alloc (Nat.le_refl _) (.cells #[.slice none 0 0, .slice none 0 0, .slice none 0 0] 36); have HBS := Lib.hid ((HB10.out).trans (hal.mono (HB10.out).size)); clear hal; refine wpAnyH_ready (rs := [10]) (by kernel_rfl) (by simp) ?_; refine AllReadyH.cons rfl (fun K hK => ?_) AllReadyH.nil; go_simp
            refine hK.out _ _ ?_ (fun hNew => ?_)
            · exact ⟨(HBS.out.cell (p := ⟨cb, 2, none⟩) hcb).trans x2, (HBS.out.cell (p := ⟨sb, 0, none⟩) hsb).trans s0, (HBS.out.cell (p := ⟨sb, 1, none⟩) hsb).trans s1⟩
            clear hK K hHeld; have hHeld := hNew; clear hNew; try simp only [Act.put, pB, pC, pD]
            refine tk (v := ?_) 11 rfl (by kernel_rfl) (fun _ _ _ h => h) ?_ hHeld ?_; rotate_left
            · (intro w h; (try dsimp only at h); go_simp; try with_reducible rfl)
            try simp only [Act.put, pB, pC, pD]
            refine wpAnyH_done (by kernel_rfl) ?_ _; clear hHeld
            try simp only [List.getElem_toArray, List.getElem_cons_zero, List.getElem_cons_succ, Act.put, pB, pC, pD]
            refine NoPanic.normal ?_
            go_wp2_with fail
            go_meet
            case rel => exact ⟨_, 1, rfl, rfl, rfl, HBS.out⟩
        · go_simp
          have HBA : Hid (Below W7.heap.size W7 (w9.alloc (.cells #[.slice none 0 0, .slice none 0 0, .slice none 0 0] 36))) := Lib.hid ((HB9.out).alloc (HB9.out).size (.cells #[.slice none 0 0, .slice none 0 0, .slice none 0 0] 36)); have ZBA : Hid (Blk (w9.alloc (.cells #[.slice none 0 0, .slice none 0 0, .slice none 0 0] 36)) w9.heap.size 36 #[.slice none 0 0, .slice none 0 0, .slice none 0 0]) := Lib.hid (Blk.new w9 36 #[.slice none 0 0, .slice none 0 0, .slice none 0 0]); have HGE := Lib.hid (show W7.heap.size ≤ w9.heap.size from (HB9.out).size)
          refine hK.out _ _ ?_ (fun hNew => ?_)
          · exact ⟨(HBA.out.cell (p := ⟨cb, 2, none⟩) hcb).trans x2, (HBA.out.cell (p := ⟨sb, 0, none⟩) hsb).trans s0, (HBA.out.cell (p := ⟨sb, 1, none⟩) hsb).trans s1⟩
          clear hK K hHeld; have hHeld := hNew; clear hNew; try simp only [Act.put, pB, pC, pD]
          refine wpAnyH_ready (rs := [5]) (by kernel_rfl) (by simp) ?_; refine AllReadyH.cons rfl (fun K hK => ?_) AllReadyH.nil
          · go_simp
            refine (tof_err (spN wh) a i 1 (fun W' _ => tcheck_n2 W' _) (by decide)).mono ?_; rintro e w10 ⟨rfl, hb10⟩; have HB10 := Lib.hid ((HBA.out).trans (hb10.mono (HBA.out).size)); have ZB10 := Lib.hid (ZBA.out.next hb10 ZBA.out.lt); clear hb10
            try (go_wp2_with fail)
            refine hK.out _ _ ?_ (fun hNew => ?_)
            · exact ⟨(HB10.out.cell (p := ⟨cb, 2, none⟩) hcb).trans x2, (HB10.out.cell (p := ⟨sb, 0, none⟩) hsb).trans s0, (HB10.out.cell (p := ⟨sb, 1, none⟩) hsb).trans s1⟩
            clear hK K hHeld; have hHeld := hNew; clear hNew; try simp only [Act.put, pB, pC, pD]
            refine tk (v := ?_) 6 rfl (by kernel_rfl) (fun _ _ _ h => h) ?_ hHeld ?_; rotate_left
            · (intro w h; (try dsimp only at h); go_simp; try with_reducible rfl)
            try simp only [Act.put, pB, pC, pD]
            refine tk (v := ?_) 7 rfl (by kernel_rfl) (fun _ _ _ h => h) ?_ hHeld ?_; rotate_left
            · (intro w h; (try dsimp only at h); go_simp; try with_reducible rfl)
            try simp only [Act.put, pB, pC, pD]
            refine tk (v := ?_) 8 rfl (by kernel_rfl) (fun _ _ _ h => h) ?_ hHeld ?_; rotate_left
            · (intro w h; (try dsimp only at h); go_simp; try with_reducible rfl)
            try simp only [Act.put, pB, pC, pD]
            have z0 := ZB10.out.cell 0; have z1 := ZB10.out.cell 1; have z2 := ZB10.out.cell 2; have f0 := ZB10.out.frozen 0; have f1 := ZB10.out.frozen 1; have f2 := ZB10.out.frozen 2; simp only [qB, qC, qD] at z0 z1 z2; have hg3 := set3 w10 w9.heap.size (.slice none 0 0) (.slice none 0 0) (.slice none 0 0); have HBS := Lib.hid ((HB10.out).grown hg3 (HB10.out).size (fun r e => by injection e with e; subst e; exact HGE.out)); clear hg3; refine wpAnyH_ready (rs := [10]) (by kernel_rfl) (by simp) ?_; refine AllReadyH.cons rfl (fun K hK => ?_) AllReadyH.nil; go_simp
            refine hK.out _ _ ?_ (fun hNew => ?_)
            · exact ⟨(HBS.out.cell (p := ⟨cb, 2, none⟩) hcb).trans x2, (HBS.out.cell (p := ⟨sb, 0, none⟩) hsb).trans s0, (HBS.out.cell (p := ⟨sb, 1, none⟩) hsb).trans s1⟩
            clear hK K hHeld; have hHeld := hNew; clear hNew; try simp only [Act.put, pB, pC, pD]
            refine tk (v := ?_) 11 rfl (by kernel_rfl) (fun _ _ _ h => h) ?_ hHeld ?_; rotate_left
            · (intro w h; (try dsimp only at h); go_simp; try with_reducible rfl)
            try simp only [Act.put, pB, pC, pD]
            refine wpAnyH_done (by kernel_rfl) ?_ _; clear hHeld
            try simp only [List.getElem_toArray, List.getElem_cons_zero, List.getElem_cons_succ, Act.put, pB, pC, pD]
            refine NoPanic.normal ?_
            go_wp2_with fail
            go_meet
            case rel => exact ⟨_, 1, rfl, rfl, rfl, HBS.out⟩
      · go_simp
        have HBA : Hid (Below W7.heap.size W7 (W7.alloc (.cells #[.slice none 0 0, .slice none 0 0, .slice none 0 0] 36)).drew) := Lib.hid (((Below.refl W7.heap.size W7).alloc (Nat.le_refl _) (.cells #[.slice none 0 0, .slice none 0 0, .slice none 0 0] 36)).drew); have ZBA : Hid (Blk (W7.alloc (.cells #[.slice none 0 0, .slice none 0 0, .slice none 0 0] 36)).drew W7.heap.size 36 #[.slice none 0 0, .slice none 0 0, .slice none 0 0]) := Lib.hid (Blk.new W7 36 #[.slice none 0 0, .slice none 0 0, .slice none 0 0]); have HGE := Lib.hid (show W7.heap.size ≤ W7.heap.size from ((Below.refl W7.heap.size W7).drew).size)
        refine hK.out _ _ ?_ (fun hNew => ?_)
        · exact ⟨(HBA.out.cell (p := ⟨cb, 2, none⟩) hcb).trans x2, (HBA.out.cell (p := ⟨sb, 0, none⟩) hsb).trans s0, (HBA.out.cell (p := ⟨sb, 1, none⟩) hsb).trans s1⟩
        clear hK K hHeld; have hHeld := hNew; clear hNew; try simp only [Act.put, pB, pC, pD]
        refine wpAnyH_ready (rs := [3]) (by kernel_rfl) (by simp) ?_; refine AllReadyH.cons rfl (fun K hK => ?_) AllReadyH.nil
        · go_simp
          refine (place_is ((W7.alloc (.cells #[.slice none 0 0, .slice none 0 0, .slice none 0 0] 36)).drew) wh a hw0 hw1).mono ?_; rintro e w9 ⟨rfl, hb9'⟩; have HB9 := Lib.hid ((HBA.out).trans (hb9'.mono (HBA.out).size)); have ZB9 := Lib.hid (ZBA.out.next hb9' ZBA.out.lt); clear hb9'
          try (go_wp2_with fail)
          refine hK.out _ _ ?_ (fun hNew => ?_)
          · exact ⟨(HB9.out.cell (p := ⟨cb, 2, none⟩) hcb).trans x2, (HB9.out.cell (p := ⟨sb, 0, none⟩) hsb).trans s0, (HB9.out.cell (p := ⟨sb, 1, none⟩) hsb).trans s1⟩
          clear hK K hHeld; have hHeld := hNew; clear hNew; try simp only [Act.put, pB, pC, pD]
          refine wpAnyH_ready (rs := [5]) (by kernel_rfl) (by simp) ?_; refine AllReadyH.cons rfl (fun K hK => ?_) AllReadyH.nil
          · go_simp
            refine (tof_err (spN wh) a i 1 (fun W' _ => tcheck_n2 W' _) (by decide)).mono ?_; rintro e w10 ⟨rfl, hb10⟩; have HB10 := Lib.hid ((HB9.out).trans (hb10.mono (HB9.out).size)); have ZB10 := Lib.hid (ZB9.out.next hb10 ZB9.out.lt); clear hb10
            try (go_wp2_with fail)
            refine hK.out _ _ ?_ (fun hNew => ?_)
            · exact ⟨(HB10.out.cell (p := ⟨cb, 2, none⟩) hcb).trans x2, (HB10.out.cell (p := ⟨sb, 0, none⟩) hsb).trans s0, (HB10.out.cell (p := ⟨sb, 1, none⟩) hsb).trans s1⟩
            clear hK K hHeld; have hHeld := hNew; clear hNew; try simp only [Act.put, pB, pC, pD]
            refine tk (v := ?_) 6 rfl (by kernel_rfl) (fun _ _ _ h => h) ?_ hHeld ?_; rotate_left
            · (intro w h; (try dsimp only at h); go_simp; try with_reducible rfl)
            try simp only [Act.put, pB, pC, pD]
            refine tk (v := ?_) 7 rfl (by kernel_rfl) (fun _ _ _ h => h) ?_ hHeld ?_; rotate_left
            · (intro w h; (try dsimp only at h); go_simp; try with_reducible rfl)
            try simp only [Act.put, pB, pC, pD]
            refine tk (v := ?_) 8 rfl (by kernel_rfl) (fun _ _ _ h => h) ?_ hHeld ?_; rotate_left
            · (intro w h; (try dsimp only at h); go_simp; try with_reducible rfl)
            try simp only [Act.put, pB, pC, pD]
            have z0 := ZB10.out.cell 0; have z1 := ZB10.out.cell 1; have z2 := ZB10.out.cell 2; have f0 := ZB10.out.frozen 0; have f1 := ZB10.out.frozen 1; have f2 := ZB10.out.frozen 2; simp only [qB, qC, qD] at z0 z1 z2; have hg3 := set3 w10 W7.heap.size (.slice none 0 0) (.slice none 0 0) (.slice none 0 0); have HBS := Lib.hid ((HB10.out).grown hg3 (HB10.out).size (fun r e => by injection e with e; subst e; exact HGE.out)); clear hg3; refine wpAnyH_ready (rs := [10]) (by kernel_rfl) (by simp) ?_; refine AllReadyH.cons rfl (fun K hK => ?_) AllReadyH.nil; go_simp
            refine hK.out _ _ ?_ (fun hNew => ?_)
            · exact ⟨(HBS.out.cell (p := ⟨cb, 2, none⟩) hcb).trans x2, (HBS.out.cell (p := ⟨sb, 0, none⟩) hsb).trans s0, (HBS.out.cell (p := ⟨sb, 1, none⟩) hsb).trans s1⟩
            clear hK K hHeld; have hHeld := hNew; clear hNew; try simp only [Act.put, pB, pC, pD]
            refine tk (v := ?_) 11 rfl (by kernel_rfl) (fun _ _ _ h => h) ?_ hHeld ?_; rotate_left
            · (intro w h; (try dsimp only at h); go_simp; try with_reducible rfl)
            try simp only [Act.put, pB, pC, pD]
            refine wpAnyH_done (by kernel_rfl) ?_ _; clear hHeld
            try simp only [List.getElem_toArray, List.getElem_cons_zero, List.getElem_cons_succ, Act.put, pB, pC, pD]
            refine NoPanic.normal ?_
            go_wp2_with fail
            go_meet
            case rel => exact ⟨_, 1, rfl, rfl, rfl, HBS.out⟩
    case rest =>
      obtain ⟨b7, er, rfl, rfl, rfl, hbx⟩ := hcut; have HBX := Lib.hid hbx; clear hbx; replace HBW := Lib.hid (HBW.out.trans (HBX.out.mono (by have := HBW.out.size; have := HSB.out; omega))); replace HX := Lib.hid (HX.out.next HBX.out); replace HG := Lib.hid (HG.out.next HBX.out); replace HAC := Lib.hid (RdAc.next HAC.out HBX.out); replace HGO := Lib.hid (HGO.out.next HBX.out); replace ZSW := Lib.hid (ZSW.out.next HBX.out hsb); replace ZC := Lib.hid (ZC.out.next HBX.out hcb); replace hcb := ZC.out.lt; replace hsb := ZSW.out.lt; replace s0 := ZSW.out.cell 0; replace s1 := ZSW.out.cell 1; replace x0 := ZC.out.cell 0; replace x1 := ZC.out.cell 1; replace x2 := ZC.out.cell 2; replace x3 := ZC.out.cell 3; simp only [qB, qC, qD] at s0 s1 x0 x1 x2 x3; clear HBX; generalize wc = W8 at *
      go_upto_region 8 with (fail)
      refine wp_region_noPanic ?_
      refine wp_region_held_drew (S := (fun (w' : World) => w'.cell? ⟨cb, 3, none⟩ = some (.pointer (some ⟨gg, 0, none⟩)) ∧ w'.cell? ⟨sb, 0, none⟩ = some (.int .u8 wh) ∧ w'.cell? ⟨sb, 1, none⟩ = some (.int .i64 a))) (by kernel_rfl) ?_ (fun hHeld => ?_)
      · exact ⟨x3, s0, s1⟩
      refine tk (v := ?_) 0 rfl (by kernel_rfl) (fun _ _ _ h => h) ?_ hHeld ?_; rotate_left
      · (intro w h; (try dsimp only at h); go_simp; try with_reducible rfl)
      try simp only [Act.put, pB, pC, pD]
      refine tk (v := ?_) 1 rfl (by kernel_rfl) (fun _ _ _ h => h) ?_ hHeld ?_; rotate_left
      · (intro w h; (try dsimp only at h); go_simp; try with_reducible rfl)
      try simp only [Act.put, pB, pC, pD]
      refine tk (v := ?_) 2 rfl (by kernel_rfl) (fun _ _ _ h => h) ?_ hHeld ?_; rotate_left
      · (intro w h; (try dsimp only at h); go_simp; try with_reducible rfl)
      try simp only [Act.put, pB, pC, pD]
      refine tk (v := ?_) 4 rfl (by kernel_rfl) (fun _ _ _ h => h) ?_ hHeld ?_; rotate_left
      · (intro w h; (try dsimp only at h); go_simp; try with_reducible rfl)
      try simp only [Act.put, pB, pC, pD]
      refine wpAnyH_ready (rs := [3]) (by kernel_rfl) (by simp) ?_; refine AllReadyH.cons rfl (fun K hK => ?_) AllReadyH.nil; go_simp; refine (place_is (W8.drew) wh a hw0 hw1).mono ?_; rintro e w21 ⟨rfl, hb21'⟩; have hbq := ((Below.refl W8.heap.size W8).drew).trans (hb21'.mono ((Below.refl W8.heap.size W8).drew).size); have HBQ := Lib.hid hbq; clear hb21'
      try (go_wp2_with fail)
      refine hK.out _ _ ?_ (fun hNew => ?_)
      · exact ⟨(hbq.cell (p := ⟨cb, 3, none⟩) hcb).trans x3, (hbq.cell (p := ⟨sb, 0, none⟩) hsb).trans s0, (hbq.cell (p := ⟨sb, 1, none⟩) hsb).trans s1⟩
      clear hK K hHeld; have hHeld := hNew; clear hNew; try simp only [Act.put, pB, pC, pD]
      refine wpAnyH_ready (rs := [5]) (by kernel_rfl) (by simp) ?_; refine AllReadyH.cons rfl (fun K hK => ?_) AllReadyH.nil; go_simp; refine (tchain_err (spN wh) 0 a i 1 (fun W' _ => tcheck_n1 W' _) (by decide)).mono ?_; rintro e w22 ⟨rfl, hb22'⟩; have hbr := HBQ.out.trans (hb22'.mono HBQ.out.size); have HBR := Lib.hid hbr; clear hb22'
      try (go_wp2_with fail)
      refine hK.out _ _ ?_ (fun hNew => ?_)
      · exact ⟨(hbr.cell (p := ⟨cb, 3, none⟩) hcb).trans x3, (hbr.cell (p := ⟨sb, 0, none⟩) hsb).trans s0, (hbr.cell (p := ⟨sb, 1, none⟩) hsb).trans s1⟩
      clear hK K hHeld; have hHeld := hNew; clear hNew; try simp only [Act.put, pB, pC, pD]
      refine tk (v := ?_) 6 rfl (by kernel_rfl) (fun _ _ _ h => h) ?_ hHeld ?_; rotate_left
      · (intro w h; (try dsimp only at h); go_simp; try with_reducible rfl)
      try simp only [Act.put, pB, pC, pD]
      refine tk (v := ?_) 7 rfl (by kernel_rfl) (fun _ _ _ h => h) ?_ hHeld ?_; rotate_left
      · (intro w h; (try dsimp only at h); go_simp; try with_reducible rfl)
      try simp only [Act.put, pB, pC, pD]
      refine tk (v := ?_) 8 rfl (by kernel_rfl) (fun _ _ _ h => h) ?_ hHeld ?_; rotate_left
      · (intro w h; (try dsimp only at h); go_simp; try with_reducible rfl)
      try simp only [Act.put, pB, pC, pD]
      refine tk (v := ?_) 9 rfl (by kernel_rfl) (fun _ _ _ h => h) ?_ hHeld ?_; rotate_left
      · (intro w h; (try dsimp only at h); go_simp; try with_reducible rfl)
      try simp only [Act.put, pB, pC, pD]
      refine tk (v := ?_) 10 rfl (by kernel_rfl) (fun _ _ _ h => h) ?_ hHeld ?_; rotate_left
      · (intro w h; (try dsimp only at h); go_simp; try with_reducible rfl)
      try simp only [Act.put, pB, pC, pD]
      refine wpAnyH_done (by kernel_rfl) ?_ _; clear hHeld
      try simp only [List.getElem_toArray, List.getElem_cons_zero, List.getElem_cons_succ, Act.put, pB, pC, pD]
      refine NoPanic.normal ?_
      replace HBW := Lib.hid (HBW.out.trans (HBR.out.mono (by have := HBW.out.size; have := HSB.out; omega))); replace HX := Lib.hid (HX.out.next HBR.out); replace HG := Lib.hid (HG.out.next HBR.out); replace HAC := Lib.hid (RdAc.next HAC.out HBR.out); replace HGO := Lib.hid (HGO.out.next HBR.out); replace ZSW := Lib.hid (ZSW.out.next HBR.out hsb); replace ZC := Lib.hid (ZC.out.next HBR.out hcb); replace hcb := ZC.out.lt; replace hsb := ZSW.out.lt; replace s0 := ZSW.out.cell 0; replace s1 := ZSW.out.cell 1; replace x0 := ZC.out.cell 0; replace x1 := ZC.out.cell 1; replace x2 := ZC.out.cell 2; replace x3 := ZC.out.cell 3; simp only [qB, qC, qD] at s0 s1 x0 x1 x2 x3; clear HBR HBQ; generalize w22 = W9 at *
      go_wp2_with fail
      go_at_call 25; refine (tmarks_err i 1 (fun W' _ => tcheck_n2 W' _) (by decide)).mono ?_; rintro e w23 ⟨rfl, hb23⟩; have HB23 := Lib.hid hb23; clear hb23; replace HBW := Lib.hid (HBW.out.trans (HB23.out.mono (by have := HBW.out.size; have := HSB.out; omega))); replace HX := Lib.hid (HX.out.next HB23.out); replace HG := Lib.hid (HG.out.next HB23.out); replace HAC := Lib.hid (RdAc.next HAC.out HB23.out); replace HGO := Lib.hid (HGO.out.next HB23.out); replace ZSW := Lib.hid (ZSW.out.next HB23.out hsb); replace ZC := Lib.hid (ZC.out.next HB23.out hcb); replace hcb := ZC.out.lt; replace hsb := ZSW.out.lt; replace s0 := ZSW.out.cell 0; replace s1 := ZSW.out.cell 1; replace x0 := ZC.out.cell 0; replace x1 := ZC.out.cell 1; replace x2 := ZC.out.cell 2; replace x3 := ZC.out.cell 3; simp only [qB, qC, qD] at s0 s1 x0 x1 x2 x3; clear HB23; generalize w23 = W10 at *
      go_wp2_with fail
      go_at_call 25; refine (tmarks_err i 1 (fun W' _ => tcheck_n1 W' _) (by decide)).mono ?_; rintro e w24 ⟨rfl, hb24⟩; have HB24 := Lib.hid hb24; clear hb24; replace HBW := Lib.hid (HBW.out.trans (HB24.out.mono (by have := HBW.out.size; have := HSB.out; omega))); replace HX := Lib.hid (HX.out.next HB24.out); replace HG := Lib.hid (HG.out.next HB24.out); replace HAC := Lib.hid (RdAc.next HAC.out HB24.out); replace HGO := Lib.hid (HGO.out.next HB24.out); replace ZSW := Lib.hid (ZSW.out.next HB24.out hsb); replace ZC := Lib.hid (ZC.out.next HB24.out hcb); replace hcb := ZC.out.lt; replace hsb := ZSW.out.lt; replace s0 := ZSW.out.cell 0; replace s1 := ZSW.out.cell 1; replace x0 := ZC.out.cell 0; replace x1 := ZC.out.cell 1; replace x2 := ZC.out.cell 2; replace x3 := ZC.out.cell 3; simp only [qB, qC, qD] at s0 s1 x0 x1 x2 x3; clear HB24; generalize w24 = W11 at *
      go_upto_region 11 with (fail)
      go_cut [23, 24] (fun v23 v24 wx => cutE (fun er => L.length ≠ 1 → er = 10) W11 v23 v24 wx)
      case first =>
        refine wp_region_noPanic ?_
        refine wp_region_held_drew (S := (fun (w' : World) => w'.cell? ⟨cb, 2, none⟩ = some (.pointer (some ⟨gx, 0, none⟩)) ∧ w'.cell? ⟨sb, 0, none⟩ = some (.int .u8 wh) ∧ w'.cell? ⟨sb, 1, none⟩ = some (.int .i64 a))) (by kernel_rfl) ?_ (fun hHeld => ?_)
        · exact ⟨x2, s0, s1⟩
        refine tk (v := ?_) 0 rfl (by kernel_rfl) (fun _ _ _ h => h) ?_ hHeld ?_; rotate_left
        · (intro w h; (try dsimp only at h); go_simp; try with_reducible rfl)
        try simp only [Act.put, pB, pC, pD]
        refine tk (v := ?_) 1 rfl (by kernel_rfl) (fun _ _ _ h => h) ?_ hHeld ?_; rotate_left
        · (intro w h; (try dsimp only at h); go_simp; try with_reducible rfl)
        try simp only [Act.put, pB, pC, pD]
        refine tk (v := ?_) 2 rfl (by kernel_rfl) (fun _ _ _ h => h) ?_ hHeld ?_; rotate_left
        · (intro w h; (try dsimp only at h); go_simp; try with_reducible rfl)
        try simp only [Act.put, pB, pC, pD]
        refine tk (v := ?_) 3 rfl (by kernel_rfl) (fun _ _ _ h => h) ?_ hHeld ?_; rotate_left
        · (intro w h; (try dsimp only at h); go_simp; try with_reducible rfl)
        try simp only [Act.put, pB, pC, pD]
        refine tk (v := ?_) 5 rfl (by kernel_rfl) (fun _ _ _ h => h) ?_ hHeld ?_; rotate_left
        · (intro w h; (try dsimp only at h); go_simp; try with_reducible rfl)
        try simp only [Act.put, pB, pC, pD]
        refine wpAnyH_ready (rs := [4, 10]) (by kernel_rfl) (by simp) ?_
        refine AllReadyH.cons rfl (fun K hK => ?_) (AllReadyH.cons rfl (fun K hK => ?_) AllReadyH.nil)
        · go_simp
          refine (place_is (W11.drew) wh a hw0 hw1).mono ?_; rintro e w9 ⟨rfl, hb9'⟩; have HB9 := Lib.hid (((Below.refl W11.heap.size W11).drew).trans (hb9'.mono ((Below.refl W11.heap.size W11).drew).size)); clear hb9'
          try (go_wp2_with fail)
          refine hK.out _ _ ?_ (fun hNew => ?_)
          · exact ⟨(HB9.out.cell (p := ⟨cb, 2, none⟩) hcb).trans x2, (HB9.out.cell (p := ⟨sb, 0, none⟩) hsb).trans s0, (HB9.out.cell (p := ⟨sb, 1, none⟩) hsb).trans s1⟩
          clear hK K hHeld; have hHeld := hNew; clear hNew; try simp only [Act.put, pB, pC, pD]
          refine wpAnyH_ready (rs := [6, 10]) (by kernel_rfl) (by simp) ?_
          refine AllReadyH.cons rfl (fun K hK => ?_) (AllReadyH.cons rfl (fun K hK => ?_) AllReadyH.nil)
          · go_simp
            refine (tof_o (n := spN wh) a i (HX.out.next HB9.out) (HGO.out.next HB9.out) hnn HVO.out H5.out).mono ?_; rintro e w10 ⟨A1, n1, c1, A2, n2, c2, A3, n3, c3, er, rfl, hsp, hb10⟩; have HB10 := Lib.hid ((HB9.out).trans (hb10.mono (HB9.out).size)); have HSP := Lib.hid hsp; clear hb10 hsp
            try (go_wp2_with fail)
            refine hK.out _ _ ?_ (fun hNew => ?_)
            · exact ⟨(HB10.out.cell (p := ⟨cb, 2, none⟩) hcb).trans x2, (HB10.out.cell (p := ⟨sb, 0, none⟩) hsb).trans s0, (HB10.out.cell (p := ⟨sb, 1, none⟩) hsb).trans s1⟩
            clear hK K hHeld; have hHeld := hNew; clear hNew; try simp only [Act.put, pB, pC, pD]
            refine tk (v := ?_) 7 rfl (by kernel_rfl) (fun _ _ _ h => h) ?_ hHeld ?_; rotate_left
            · (intro w h; (try dsimp only at h); go_simp; try with_reducible rfl)
            try simp only [Act.put, pB, pC, pD]
            refine tk (v := ?_) 8 rfl (by kernel_rfl) (fun _ _ _ h => h) ?_ hHeld ?_; rotate_left
            · (intro w h; (try dsimp only at h); go_simp; try with_reducible rfl)
            try simp only [Act.put, pB, pC, pD]
            refine tk (v := ?_) 9 rfl (by kernel_rfl) (fun _ _ _ h => h) ?_ hHeld ?_; rotate_left
            · (intro w h; (try dsimp only at h); go_simp; try with_reducible rfl)
            try simp only [Act.put, pB, pC, pD]
            refine wpAnyH_ready (rs := [10]) (by kernel_rfl) (by simp) ?_; refine AllReadyH.cons rfl (fun K hK => ?_) AllReadyH.nil
            · go_simp
              have HBA : Hid (Below W11.heap.size W11 (w10.alloc (.cells #[.slice none 0 0, .slice none 0 0, .slice none 0 0] 36))) := Lib.hid ((HB10.out).alloc (HB10.out).size (.cells #[.slice none 0 0, .slice none 0 0, .slice none 0 0] 36)); have ZBA : Hid (Blk (w10.alloc (.cells #[.slice none 0 0, .slice none 0 0, .slice none 0 0] 36)) w10.heap.size 36 #[.slice none 0 0, .slice none 0 0, .slice none 0 0]) := Lib.hid (Blk.new w10 36 #[.slice none 0 0, .slice none 0 0, .slice none 0 0]); have HGE := Lib.hid (show W11.heap.size ≤ w10.heap.size from (HB10.out).size)
              refine hK.out _ _ ?_ (fun hNew => ?_)
              · exact ⟨(HBA.out.cell (p := ⟨cb, 2, none⟩) hcb).trans x2, (HBA.out.cell (p := ⟨sb, 0, none⟩) hsb).trans s0, (HBA.out.cell (p := ⟨sb, 1, none⟩) hsb).trans s1⟩
              clear hK K hHeld; have hHeld := hNew; clear hNew; try simp only [Act.put, pB, pC, pD]
              have hal := (Below.refl w10.heap.size w10).alloc (Nat.le_refl _) (.cells #[.slice A1 n1 c1, .slice A2 n2 c2, .slice A3 n3 c3] 36); have HBS := Lib.hid ((HB10.out).trans (hal.mono (HB10.out).size)); clear hal; refine wpAnyH_ready (rs := [11]) (by kernel_rfl) (by simp) ?_; refine AllReadyH.cons rfl (fun K hK => ?_) AllReadyH.nil; go_simp
              refine hK.out _ _ ?_ (fun hNew => ?_)
              · exact ⟨(HBS.out.cell (p := ⟨cb, 2, none⟩) hcb).trans x2, (HBS.out.cell (p := ⟨sb, 0, none⟩) hsb).trans s0, (HBS.out.cell (p := ⟨sb, 1, none⟩) hsb).trans s1⟩
              clear hK K hHeld; have hHeld := hNew; clear hNew; try simp only [Act.put, pB, pC, pD]
              refine tk (v := ?_) 12 rfl (by kernel_rfl) (fun _ _ _ h => h) ?_ hHeld ?_; rotate_left
              · (intro w h; (try dsimp only at h); go_simp; try with_reducible rfl)
              try simp only [Act.put, pB, pC, pD]
              refine wpAnyH_done (by kernel_rfl) ?_ _; clear hHeld
              try simp only [List.getElem_toArray, List.getElem_cons_zero, List.getElem_cons_succ, Act.put, pB, pC, pD]
              refine NoPanic.normal ?_
              go_wp2_with fail
              go_meet
              case rel => exact ⟨_, er, rfl, rfl, HSP.out, HBS.out⟩
          · go_simp
            have HBA : Hid (Below W11.heap.size W11 (w9.alloc (.cells #[.slice none 0 0, .slice none 0 0, .slice none 0 0] 36))) := Lib.hid ((HB9.out).alloc (HB9.out).size (.cells #[.slice none 0 0, .slice none 0 0, .slice none 0 0] 36)); have ZBA : Hid (Blk (w9.alloc (.cells #[.slice none 0 0, .slice none 0 0, .slice none 0 0] 36)) w9.heap.size 36 #[.slice none 0 0, .slice none 0 0, .slice none 0 0]) := Lib.hid (Blk.new w9 36 #[.slice none 0 0, .slice none 0 0, .slice none 0 0]); have HGE := Lib.hid (show W11.heap.size ≤ w9.heap.size from (HB9.out).size)
            refine hK.out _ _ ?_ (fun hNew => ?_)
            · exact ⟨(HBA.out.cell (p := ⟨cb, 2, none⟩) hcb).trans x2, (HBA.out.cell (p := ⟨sb, 0, none⟩) hsb).trans s0, (HBA.out.cell (p := ⟨sb, 1, none⟩) hsb).trans s1⟩
            clear hK K hHeld; have hHeld := hNew; clear hNew; try simp only [Act.put, pB, pC, pD]
            refine wpAnyH_ready (rs := [6]) (by kernel_rfl) (by simp) ?_; refine AllReadyH.cons rfl (fun K hK => ?_) AllReadyH.nil
            · go_simp
              refine (tof_o (n := spN wh) a i (HX.out.next HBA.out) (HGO.out.next HBA.out) hnn HVO.out H5.out).mono ?_; rintro e w10 ⟨A1, n1, c1, A2, n2, c2, A3, n3, c3, er, rfl, hsp, hb10⟩; have HB10 := Lib.hid ((HBA.out).trans (hb10.mono (HBA.out).size)); have HSP := Lib.hid hsp; have ZB10 := Lib.hid (ZBA.out.next hb10 ZBA.out.lt); clear hb10 hsp
              try (go_wp2_with fail)
              refine hK.out _ _ ?_ (fun hNew => ?_)
              · exact ⟨(HB10.out.cell (p := ⟨cb, 2, none⟩) hcb).trans x2, (HB10.out.cell (p := ⟨sb, 0, none⟩) hsb).trans s0, (HB10.out.cell (p := ⟨sb, 1, none⟩) hsb).trans s1⟩
              clear hK K hHeld; have hHeld := hNew; clear hNew; try simp only [Act.put, pB, pC, pD]
              refine tk (v := ?_) 7 rfl (by kernel_rfl) (fun _ _ _ h => h) ?_ hHeld ?_; rotate_left
              · (intro w h; (try dsimp only at h); go_simp; try with_reducible rfl)
              try simp only [Act.put, pB, pC, pD]
              refine tk (v := ?_) 8 rfl (by kernel_rfl) (fun _ _ _ h => h) ?_ hHeld ?_; rotate_left
              · (intro w h; (try dsimp only at h); go_simp; try with_reducible rfl)
              try simp only [Act.put, pB, pC, pD]
              refine tk (v := ?_) 9 rfl (by kernel_rfl) (fun _ _ _ h => h) ?_ hHeld ?_; rotate_left
              · (intro w h; (try dsimp only at h); go_simp; try with_reducible rfl)
              try simp only [Act.put, pB, pC, pD]
              have z0 := ZB10.out.cell 0; have z1 := ZB10.out.cell 1; have z2 := ZB10.out.cell 2; have f0 := ZB10.out.frozen 0; have f1 := ZB10.out.frozen 1; have f2 := ZB10.out.frozen 2; simp only [qB, qC, qD] at z0 z1 z2; have hg3 := set3 w10 w9.heap.size (.slice A1 n1 c1) (.slice A2 n2 c2) (.slice A3 n3 c3); have HBS := Lib.hid ((HB10.out).grown hg3 (HB10.out).size (fun r e => by injection e with e; subst e; exact HGE.out)); clear hg3; refine wpAnyH_ready (rs := [11]) (by kernel_rfl) (by simp) ?_; refine AllReadyH.cons rfl (fun K hK => ?_) AllReadyH.nil; go_simp
              refine hK.out _ _ ?_ (fun hNew => ?_)
              · exact ⟨(HBS.out.cell (p := ⟨cb, 2, none⟩) hcb).trans x2, (HBS.out.cell (p := ⟨sb, 0, none⟩) hsb).trans s0, (HBS.out.cell (p := ⟨sb, 1, none⟩) hsb).trans s1⟩
              clear hK K hHeld; have hHeld := hNew; clear hNew; try simp only [Act.put, pB, pC, pD]
              refine tk (v := ?_) 12 rfl (by kernel_rfl) (fun _ _ _ h => h) ?_ hHeld ?_; rotate_left
              · (intro w h; (try dsimp only at h); go_simp; try with_reducible rfl)
              try simp only [Act.put, pB, pC, pD]
              refine wpAnyH_done (by kernel_rfl) ?_ _; clear hHeld
              try simp only [List.getElem_toArray, List.getElem_cons_zero, List.getElem_cons_succ, Act.put, pB, pC, pD]
              refine NoPanic.normal ?_
              go_wp2_with fail
              go_meet
              case rel => exact ⟨_, er, rfl, rfl, HSP.out, HBS.out⟩
        · go_simp
          have HBA : Hid (Below W11.heap.size W11 (W11.alloc (.cells #[.slice none 0 0, .slice none 0 0, .slice none 0 0] 36)).drew) := Lib.hid (((Below.refl W11.heap.size W11).alloc (Nat.le_refl _) (.cells #[.slice none 0 0, .slice none 0 0, .slice none 0 0] 36)).drew); have ZBA : Hid (Blk (W11.alloc (.cells #[.slice none 0 0, .slice none 0 0, .slice none 0 0] 36)).drew W11.heap.size 36 #[.slice none 0 0, .slice none 0 0, .slice none 0 0]) := Lib.hid (Blk.new W11 36 #[.slice none 0 0, .slice none 0 0, .slice none 0 0]); have HGE := Lib.hid (show W11.heap.size ≤ W11.heap.size from ((Below.refl W11.heap.size W11).drew).size)
          refine hK.out _ _ ?_ (fun hNew => ?_)
          · exact ⟨(HBA.out.cell (p := ⟨cb, 2, none⟩) hcb).trans x2, (HBA.out.cell (p := ⟨sb, 0, none⟩) hsb).trans s0, (HBA.out.cell (p := ⟨sb, 1, none⟩) hsb).trans s1⟩
          clear hK K hHeld; have hHeld := hNew; clear hNew; try simp only [Act.put, pB, pC, pD]
          refine wpAnyH_ready (rs := [4]) (by kernel_rfl) (by simp) ?_; refine AllReadyH.cons rfl (fun K hK => ?_) AllReadyH.nil
          · go_simp
            refine (place_is ((W11.alloc (.cells #[.slice none 0 0, .slice none 0 0, .slice none 0 0] 36)).drew) wh a hw0 hw1).mono ?_; rintro e w9 ⟨rfl, hb9'⟩; have HB9 := Lib.hid ((HBA.out).trans (hb9'.mono (HBA.out).size)); have ZB9 := Lib.hid (ZBA.out.next hb9' ZBA.out.lt); clear hb9'
            try (go_wp2_with fail)
            refine hK.out _ _ ?_ (fun hNew => ?_)
            · exact ⟨(HB9.out.cell (p := ⟨cb, 2, none⟩) hcb).trans x2, (HB9.out.cell (p := ⟨sb, 0, none⟩) hsb).trans s0, (HB9.out.cell (p := ⟨sb, 1, none⟩) hsb).trans s1⟩
            clear hK K hHeld; have hHeld := hNew; clear hNew; try simp only [Act.put, pB, pC, pD]
            refine wpAnyH_ready (rs := [6]) (by kernel_rfl) (by simp) ?_; refine AllReadyH.cons rfl (fun K hK => ?_) AllReadyH.nil
            · go_simp
              refine (tof_o (n := spN wh) a i (HX.out.next HB9.out) (HGO.out.next HB9.out) hnn HVO.out H5.out).mono ?_; rintro e w10 ⟨A1, n1, c1, A2, n2, c2, A3, n3, c3, er, rfl, hsp, hb10⟩; have HB10 := Lib.hid ((HB9.out).trans (hb10.mono (HB9.out).size)); have HSP := Lib.hid hsp; have ZB10 := Lib.hid (ZB9.out.next hb10 ZB9.out.lt); clear hb10 hsp
              try (go_wp2_with fail)
              refine hK.out _ _ ?_ (fun hNew => ?_)
              · exact ⟨(HB10.out.cell (p := ⟨cb, 2, none⟩) hcb).trans x2, (HB10.out.cell (p := ⟨sb, 0, none⟩) hsb).trans s0, (HB10.out.cell (p := ⟨sb, 1, none⟩) hsb).trans s1⟩
              clear hK K hHeld; have hHeld := hNew; clear hNew; try simp only [Act.put, pB, pC, pD]
              refine tk (v := ?_) 7 rfl (by kernel_rfl) (fun _ _ _ h => h) ?_ hHeld ?_; rotate_left
              · (intro w h; (try dsimp only at h); go_simp; try with_reducible rfl)
              try simp only [Act.put, pB, pC, pD]
              refine tk (v := ?_) 8 rfl (by kernel_rfl) (fun _ _ _ h => h) ?_ hHeld ?_; rotate_left
              · (intro w h; (try dsimp only at h); go_simp; try with_reducible rfl)
              try simp only [Act.put, pB, pC, pD]
              refine tk (v := ?_) 9 rfl (by kernel_rfl) (fun _ _ _ h => h) ?_ hHeld ?_; rotate_left
              · (intro w h; (try dsimp only at h); go_simp; try with_reducible rfl)
              try simp only [Act.put, pB, pC, pD]
              have z0 := ZB10.out.cell 0; have z1 := ZB10.out.cell 1; have z2 := ZB10.out.cell 2; have f0 := ZB10.out.frozen 0; have f1 := ZB10.out.frozen 1; have f2 := ZB10.out.frozen 2; simp only [qB, qC, qD] at z0 z1 z2; have hg3 := set3 w10 W11.heap.size (.slice A1 n1 c1) (.slice A2 n2 c2) (.slice A3 n3 c3); have HBS := Lib.hid ((HB10.out).grown hg3 (HB10.out).size (fun r e => by injection e with e; subst e; exact HGE.out)); clear hg3; refine wpAnyH_ready (rs := [11]) (by kernel_rfl) (by simp) ?_; refine AllReadyH.cons rfl (fun K hK => ?_) AllReadyH.nil; go_simp
              refine hK.out _ _ ?_ (fun hNew => ?_)
              · exact ⟨(HBS.out.cell (p := ⟨cb, 2, none⟩) hcb).trans x2, (HBS.out.cell (p := ⟨sb, 0, none⟩) hsb).trans s0, (HBS.out.cell (p := ⟨sb, 1, none⟩) hsb).trans s1⟩
              clear hK K hHeld; have hHeld := hNew; clear hNew; try simp only [Act.put, pB, pC, pD]
              refine tk (v := ?_) 12 rfl (by kernel_rfl) (fun _ _ _ h => h) ?_ hHeld ?_; rotate_left
              · (intro w h; (try dsimp only at h); go_simp; try with_reducible rfl)
              try simp only [Act.put, pB, pC, pD]
              refine wpAnyH_done (by kernel_rfl) ?_ _; clear hHeld
              try simp only [List.getElem_toArray, List.getElem_cons_zero, List.getElem_cons_succ, Act.put, pB, pC, pD]
              refine NoPanic.normal ?_
              go_wp2_with fail
              go_meet
              case rel => exact ⟨_, er, rfl, rfl, HSP.out, HBS.out⟩
      case rest =>
        obtain ⟨b11, e1, rfl, rfl, hsp1, hbx⟩ := hcut; have HBX := Lib.hid hbx; have HSP1 := Lib.hid hsp1; clear hbx hsp1; replace HBW := Lib.hid (HBW.out.trans (HBX.out.mono (by have := HBW.out.size; have := HSB.out; omega))); replace HX := Lib.hid (HX.out.next HBX.out); replace HG := Lib.hid (HG.out.next HBX.out); replace HAC := Lib.hid (RdAc.next HAC.out HBX.out); replace HGO := Lib.hid (HGO.out.next HBX.out); replace ZSW := Lib.hid (ZSW.out.next HBX.out hsb); replace ZC := Lib.hid (ZC.out.next HBX.out hcb); replace hcb := ZC.out.lt; replace hsb := ZSW.out.lt; replace s0 := ZSW.out.cell 0; replace s1 := ZSW.out.cell 1; replace x0 := ZC.out.cell 0; replace x1 := ZC.out.cell 1; replace x2 := ZC.out.cell 2; replace x3 := ZC.out.cell 3; simp only [qB, qC, qD] at s0 s1 x0 x1 x2 x3; clear HBX; generalize wc = W12 at *
        go_wp2_with fail
        go_at_call 25; refine (tmarks_o i HX.out HGO.out HVO.out).mono ?_; rintro e w25 ⟨e2, rfl, hsp2, hb25⟩; have HSP2 := Lib.hid hsp2; have HB25 := Lib.hid hb25; clear hb25 hsp2; replace HBW := Lib.hid (HBW.out.trans (HB25.out.mono (by have := HBW.out.size; have := HSB.out; omega))); replace HX := Lib.hid (HX.out.next HB25.out); replace HG := Lib.hid (HG.out.next HB25.out); replace HAC := Lib.hid (RdAc.next HAC.out HB25.out); replace HGO := Lib.hid (HGO.out.next HB25.out); replace ZSW := Lib.hid (ZSW.out.next HB25.out hsb); replace ZC := Lib.hid (ZC.out.next HB25.out hcb); replace hcb := ZC.out.lt; replace hsb := ZSW.out.lt; replace s0 := ZSW.out.cell 0; replace s1 := ZSW.out.cell 1; replace x0 := ZC.out.cell 0; replace x1 := ZC.out.cell 1; replace x2 := ZC.out.cell 2; replace x3 := ZC.out.cell 3; simp only [qB, qC, qD] at s0 s1 x0 x1 x2 x3; clear HB25; generalize w25 = W13 at *
        go_wp2_with fail
        go_at_call 26
        refine outside_nil.mono ?_
        rintro e w26 ⟨rfl, hb26⟩; have hal := hb26.trans (((Below.refl w26.heap.size w26).alloc (Nat.le_refl _) (.cells #[.slice none 0 0, .slice none 0 0] 88)).mono hb26.size); have HB26 := Lib.hid hal; clear hb26 hal
        go_wp2_with fail
        go_at_call 27
        refine wempty_nil.mono ?_
        rintro e w27 ⟨rfl, hb27⟩; have HB27 := Lib.hid (HB26.out.trans (hb27.mono HB26.out.size)); clear hb27 HB26; replace HBW := Lib.hid (HBW.out.trans (HB27.out.mono (by have := HBW.out.size; have := HSB.out; omega))); replace HX := Lib.hid (HX.out.next HB27.out); replace HG := Lib.hid (HG.out.next HB27.out); replace HAC := Lib.hid (RdAc.next HAC.out HB27.out); replace HGO := Lib.hid (HGO.out.next HB27.out); replace ZSW := Lib.hid (ZSW.out.next HB27.out hsb); replace ZC := Lib.hid (ZC.out.next HB27.out hcb); replace hcb := ZC.out.lt; replace hsb := ZSW.out.lt; replace s0 := ZSW.out.cell 0; replace s1 := ZSW.out.cell 1; replace x0 := ZC.out.cell 0; replace x1 := ZC.out.cell 1; replace x2 := ZC.out.cell 2; replace x3 := ZC.out.cell 3; simp only [qB, qC, qD] at s0 s1 x0 x1 x2 x3; clear HB27; generalize w27 = W14 at *
        by_cases hL : L.length = 1
        · have j1 : decide ((L.length : Int) = 1) = true := decide_eq_true (by omega)
          have j2 : ((L.length : Int) == 1) = true := by rw [beq_iff_eq]; omega
          have j3 : (L.length : Int) = 1 := by omega
          have HLL1 := Lib.hid hL; clear hL
          go_wp2_with fail
          go_ret
          exact ⟨rfl, by rw [HSB.out]; exact HBW.out⟩
        · have j1 : decide ((L.length : Int) = 1) = false := decide_eq_false (by omega)
          have j2 : ((L.length : Int) == 1) = false := by rw [beq_eq_false_iff_ne]; omega
          have j3 : ¬ (L.length : Int) = 1 := by omega
          have e10 := HSP1.out hL; have e20 := HSP2.out hL; subst e10 e20; clear hL
          go_wp2_with fail
          go_ret
          exact ⟨rfl, by rw [HSB.out]; exact HBW.out⟩
end Go.Proofs.YtamjllakfgphnaaGreatDoor
namespace Go.Proofs.YtamjllakfgphnaaGreatDoor
open Go.RowKit Go.Deep
instance : Inhabited A54 := ⟨⟨0, 0, 0, 0, [], false⟩⟩
section
variable {H : Type} {enc : TypeId × Value → H} {P : Program} {w : World} {base : Nat} {spare : Nat → Bool} {held : Bool}
theorem drop_one {α : Type} {cs : List α} {i : Nat} {u : α} (h : cs[i]? = some u) : (cs.drop i).take 1 = [u] := by
  obtain ⟨hi, rfl⟩ := List.getElem?_eq_some_iff.1 h; rw [List.drop_eq_getElem_cons hi]; rfl
theorem field_get {t : TypeId} {fs : Array Field} {n : Nat} {cs : List Value} {y : DataW H × List MemPlace} (ht : P.underlying t = some (.struct fs)) (h : DataW.trod enc P w base spare held n t cs = some y)
    (i : Nat) (f : Field) (hf : fs[i]? = some f) (h1 : P.cellsOf f.type = 1) (ho : f.offset = i) (u : Value) (hu : cs[i]? = some u) : ∃ m x, DataW.trod enc P w base spare held m f.type [u] = some x := by
  obtain ⟨xs, m, _, _, _, hl, hall⟩ := DataW.trod_struct ht h; have h2 := hall i f hf; rw [h1, ho, drop_one hu] at h2
  have hi : i < xs.length := by rw [hl]; exact (Array.getElem?_eq_some_iff.1 hf).1
  rw [List.getElem?_eq_getElem hi] at h2
  exact ⟨m, _, h2⟩
end
theorem list6 {α : Type} {cs : List α} (h : cs.length = 6) : ∃ a b c d e f, cs = [a, b, c, d, e, f] := by
  match cs, h with
  | [a, b, c, d, e, f], _ => exact ⟨a, b, c, d, e, f, rfl⟩
theorem c1_str : Tryz.prog.cellsOf 9 = 1 := by kernel_rfl
theorem c1_bool : Tryz.prog.cellsOf 4 = 1 := by kernel_rfl
theorem c1_u8 : Tryz.prog.cellsOf 5 = 1 := by kernel_rfl
theorem c1_int : Tryz.prog.cellsOf 3 = 1 := by kernel_rfl
theorem c6_act : Tryz.prog.cellsOf 93 = 6 := by kernel_rfl
theorem c2_spot : Tryz.prog.cellsOf 43 = 2 := by kernel_rfl
theorem rowC_unit {α : Type} (f : α → List Value) : ∀ (l : List α) (us : List Unit), us.length = l.length → rowC (fun x _ => f x) l us = l.flatMap f
  | [], [], _ => rfl
  | x :: l, u :: us, h => by
    simp only [rowC, List.flatMap_cons]
    rw [rowC_unit f l us (by simpa using h)]
  | [], _ :: _, h => by simp at h
  | _ :: _, [], h => by simp at h
section
variable {H : Type} {enc : TypeId × Value → H} {w : World} {base : Nat} {spare : Nat → Bool} {held : Bool}
theorem open_str {n : Nat} {u : Value} {x : DataW H × List MemPlace} (h : DataW.trod enc Tryz.prog w base spare held n 9 [u] = some x) : ∃ t : Bs, u = .string (bs t) := by
  obtain ⟨s, h1, _, h2⟩ := DataW.trod_string Tryz.underlying9 h
  injection h1 with h1
  exact ⟨s.data.toList, by rw [bs_of]; exact h1⟩
theorem open_boo {n : Nat} {u : Value} {x : DataW H × List MemPlace} (h : DataW.trod enc Tryz.prog w base spare held n 4 [u] = some x) : ∃ b : Bool, u = .bool b := by
  obtain ⟨b, h1, _⟩ := DataW.trod_bool Tryz.underlying4 h
  injection h1 with h1
  exact ⟨b, h1⟩
theorem open_in {n : Nat} {u : Value} {x : DataW H × List MemPlace} (h : DataW.trod enc Tryz.prog w base spare held n 3 [u] = some x) : ∃ k : Int, u = .int .i64 k := by
  obtain ⟨k, h1, _, h2⟩ := DataW.trod_int Tryz.underlying3 h
  injection h1 with h1
  exact ⟨k, h1⟩
theorem open_u8 {n : Nat} {u : Value} {x : DataW H × List MemPlace} (h : DataW.trod enc Tryz.prog w base spare held n 5 [u] = some x) : ∃ k : Int, u = .int .u8 k ∧ 0 ≤ k ∧ k < 256 := by
  obtain ⟨k, h1, _, h2⟩ := DataW.trod_int Tryz.underlying5 h
  injection h1 with h1
  simp only [Lit.wf, Bool.and_eq_true, decide_eq_true_eq] at h2
  have e1 : IntKind.min .u8 = 0 := by decide
  have e2 : IntKind.max .u8 = 255 := by decide
  rw [e1, e2] at h2
  exact ⟨k, h1, h2.1, by omega⟩
theorem open_A54 {n : Nat} {cs : List Value} {y : DataW H × List MemPlace} (h : DataW.trod enc Tryz.prog w base spare held n 93 cs = some y) (hl : cs.length = 6) : ∃ (t : A54) (u : Unit), cs = a54C t ∧ A54R t := by
  obtain ⟨a, b, c, d, e, f, rfl⟩ := list6 hl; obtain ⟨_, _, f0⟩ := field_get Tryz.underlying93 h 0 _ rfl c1_u8 rfl a rfl; obtain ⟨_, _, f1⟩ := field_get Tryz.underlying93 h 1 _ rfl c1_u8 rfl b rfl; obtain ⟨_, _, f2⟩ := field_get Tryz.underlying93 h 2 _ rfl c1_u8 rfl c rfl; obtain ⟨_, _, f3⟩ := field_get Tryz.underlying93 h 3 _ rfl c1_u8 rfl d rfl; obtain ⟨_, _, f4⟩ := field_get Tryz.underlying93 h 4 _ rfl c1_str rfl e rfl; obtain ⟨_, _, f5⟩ := field_get Tryz.underlying93 h 5 _ rfl c1_bool rfl f rfl; obtain ⟨k0, rfl, h0, h0'⟩ := open_u8 f0; obtain ⟨k1, rfl, h1, h1'⟩ := open_u8 f1; obtain ⟨k2, rfl, h2, h2'⟩ := open_u8 f2; obtain ⟨k3, rfl, h3, h3'⟩ := open_u8 f3; obtain ⟨t, rfl⟩ := open_str f4; obtain ⟨z, rfl⟩ := open_boo f5
  exact ⟨⟨k0, k1, k2, k3, t, z⟩, (), rfl, h0, h1, h2, h3, h0', h1'⟩
theorem open_A54s {n : Nat} {v : Value} {y : DataW H × List MemPlace} (h : DataW.trod enc Tryz.prog w base spare held n 41 [v] = some y) : ∃ l : List A54, A54At w.heap.size w v l := by
  obtain ⟨l, us, h1, h2⟩ : ∃ l : List A54, RowRa (fun t (_ : Unit) => a54C t) (fun _ _ t => A54R t) w.heap.size w v l :=
    open_row (fun t _ => a54C_len t) (by omega) Tryz.underlying41 c6_act (fun n cs y h hl => open_A54 h hl) h
  rw [rowC_unit a54C l us h1.1] at h2
  refine ⟨l, h2, fun t ht => ?_⟩
  obtain ⟨i, hi, rfl⟩ := List.getElem_of_mem ht
  have hiv : i < us.length := by rw [h1.1]; exact hi
  exact h1.2 i _ _ (List.getElem?_eq_getElem hi) (List.getElem?_eq_getElem hiv)
set_option maxRecDepth 100000 in
theorem open_acts {r : Reach} {b0 : Nat} {v : Value} {d : DataW H} {p : List MemPlace} (hv : Value.okWide Tryz.prog w r b0 41 v) (h : DataW.Trod enc Tryz.prog w base spare held 41 v d p) : ∃ l : List A54, A54At w.heap.size w v l := by
  obtain ⟨a, len, cap, rfl⟩ := Go.WideShapes.okWide_slice Tryz.underlying41 hv; obtain ⟨n, hf⟩ := h
  exact open_A54s (by simpa [Value.cells] using hf)
set_option maxRecDepth 100000 in
theorem open_Spot {r : Reach} {b0 : Nat} {v : Value} {d : DataW H} {p : List MemPlace} (hv : Value.okWide Tryz.prog w r b0 43 v) (h : DataW.Trod enc Tryz.prog w base spare held 43 v d p) : ∃ (wh a : Int), v = .agg #[.int .u8 wh, .int .i64 a] ∧ 0 ≤ wh ∧ wh < 256 := by
  obtain ⟨cs, rfl, hsz⟩ := Go.WideShapes.okWide_struct Tryz.underlying43 hv; obtain ⟨c0, c1, rfl⟩ := Go.Joins.array2 (hsz.trans c2_spot); obtain ⟨n, hf⟩ := h
  have hf' : DataW.trod enc Tryz.prog w base spare held n 43 [c0, c1] = some (d, p) := by simpa [Value.cells] using hf
  obtain ⟨_, _, f0⟩ := field_get Tryz.underlying43 hf' 0 _ rfl c1_u8 rfl c0 rfl; obtain ⟨_, _, f1⟩ := field_get Tryz.underlying43 hf' 1 _ rfl c1_int rfl c1 rfl; obtain ⟨k, rfl, h1, h2⟩ := open_u8 f0; obtain ⟨a, rfl⟩ := open_in f1
  exact ⟨k, a, rfl, h1, h2⟩
end
end Go.Proofs.YtamjllakfgphnaaGreatDoor
