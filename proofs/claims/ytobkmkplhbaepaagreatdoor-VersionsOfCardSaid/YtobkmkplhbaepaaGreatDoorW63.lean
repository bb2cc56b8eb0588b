/- Walks of layer 46: Versions.Names. -/
import Derived.Test.YtobkmkplhbaepaaGreatDoorW61
import Derived.Test.YtobkmkplhbaepaaGreatDoorW62
import Derived.Test.YtobkmkplhbaepaaGreatDoorW57
import Derived.Test.YtobkmkplhbaepaaGreatDoorGQ
namespace Go.Proofs.YtobkmkplhbaepaaGreatDoor
open Go.RowKit Go.MapKept Go.ChangeMaps
set_option linter.unusedSimpArgs false
set_option linter.unusedVariables false
attribute [local go_sem ↓] Go.wp_at_zero Go.wp_at_succ
def hasF (s0 : St) (l : List Ac) (n : Nm) : Bool := decide (1 < (verL s0 l n).length) || !(ver0 s0 n).absent
theorem filt_strict' (F : Nm → Bool) : Strict cmpN (objs.filter F) := List.Pairwise.sublist List.filter_sublist objs_strict
theorem look_names {n : Nm} (hn : IsOb n) : ∀ {s : St}, (∀ p ∈ s, IsOb p.1) → (n ∈ s.map Prod.fst ↔ (look cmpN n s).isNone = false)
  | [], _ => by simp [look]
  | p :: s, h => by
    have ih := look_names hn (s := s) fun q hq => h q (List.mem_cons_of_mem _ hq)
    rw [look_c hn (h p (List.mem_cons_self ..)), List.map_cons, List.mem_cons]
    by_cases e : n = p.1
    · rw [if_pos e]; simp [e]
    · rw [if_neg e, ← ih]; simp [e]
theorem vers_in {n : Nm} : ∀ {l : List Ac} {i : Nat}, (∀ a ∈ l, okAc a = true) → vers n i l ≠ [] → IsOb n
  | [], _, _, h => absurd rfl h
  | a :: l, i, ho, h => by
    unfold vers at h
    by_cases e : (a.writes.filter fun c => c.name == n) = []
    · rw [e, List.map_nil, List.nil_append] at h
      exact vers_in (fun b hb => ho b (List.mem_cons_of_mem _ hb)) h
    · obtain ⟨c, hc⟩ := List.exists_mem_of_ne_nil _ e
      obtain ⟨h1, h2⟩ := List.mem_filter.1 hc
      have h3 := (ord_ob (ok_ch (ho a (List.mem_cons_self ..))).2 c h1).1
      rw [beq_iff_eq] at h2
      rw [← h2]; exact h3
theorem names_final {s0 : St} {l : List Ac} (h0 : StOk s0) (ho : ∀ a ∈ l, okAc a = true) {L : List Nm} (hL : ∀ n, n ∈ L ↔ vers n 0 l ≠ []) : (∀ a ∈ s0.map Prod.fst ++ L, OwnE a) ∧ sortU cmpN (s0.map Prod.fst ++ L) = objs.filter (hasF s0 l) := by
  have hob : ∀ a ∈ s0.map Prod.fst ++ L, IsOb a := by
    intro a ha
    rcases List.mem_append.1 ha with ha | ha
    · obtain ⟨p, hp, rfl⟩ := List.mem_map.1 ha
      exact h0.2 p hp
    · exact vers_in ho ((hL a).1 ha)
  have how : ∀ a ∈ s0.map Prod.fst ++ L, OwnE a := fun a ha => IsOb.own (hob a ha)
  refine ⟨how, strict_ext ordN (fun a ha => how a ((mem_sortU ordN _ how).1 ha)) (strict_sortU ordN _ how) (filt_strict' _) fun a => ?_⟩
  rw [mem_sortU ordN _ how, List.mem_append, List.mem_filter, hL]
  have hv : (1 < (verL s0 l a).length) ↔ vers a 0 l ≠ [] := by
    unfold verL
    cases vers a 0 l <;> simp
  constructor
  · intro h
    have ha : IsOb a := hob a (List.mem_append.2 (by rw [hL]; exact h))
    refine ⟨ha, ?_⟩
    unfold hasF
    rw [Bool.or_eq_true, decide_eq_true_eq, hv]
    rcases h with h | h
    · right
      have := (look_names ha h0.2).1 h
      show (!(look cmpN a s0).isNone) = true
      rw [this]; rfl
    · exact .inl h
  · rintro ⟨ha, h⟩
    unfold hasF at h
    rw [Bool.or_eq_true, decide_eq_true_eq, hv] at h
    rcases h with h | h
    · exact .inr h
    · left
      refine (look_names ha h0.2).2 ?_
      have h : (!(look cmpN a s0).isNone) = true := h
      simpa using h
def VNmP (s0 : St) (l : List Ac) (w : World) (e : Ending) (w' : World) : Prop := ∃ v, e = .returned v ∧ w'.ownsRow w.heap.size 40 5 v (objs.filter (hasF s0 l)).length ((objs.filter (hasF s0 l)).flatMap nmC) ∧ Below w.heap.size w w'
def NamRel (s0 : St) (ents : List (Nm × Value)) (bw r : Nat) (w : World) (v : Value) (wr : World) : Prop :=
  ∃ seen left, MapIt wr bw r ents left ∧ (seen ++ left.map Prod.fst).Perm (ents.map Prod.fst) ∧ wr.ownsRow w.heap.size 40 5 v (s0.map Prod.fst ++ seen).length ((s0.map Prod.fst ++ seen).flatMap nmC) ∧ Below w.heap.size w wr
set_option maxRecDepth 100000 in
set_option maxHeartbeats 4000000 in
theorem vnames_is {w : World} {F : Nat → Prop} {g : Nat} {s0 : St} {l : List Ac} (hv : VAt w F g s0 l) (ho : VOk l) (hs : StV s0) : Calls Tryz.prog 20 #[.pointer (some ⟨g, 0, none⟩)] w (VNmP s0 l w) := by
  obtain ⟨pb, va, vk, pl, bw, br, iv⟩ := hv
  have x0 : w.cell? ⟨g, 0, none⟩ = some (.pointer pb) := iv.blk.cell 0
  have x4 : w.cell? ⟨g, 4, none⟩ = some (.map (some bw)) := iv.blk.cell 4
  have gl : g < w.heap.size := iv.blk.lt
  obtain ⟨B, rfl⟩ : ∃ B, pb = some ⟨B, 0, none⟩ := by obtain ⟨B, _, _, e, _⟩ := id iv.base; exact ⟨B, e⟩
  have HB := Lib.hid iv.base
  obtain ⟨_, ents, hmw, hpw, hew, hcw⟩ := iv.wr
  have h6 : s0.length ≤ 6 := st_six hs.1
  have hen : ents.length ≤ 6 := by
    have h1 : (ents.map Prod.fst).Nodup := by
      rw [List.Nodup, List.pairwise_map]
      exact hpw.imp fun h => h.1
    have h2 : (ents.map Prod.fst) ⊆ objs := by
      intro n hn
      obtain ⟨p, hp, rfl⟩ := List.mem_map.1 hn
      exact vers_in ho.ok (hew p hp).2
    have := nodup_len h1 h2
    simpa [objs] using this
  have HL : Hid (∀ n, n ∈ ents.map Prod.fst ↔ vers n 0 l ≠ []) := Lib.hid fun n => ⟨fun h => by
      obtain ⟨p, hp, rfl⟩ := List.mem_map.1 h
      exact (hew p hp).2, fun h => by
      obtain ⟨v, hv⟩ := Option.isSome_iff_exists.1 (hcw n h)
      exact List.mem_map.2 ⟨_, look_mem hv, rfl⟩⟩
  have HMW := Lib.hid hmw
  have HVO := Lib.hid ho
  have HSV := Lib.hid hs
  obtain ⟨i0, hi, hz0, hz1, hz2⟩ := info_parts infoNm
  clear iv hmw hpw hew hcw ho hs
  go_enter Tryz.func20, Tryz.ntmps20
  go_upto_region 4 with (first
    | (go_at_call 48; refine (none_is x0).mono ?_; rintro e w' ⟨rfl, rfl⟩)
    | (go_at_call 51; refine (names_st HB.out (by omega)).mono ?_; rintro e w2 ⟨v2, rfl, hown2, hb2⟩; have HO2 := Lib.hid hown2; have HB2 := Lib.hid hb2; replace x4 := (hb2.cell (p := ⟨g, 4, none⟩) gl).trans x4; clear hown2 hb2))
  go_wp2_with (at_range; refine wpList_range_nm _ rfl _ _ rfl Tryz.underlying89 bw ents rfl (HMW.out.next HB2.out) ?_; intro w7 hit7 hb7 hs7; have HIT7 := Lib.hid hit7; have HB7 := Lib.hid hb7; clear hit7 hb7 hs7)
  try go_frame
  have HB07 := Lib.hid (HB2.out.trans (HB7.out.mono HB2.out.size))
  have HRG := Lib.hid HB2.out.size
  obtain ⟨r, hr⟩ : ∃ r, w2.heap.size = r := ⟨_, rfl⟩
  rw [hr] at HIT7 HRG ⊢
  have H0 : Hid (NamRel s0 ents bw r w v2 w7) := Lib.hid ⟨[], ents, HIT7.out, List.Perm.refl _, by
    have := own_next HO2.out HB7.out
    rw [List.append_nil, List.length_map]
    exact this, HB07.out⟩
  clear x0 x4 hr
  go_loopw [3] (fun v wr => NamRel s0 ents bw r w v wr) (fun _ wr => wr.rangeLeft bw r)
  case atStart => exact H0.out
  case round =>
    clear H0
    obtain ⟨seen, left, hit, hpm, hown, hbw⟩ := hrel
    have hsl : seen.length + left.length = ents.length := by
      have := hpm.length_eq
      simpa using this
    have HIT := Lib.hid hit
    have HPM := Lib.hid hpm
    have HBW := Lib.hid hbw
    obtain ⟨L, hL⟩ : ∃ L, s0.map Prod.fst ++ seen = L := ⟨_, rfl⟩
    have hLl : L.length ≤ 12 := by rw [← hL]; simp; omega
    rw [hL] at hown
    have HO := Lib.hid hown
    have HLL := Lib.hid hL
    obtain ⟨A3, c3, rfl, hc3⟩ := own_len hown
    clear hit hpm hown hbw hL
    go_wp2_with (at_next; refine wpList_next_nm _ rfl _ rfl bw r ents left rfl HIT.out ?_ ?_)
    · intro hleft
      obtain ⟨hOw, hSo⟩ := names_final HSV.out.1 HVO.out.ok (L := seen) fun n => by
        rw [← HL.out, ← HPM.out.mem_iff, hleft]; simp
      rw [HLL.out] at hOw hSo
      have HOW := Lib.hid hOw
      have HSO := Lib.hid hSo
      clear hleft hOw hSo
      go_wp2_with (go_at_call 21; refine (sort2_is (show RdNm wr _ L from Rd.of_own HO.out) hLl HOW.out).mono ?_; rintro e w9 ⟨v9, rfl, hown9, hb9⟩; rw [HSO.out] at hown9; have HO9 := Lib.hid hown9; have HB9 := Lib.hid hb9; clear hown9 hb9)
      go_ret
      exact ⟨_, rfl, own_mono HO9.out HBW.out.size, HBW.out.trans (HB9.out.mono HBW.out.size)⟩
    · intro n v left' w8 hpm2 hpe hit8 hg8 hs8 hen8
      have HPM2 := Lib.hid hpm2
      have HIT8 := Lib.hid hit8
      have HS8 := Lib.hid hs8
      have ho8 := HO.out.kept hg8 (.inr (fun e1 => (own_not_it HO.out HIT.out).2 e1.symm))
      have HO8 := Lib.hid ho8
      have HB8 : Hid (Below w.heap.size w w8) := Lib.hid (HBW.out.trans ⟨hg8.os, hg8.tape, hg8.output, hg8.size, fun i hi => hg8.block i (Nat.lt_of_lt_of_le hi HBW.out.size) (fun e1 => by injection e1 with e1; have := HRG.out; omega)⟩)
      simp only [nmV, nmA] at hen8 ⊢
      have hb89 := (Below.refl w8.heap.size w8).alloc (Nat.le_refl _) (.cells #[.int .i64 n.kind, .string (bs n.owner), .int .i64 n.num, .int .i64 n.idx, .string (bs n.text)] 40)
      have HB89 := Lib.hid hb89
      clear hpm2 hpe hit8 hg8 hs8 hb89 ho8
      go_wp2_with (at_builtin; refine wpList_append_w _ rfl _ _ _ rfl w.heap.size 40 i0 _ 5 56 Tryz.underlying36 hi hz0 hz1 hz2 rfl (by omega) (.slice A3 L.length c3) L.length (L.flatMap nmC) rfl (own_next (own_next HO8.out HB89.out) ((Below.refl _ _).alloc (Nat.le_refl _) _)) (.slice (some ⟨w8.heap.size + 1, 0, none⟩) 1 1) 1 [.int .i64 n.kind, .string (bs n.owner), .int .i64 n.num, .int .i64 n.idx, .string (bs n.text)] rfl (by have h := own_new (w8.alloc (.cells #[.int .i64 n.kind, .string (bs n.owner), .int .i64 n.num, .int .i64 n.idx, .string (bs n.text)] 40)) 0 40 5 [.int .i64 n.kind, .string (bs n.owner), .int .i64 n.num, .int .i64 n.idx, .string (bs n.text)] rfl (Nat.zero_le _); rw [World.size_alloc] at h; exact Rd.of_own h) (by omega) rfl (by simp [Value.oneCell']) (by unfold maxLen; omega) (by omega) (by have := HB8.out.size; simp; omega) ?_; intro v5 w10 hown5 hg5 hat5; have HO5 := Lib.hid hown5; have HG5 := Lib.hid hg5; clear hown5 hg5 hat5)
      clear hen8
      have HIT9 := Lib.hid (HIT8.out.next (HB89.out.alloc HB89.out.size (.cells #[.int .i64 n.kind, .string (bs n.owner), .int .i64 n.num, .int .i64 n.idx, .string (bs n.text)] 40)))
      have HO9 := Lib.hid (own_next (own_next HO8.out HB89.out) ((Below.refl _ _).alloc (Nat.le_refl _) (.cells #[.int .i64 n.kind, .string (bs n.owner), .int .i64 n.num, .int .i64 n.idx, .string (bs n.text)] 40)))
      have hne := own_not_it HO9.out HIT9.out
      have HIT10 := Lib.hid (HIT9.out.grown HG5.out hne.1 hne.2)
      have hb5 : Below w.heap.size w8 w10 := below_own ((HB89.out.alloc HB89.out.size (.cells #[.int .i64 n.kind, .string (bs n.owner), .int .i64 n.num, .int .i64 n.idx, .string (bs n.text)] 40)).mono HB8.out.size) HO9.out HG5.out (Nat.le_refl _) (by have := HB8.out.size; simp; omega)
      have HB5 := Lib.hid hb5
      clear hb5 hne
      go_wp2_with fail
      go_roundw
      case rel =>
        refine ⟨seen ++ [n], left', HIT10.out, ?_, ?_, HB8.out.trans HB5.out⟩
        · refine List.Perm.trans ?_ HPM.out
          have h1 : (left.map Prod.fst).Perm (n :: left'.map Prod.fst) := HPM2.out.map Prod.fst
          rw [List.append_assoc]
          exact (List.Perm.append_left seen h1).symm
        · rw [← List.append_assoc, HLL.out, List.flatMap_append, List.length_append]
          exact HO5.out
      case measure =>
        show w10.rangeLeft bw r < wr.rangeLeft bw r
        rw [HIT10.out.size, HIT.out.size, HPM2.out.length_eq]
        simp
end Go.Proofs.YtobkmkplhbaepaaGreatDoor
