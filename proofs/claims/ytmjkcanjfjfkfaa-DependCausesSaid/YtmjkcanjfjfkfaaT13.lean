/- Walks of layer 47: the reference links. -/
import Derived.Test.YtmjkcanjfjfkfaaP5
import Derived.Test.YtmjkcanjfjfkfaaB8
import Derived.Test.YtmjkcanjfjfkfaaT9
namespace Go.Proofs.Ytmjkcanjfjfkfaa
open Go.RowKit
set_option linter.unusedSimpArgs false
set_option linter.unusedVariables false
attribute [local go_sem ↓] Go.wp_at_zero Go.wp_at_succ
theorem hasW_take {l : List Ac} {n : Nm} {k i : Nat} (h : i < k) : hasW (l.take k) n i = hasW l n i := by
  unfold hasW
  rw [List.getElem?_take, if_pos h]
theorem wrB_take (l : List Ac) (n : Nm) {k : Nat} : ∀ m, m ≤ k → wrB (l.take k) n m = wrB l n m
  | 0, _ => rfl
  | m + 1, h => by
    unfold wrB
    rw [hasW_take (by omega), wrB_take l n m (by omega)]
theorem wrI_at {l : List Ac} (h : ∀ a ∈ l, ordCh a.writes = true) (n : Nm) {k : Nat} (hk : k < l.length) : wrI (wls (l.take k) n) (l.take k).length = wrB l n k := by
  rw [wrI_wrB (fun a ha => h a (List.mem_of_mem_take ha)), List.length_take]
  have : (min ((min k l.length : Nat) : Int) ((min k l.length : Nat) : Int)).toNat = k := by omega
  rw [this, wrB_take l n k (Nat.le_refl _)]
theorem flat_le {l : List Ac} (h : ∀ a ∈ l, a.reads.length ≤ 10) : ∀ k, k ≤ l.length → (lnkD (l.take k)).flatten.length ≤ 10 * k
  | 0, _ => by simp [lnkD, lnkF]
  | k + 1, hk => by
    rw [lnkD_take l k (by omega), List.flatten_append, List.length_append]
    have h1 := flat_le h k (by omega)
    have h2 := h l[k] (List.getElem_mem _)
    have h3 : ([lnkA (l.take k) l[k]]).flatten.length ≤ 10 := by simp [lnkA]; exact h2
    omega
def lkLst (l : List Ac) (k : Nat) : List Lk := (lnkD (l.take k)).flatten
def liLst (l : List Ac) (k : Nat) (a : Ac) (m : Nat) : List Lk := lkLst l k ++ (lnkA (l.take k) a).take m
def OwnK (w : World) (base : Nat) (v : Value) (L : List Lk) : Prop := w.ownsRow base 43 7 v L.length (L.flatMap lkC)
def lkRel (w : World) (l : List Ac) (v3 v4 : Value) (wr : World) : Prop := ∃ k : Nat, k ≤ l.length ∧ v4 = .int .i64 (k : Int) ∧ OwnK wr w.heap.size v3 (lkLst l k) ∧ Below w.heap.size w wr
def liRel (w : World) (l : List Ac) (k : Nat) (a : Ac) (v3 v5 : Value) (wr : World) : Prop := ∃ m : Nat, m ≤ a.reads.length ∧ v5 = .int .i64 (m : Int) ∧ OwnK wr w.heap.size v3 (liLst l k a m) ∧ Below w.heap.size w wr
set_option maxRecDepth 100000 in
set_option maxHeartbeats 8000000 in
theorem rlinks_is {w : World} {v : Value} {l : List Ac} (h : RdAc w v l) (hr : ∀ a ∈ l, AcR a) (ho : ∀ a ∈ l, okAc a = true) (hl : l.length ≤ 35) :
    Calls Try.prog 14 #[v] w fun e w' => ∃ v', e = .returned v' ∧ RdLk w' v' (lnkD l).flatten ∧ Below w.heap.size w w' := by
  obtain ⟨A, c, rfl, hc⟩ := RowRd.form h
  have HR := Lib.hid h
  have HRR := Lib.hid hr
  have HO := Lib.hid (fun a (ha : a ∈ l) => show ordCh a.writes = true from by have := ho a ha; unfold okAc at this; rw [Bool.and_eq_true] at this; exact this.2)
  have HFL := Lib.hid (flat_le (l := l) fun a ha => (hr a ha).2.2.2.1)
  have H0 : Hid (lkRel w l (.slice none 0 0) (.int .i64 (0 : Nat)) w) := Lib.hid ⟨0, Nat.zero_le _, rfl, World.ownsRow_nil _ _ _ _, Below.refl _ _⟩
  clear h hr ho
  go_enter Try.func14, Try.ntmps14
  go_wp2_with fail
  go_loopw [3, 4] (fun v3 v4 wr => lkRel w l v3 v4 wr) (fun _ v4 _ => 35 - (intOf v4).toNat)
  case atStart => exact H0.out
  case round =>
    clear H0
    obtain ⟨k, hk, rfl, hown, hB⟩ := hrel
    have HOW := Lib.hid hown
    have HB := Lib.hid hB
    obtain ⟨A3, c3, rfl, _⟩ := own_len hown
    clear hown hB
    by_cases hkl : k < l.length
    · have e1 : decide ((k : Int) < (l.length : Int)) = true := decide_eq_true (by omega)
      have e2 : (0 : Int) ≤ (k : Int) := by omega
      have e3 : (k : Int) < (l.length : Int) := by omega
      obtain ⟨a, hak⟩ : ∃ a, l[k] = a := ⟨_, rfl⟩
      have hra : a.reads.length ≤ 10 := (HRR.out a (by rw [← hak]; exact List.getElem_mem hkl)).2.2.2.1
      have HKL := Lib.hid hkl
      have HAK := Lib.hid hak
      have HNX := Lib.hid (show lkLst l (k + 1) = liLst l k a a.reads.length by
        have h2 : (lnkA (l.take k) a).take a.reads.length = lnkA (l.take k) a := List.take_of_length_le (by unfold lnkA; rw [List.length_map]; exact Nat.le_refl _)
        unfold liLst lkLst
        rw [lnkD_take l k hkl, hak, List.flatten_append, h2]
        simp)
      have H1 : Hid (liRel w l k a (.slice A3 (lkLst l k).length c3) (.int .i64 (0 : Nat)) wr) := Lib.hid ⟨0, Nat.zero_le _, rfl, by unfold liLst; rw [List.take_zero, List.append_nil]; exact HOW.out, HB.out⟩
      clear hak
      go_wp2_with fail
      go_loopw [3, 5] (fun v3 v5 wr => liRel w l k a v3 v5 wr) (fun _ v5 _ => 10 - (intOf v5).toNat)
      case atStart => exact H1.out
      case round =>
        clear H1
        obtain ⟨m, hm, rfl, hown, hB2⟩ := hrel
        obtain ⟨L, hL⟩ : ∃ L, liLst l k a m = L := ⟨_, rfl⟩
        have HLL := Lib.hid hL
        rw [hL] at hown
        have HLN : L.length ≤ 400 := by
          rw [← hL]
          unfold liLst lkLst
          rw [List.length_append, List.length_take]
          have := HFL.out k hk
          omega
        have HOW2 := Lib.hid hown
        have HB2 := Lib.hid hB2
        obtain ⟨A5, c5, rfl, _⟩ := own_len hown
        obtain ⟨xb, xo, u1, u2, rfl, hxb, hw1, _, _, _, _, _, y4, _⟩ := RdAc.piece (HR.out.next HB2.out) HKL.out
        rw [HAK.out] at hw1
        obtain ⟨A2, c2, rfl, hc2⟩ := RdP.form hw1
        have HW1 := Lib.hid hw1
        clear hown hB2 hw1 hL
        by_cases hml : m < a.reads.length
        · have j1 : decide ((m : Int) < (a.reads.length : Int)) = true := decide_eq_true (by omega)
          have j2 : (0 : Int) ≤ (m : Int) := by omega
          have j3 : (m : Int) < (a.reads.length : Int) := by omega
          obtain ⟨cb, co, rfl, hcb, v0, v1, v2, v3, v4, _, _⟩ := RdCh.piece HW1.out hml
          obtain ⟨n, hn⟩ : ∃ n, a.reads[m].name = n := ⟨_, rfl⟩
          obtain ⟨F, hF⟩ : ∃ F, wrB l n k = F := ⟨_, rfl⟩
          have HFE := Lib.hid hF
          have HNS := Lib.hid (show liLst l k a (m + 1) = L ++ [⟨F, k, n⟩] by
            rw [← HLL.out]
            unfold liLst
            rw [lnkA_take hml, hn, wrI_at HO.out n HKL.out, hF, List.append_assoc, List.length_take, Nat.min_eq_left (by omega)])
          rw [hn] at v0 v1 v2 v3 v4
          have hml2 := Lib.hid hml
          have hbt := (Below.refl wr.heap.size wr).alloc (Nat.le_refl _) (.cells #[.int .i64 n.kind, .string (bs n.owner), .int .i64 n.num, .int .i64 n.idx, .string (bs n.text)] 41)
          have PW := Lib.hid (HB2.out.trans (hbt.mono HB2.out.size))
          have ZW := Lib.hid (Blk.new wr 41 #[.int .i64 n.kind, .string (bs n.owner), .int .i64 n.num, .int .i64 n.idx, .string (bs n.text)])
          have HOW3 := Lib.hid (own_next HOW2.out hbt)
          clear hn hF hbt
          go_wp2_with fail
          generalize wr.alloc (.cells #[.int .i64 n.kind, .string (bs n.owner), .int .i64 n.num, .int .i64 n.idx, .string (bs n.text)] 41) = W5 at *
          obtain ⟨tb, htb⟩ : ∃ tb, wr.heap.size = tb := ⟨_, rfl⟩
          rw [htb] at ZW ⊢
          have z0 := ZW.out.cell 0
          have z1 := ZW.out.cell 1
          have z2 := ZW.out.cell 2
          have z3 := ZW.out.cell 3
          have z4 := ZW.out.cell 4
          simp only [List.getElem?_toArray, List.getElem?_cons_zero, List.getElem?_cons_succ] at z0 z1 z2 z3 z4
          clear v0 v1 v2 v3 v4 y4
          try go_wp2_with fail
          refine wp_region_noPanic ?_
          refine wp_region_last (S := (fun (w' : World) => w'.cell? ⟨tb, 0, none⟩ = some (.int .i64 n.kind) ∧ w'.cell? ⟨tb, 1, none⟩ = some (.string (bs n.owner)) ∧ w'.cell? ⟨tb, 2, none⟩ = some (.int .i64 n.num) ∧ w'.cell? ⟨tb, 3, none⟩ = some (.int .i64 n.idx) ∧ w'.cell? ⟨tb, 4, none⟩ = some (.string (bs n.text)))) 10 10 rfl (by kernel_rfl) (by kernel_rfl) ?_ (fun hHeld => ?_)
          · exact ⟨z0, z1, z2, z3, z4⟩
          refine wpAnyH_take (i := 0) (v := ?_) rfl (by kernel_rfl) (by kernel_rfl) (by kernel_rfl) (fun _ _ _ h => h) (Or.inl ⟨by kernel_rfl, ?_⟩) hHeld ?_
          rotate_left
          · (intro w hSw; (try dsimp only at hSw); go_simp; try with_reducible rfl)
          try simp only [Act.put, List.setIfInBounds_toArray, List.set_cons_zero, List.set_cons_succ]
          refine wpAnyH_take (i := 1) (v := ?_) rfl (by kernel_rfl) (by kernel_rfl) (by kernel_rfl) (fun _ _ _ h => h) (Or.inl ⟨by kernel_rfl, ?_⟩) hHeld ?_
          rotate_left
          · (intro w hSw; (try dsimp only at hSw); go_simp; try with_reducible rfl)
          try simp only [Act.put, List.setIfInBounds_toArray, List.set_cons_zero, List.set_cons_succ]
          refine wpAnyH_take (i := 2) (v := ?_) rfl (by kernel_rfl) (by kernel_rfl) (by kernel_rfl) (fun _ _ _ h => h) (Or.inl ⟨by kernel_rfl, ?_⟩) hHeld ?_
          rotate_left
          · (intro w hSw; (try dsimp only at hSw); go_simp; try with_reducible rfl)
          try simp only [Act.put, List.setIfInBounds_toArray, List.set_cons_zero, List.set_cons_succ]
          refine wpAnyH_take (i := 3) (v := ?_) rfl (by kernel_rfl) (by kernel_rfl) (by kernel_rfl) (fun _ _ _ h => h) (Or.inl ⟨by kernel_rfl, ?_⟩) hHeld ?_
          rotate_left
          · (intro w hSw; (try dsimp only at hSw); go_simp; try with_reducible rfl)
          try simp only [Act.put, List.setIfInBounds_toArray, List.set_cons_zero, List.set_cons_succ]
          refine wpAnyH_take (i := 5) (v := ?_) rfl (by kernel_rfl) (by kernel_rfl) (by kernel_rfl) (fun _ _ _ h => h) (Or.inl ⟨by kernel_rfl, ?_⟩) hHeld ?_
          rotate_left
          · (intro w hSw; (try dsimp only at hSw); go_simp; try with_reducible rfl)
          try simp only [Act.put, List.setIfInBounds_toArray, List.set_cons_zero, List.set_cons_succ]
          refine wpAnyH_take (i := 6) (v := ?_) rfl (by kernel_rfl) (by kernel_rfl) (by kernel_rfl) (fun _ _ _ h => h) (Or.inl ⟨by kernel_rfl, ?_⟩) hHeld ?_
          rotate_left
          · (intro w hSw; (try dsimp only at hSw); go_simp; try with_reducible rfl)
          try simp only [Act.put, List.setIfInBounds_toArray, List.set_cons_zero, List.set_cons_succ]
          refine wpAnyH_ready (rs := [4]) (by kernel_rfl) (by simp) ?_
          refine AllReadyH.cons rfl (fun K hK => ?_) AllReadyH.nil
          go_simp
          have HRC := (HR.out.next (PW.out.trans ((Below.refl W5.heap.size W5).drew.mono PW.out.size))); refine (rwriter_is n (k : Int) HRC (by omega) (fun a ha => (HRR.out a ha).2.2.2.2)).mono ?_; rintro e w6 ⟨rfl, hb⟩; rw [show (min (k : Int) (l.length : Int)).toNat = k by omega, HFE.out]; have P6 := Lib.hid (PW.out.trans (((Below.refl W5.heap.size W5).drew.mono PW.out.size).trans (hb.mono PW.out.size))); have Z6 := Lib.hid ((ZW.out.next (Below.refl W5.heap.size W5).drew ZW.out.lt).next hb ZW.out.lt); have O6 := Lib.hid (own_next (own_next HOW3.out (Below.refl W5.heap.size W5).drew) hb); have s0 := Z6.out.cell 0; have s1 := Z6.out.cell 1; have s2 := Z6.out.cell 2; have s3 := Z6.out.cell 3; have s4 := Z6.out.cell 4; simp only [List.getElem?_toArray, List.getElem?_cons_zero, List.getElem?_cons_succ] at s0 s1 s2 s3 s4; have hbk := (Below.refl w6.heap.size w6).alloc (Nat.le_refl _) (.cells #[.int .i64 F, .int .i64 (k : Int), .int .i64 n.kind, .string (bs n.owner), .int .i64 n.num, .int .i64 n.idx, .string (bs n.text)] 43); have P7 := Lib.hid (P6.out.trans (hbk.mono P6.out.size)); have Z7 := Lib.hid (Z6.out.next hbk Z6.out.lt); have O7 := Lib.hid (own_next O6.out hbk); have t0 := Z7.out.cell 0; have t1 := Z7.out.cell 1; have t2 := Z7.out.cell 2; have t3 := Z7.out.cell 3; have t4 := Z7.out.cell 4; simp only [List.getElem?_toArray, List.getElem?_cons_zero, List.getElem?_cons_succ] at t0 t1 t2 t3 t4; have hws := P6.out.size; obtain ⟨i0, hi, hz0, hz1, hz2⟩ := info_parts infoLk; clear hb hbk HRC
          try (go_wp2_with fail)
          refine hK.out _ _ ?_ (fun hNew => ?_)
          · exact ⟨s0, s1, s2, s3, s4⟩
          clear hK K hHeld
          have hHeld := hNew
          clear hNew
          try simp only [Act.put, List.setIfInBounds_toArray, List.set_cons_zero, List.set_cons_succ]
          refine wpAnyH_take (i := 7) (v := ?_) rfl (by kernel_rfl) (by kernel_rfl) (by kernel_rfl) (fun _ _ _ h => h) (Or.inl ⟨by kernel_rfl, ?_⟩) hHeld ?_
          rotate_left
          · (intro w hSw; (try dsimp only at hSw); go_simp; try with_reducible rfl)
          try simp only [Act.put, List.setIfInBounds_toArray, List.set_cons_zero, List.set_cons_succ]
          refine wpAnyH_ready (rs := [8]) (by kernel_rfl) (by simp) ?_
          refine AllReadyH.cons rfl (fun K hK => ?_) AllReadyH.nil
          go_simp
          refine hK.out _ _ ?_ (fun hNew => ?_)
          · exact ⟨t0, t1, t2, t3, t4⟩
          clear hK K hHeld
          have hHeld := hNew
          clear hNew
          try simp only [Act.put, List.setIfInBounds_toArray, List.set_cons_zero, List.set_cons_succ]
          refine wpAnyH_ready (rs := [9]) (by kernel_rfl) (by simp) ?_
          refine AllReadyH.cons rfl (fun K hK => ?_) AllReadyH.nil
          refine step_append_w _ (by rfl) _ _ _ (by rfl) w.heap.size 43 i0 _ 7 72 Try.underlying32 hi hz0 hz1 hz2 rfl (by omega) (.slice A5 L.length c5) L.length (L.flatMap lkC) (by rfl) O7.out (.slice (some ⟨w6.heap.size, 0, none⟩) 1 1) 1 [.int .i64 F, .int .i64 (k : Int), .int .i64 n.kind, .string (bs n.owner), .int .i64 n.num, .int .i64 n.idx, .string (bs n.text)] (by rfl) (Rd.of_own (own_new w6 0 43 7 [.int .i64 F, .int .i64 (k : Int), .int .i64 n.kind, .string (bs n.owner), .int .i64 n.num, .int .i64 n.idx, .string (bs n.text)] rfl (Nat.zero_le _))) (by omega) (by rfl) (by simp [Value.oneCell']) (by unfold maxLen; omega) (by omega) (by simp; omega) ?_; intro v8 w8 hown8 hg8 hat8; have HO8 := Lib.hid (show w8.ownsRow w.heap.size 43 7 v8 (L ++ [(⟨F, k, n⟩ : Lk)]).length ((L ++ [(⟨F, k, n⟩ : Lk)]).flatMap lkC) by rw [List.length_append, List.flatMap_append]; simpa [lkC] using hown8); have P8 := Lib.hid (P7.out.grown hg8 P7.out.size (fun k hk => own_ge O7.out hk)); have Z8 := Lib.hid (Z7.out.grown hg8 (own_apart_blk47 O7.out Z7.out (by decide))); have r0 := Z8.out.cell 0; have r1 := Z8.out.cell 1; have r2 := Z8.out.cell 2; have r3 := Z8.out.cell 3; have r4 := Z8.out.cell 4; simp only [List.getElem?_toArray, List.getElem?_cons_zero, List.getElem?_cons_succ] at r0 r1 r2 r3 r4; clear hown8 hg8 hat8
          refine hK.out _ _ ?_ (fun hNew => ?_)
          · exact ⟨r0, r1, r2, r3, r4⟩
          clear hK K hHeld
          have hHeld := hNew
          clear hNew
          try simp only [Act.put, List.setIfInBounds_toArray, List.set_cons_zero, List.set_cons_succ]
          refine wpAnyH_done (by kernel_rfl) ?_ _
          refine lastQ_step rfl (fun K hK => ?_)
          clear hHeld
          go_simp
          refine hK _ _ ?_
          clear hK K
          refine NoPanic.normal ?_
          go_wp2_with fail
          go_roundw
          case rel => exact ⟨m + 1, hml2.out, by go_num, by unfold OwnK; rw [HNS.out]; exact HO8.out, P8.out⟩
          case measure => have := hml2.out; simp [intOf]; omega
        · have j1 : decide ((m : Int) < (a.reads.length : Int)) = false := decide_eq_false (by omega)
          have HME := Lib.hid (show m = a.reads.length by omega)
          go_wp2_with fail
          exact ⟨⟨k + 1, HKL.out, by go_num, by rw [HNX.out, ← HME.out, HLL.out]; exact HOW2.out, HB2.out⟩, by simp [intOf]; omega⟩
    · have e1 : decide ((k : Int) < (l.length : Int)) = false := decide_eq_false (by omega)
      have HKE := Lib.hid (show lkLst l k = (lnkD l).flatten by unfold lkLst; rw [List.take_of_length_le (by omega)])
      go_wp2_with fail
      go_ret
      exact ⟨_, rfl, by rw [← HKE.out]; exact Rd.of_own HOW.out, HB.out⟩
end Go.Proofs.Ytmjkcanjfjfkfaa
