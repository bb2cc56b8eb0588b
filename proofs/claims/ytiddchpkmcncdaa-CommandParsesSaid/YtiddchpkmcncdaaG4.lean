/- Walks of layer 41: the text of a simple command. -/
import Derived.Test.YtiddchpkmcncdaaG3
import Derived.Test.YtiddchpkmcncdaaG2
namespace Go.Proofs.Ytiddchpkmcncdaa
open Go.RowKit
set_option linter.unusedSimpArgs false
set_option linter.unusedVariables false
/-- What bounds a word that is written. -/
def TxW (ps : Wd) : Prop := ps.length ≤ 2000 ∧ ∀ p ∈ ps, p.text.length ≤ 2000
def TxSm (c : Sm) : Prop := c.asg.length ≤ 32 ∧ c.words.length ≤ 32 ∧ (∀ a ∈ c.asg, a.name.length ≤ 2000 ∧ TxW a.value) ∧ (∀ x ∈ c.words, TxW x) ∧ TxW c.inn ∧ TxW c.out
theorem pcS_len2 (a : Bool) (p : Pc) : (pcS a p).length ≤ 2 * p.text.length + 3 := pcS_len a p
theorem txt_len2 : ∀ (ps : Wd) (a : Bool), (∀ p ∈ ps, p.text.length ≤ 2000) → (txtS a ps).length ≤ 4003 * ps.length
  | [], a, _ => by simp [txtS]
  | p :: ps, a, h => by
    have h1 := pcS_len a p
    have h2 := h p (by simp)
    have h3 := txt_len2 ps (aftS p) (fun q hq => h q (by simp [hq]))
    simp only [txtS, List.length_append, List.length_cons]
    omega
theorem TxW.len {ps : Wd} (h : TxW ps) : (txtS false ps).length ≤ 8006000 := by
  have := txt_len2 ps false h.2
  have := h.1
  omega
theorem text_is (w : World) (v : Value) (ps : Wd) (T : Bs) (h : NWp 61 w v ps) (hl : TxW ps) (hT : txtS false ps = T) :
    Calls Try.prog 63 #[v] w fun e w' => e = .returned (.string (bs T)) ∧ Below w.heap.size w w' := by
  subst hT
  exact text_any w v ps h (by have := hl.1; omega) (fun p hp => by have := hl.2 p hp; omega)
/-- A list of texts that the call owns, each of at most N bytes. -/
def StR (w : World) (base : Nat) (v : Value) (l : List Bs) : Prop := w.ownsRow base 9 1 v l.length (stC l)
theorem stC_app (a b : List Bs) : stC (a ++ b) = stC a ++ stC b := by simp [stC]
def TsA (w : World) (cs : Array Value) (c : Sm) (gk : Nat) (v i : Value) (wr : World) : Prop :=
  ∃ k, i = .int .i64 ((k : Nat) : Int) ∧ k ≤ c.asg.length ∧ gk + k = c.asg.length + 1 ∧ Below w.heap.size w wr ∧ Blk wr w.heap.size 46 cs ∧ wr.ownsRow w.heap.size 9 1 v k (stC ((c.asg.take k).map asgT))
def TsW (w : World) (cs : Array Value) (c : Sm) (gk : Nat) (v i : Value) (wr : World) : Prop :=
  ∃ k, i = .int .i64 ((k : Nat) : Int) ∧ k ≤ c.words.length ∧ gk + k = c.words.length + 1 ∧ Below w.heap.size w wr ∧ Blk wr w.heap.size 46 cs ∧ wr.ownsRow w.heap.size 9 1 v (c.asg.length + k) (stC (c.asg.map asgT ++ (c.words.take k).map (txtS false)))
theorem asg_next (l : List Asg) (k : Nat) (hk : k < l.length) : stC ((l.take (k + 1)).map asgT) = stC ((l.take k).map asgT) ++ [.string (bs (asgT l[k]))] := by
  rw [List.take_succ_eq_append_getElem hk, List.map_append, stC_app]; rfl
theorem wrd_next (A : List Bs) (l : List Wd) (k : Nat) (hk : k < l.length) : stC (A ++ (l.take (k + 1)).map (txtS false)) = stC (A ++ (l.take k).map (txtS false)) ++ [.string (bs (txtS false l[k]))] := by
  rw [List.take_succ_eq_append_getElem hk, List.map_append, ← List.append_assoc, stC_app (A ++ _)]; rfl
theorem asgT_bs (a : Asg) : bs a.name ++ (⟨#[61]⟩ : ByteArray) ++ bs (txtS false a.value) = bs (asgT a) := by
  unfold asgT
  rw [show a.name ++ 61 :: txtS false a.value = (a.name ++ [61]) ++ txtS false a.value by simp, bs_app, bs_app]; rfl
theorem str_add (a b c : ByteArray) (h : a.size + b.size ≤ 4000000000000000000) (e : a ++ b = c) : Op.stringOp .add a b = pure (.string c) := by
  subst e
  unfold Op.stringOp
  have : ¬ (((a.size + b.size : Nat) : Int) > IntKind.i64.max) := by
    have : IntKind.i64.max = 9223372036854775807 := by decide
    omega
  simp only [if_neg this]
theorem join_eq : ∀ L : List Bs, Lib.join L [32] = joinB L
  | [] => rfl
  | [a] => Lib.join_one a _
  | a :: b :: r => by
    have ih := join_eq (b :: r)
    rw [Lib.join_cons] at ih
    rw [Lib.join_cons, joinB, ← ih]
    simp [Lib.joinTail]
theorem joinB_len (N : Nat) : ∀ L : List Bs, (∀ x ∈ L, x.length ≤ N) → (joinB L).length ≤ L.length * (N + 1)
  | [], _ => by simp [joinB]
  | [a], h => by have := h a (by simp); simp [joinB]; omega
  | a :: b :: r, h => by
    have h1 := h a (by simp)
    have h2 := joinB_len N (b :: r) (fun x hx => h x (by simp at hx ⊢; exact .inr hx))
    rw [joinB]
    simp only [List.length_append, List.length_cons] at h2 ⊢
    rw [Nat.add_mul]
    omega
theorem join_own (w : World) (base : Nat) (v : Value) (L : List Bs) (n : Nat) (hn : n = L.length) (h : w.ownsRow base 9 1 v n (stC L)) (hpos : 0 < n) (hlen : (joinB L).length ≤ 140737488355328) (h68 : n ≤ 1000) :
    Calls Try.prog 90 #[v, .string ⟨#[32]⟩] w fun e w' => e = .returned (.string (bs (joinB L))) ∧ Below w.heap.size w w' := by
  obtain ⟨b, o, c, rfl, hc, _, hb, hx⟩ := (Rd.of_own h).at_ hpos
  have hm : (L.map bs).map (fun x => x.data.toList) = L := by
    rw [List.map_map]
    conv => rhs; rw [← List.map_id L]
    exact List.map_congr_left (fun x _ => bs_list x)
  have := Try.strings_Join b o c (L.map bs) ⟨#[32]⟩ w (fun j x hj => hx j _ (by
    rw [List.getElem?_map] at hj
    unfold stC
    rw [List.getElem?_map]
    cases hl : L[j]? with
    | none => rw [hl] at hj; cases hj
    | some y => rw [hl] at hj; cases hj; rfl)) hb (by simp; omega) (by simp; omega) (by rw [hm]; show (Lib.join L [32]).length ≤ _; rw [join_eq]; exact hlen)
  rw [hm, List.length_map, ← hn] at this
  refine this.mono ?_
  rintro e w' ⟨rfl, hb'⟩
  exact ⟨ret_str (by show _ = bs (joinB L); rw [← join_eq]; rfl), hb'⟩
theorem smL_all {c : Sm} (h : TxSm c) : ∀ x ∈ smL c, x.length ≤ 9000000 := by
  obtain ⟨_, _, h3, h4, h5, h6⟩ := h
  intro x hx
  unfold smL redT at hx
  simp only [List.mem_append, List.mem_map] at hx
  rcases hx with (⟨a, ha, rfl⟩ | ⟨a, ha, rfl⟩) | hx
  · have := h3 a ha
    have h7 := this.2.len
    unfold asgT
    simp only [List.length_append, List.length_cons]
    have := this.1
    omega
  · have := (h4 a ha).len
    omega
  · rcases hx with hx | hx
    · have := h5.len
      split at hx
      · cases hx
      · simp at hx
        rcases hx with rfl | rfl
        · simp
        · omega
    · have := h6.len
      split at hx
      · cases hx
      · simp at hx
        rcases hx with rfl | rfl
        · split <;> simp
        · omega
theorem smL_len {c : Sm} (h : TxSm c) : (smL c).length ≤ 68 := by
  obtain ⟨h1, h2, _⟩ := h
  unfold smL redT
  simp only [List.length_append, List.length_map]
  have a1 : ((if c.inn.isEmpty then [] else [[60], txtS false c.inn] : List Bs)).length ≤ 2 := by split <;> simp
  have a2 : ((if c.out.isEmpty then [] else [if c.app then [62, 62] else [62], txtS false c.out] : List Bs)).length ≤ 2 := by split <;> simp
  omega
theorem smT_len {c : Sm} (h : TxSm c) : (joinB (smL c)).length ≤ 700000000 := by
  have h1 := joinB_len 9000000 _ (smL_all h)
  have h2 := smL_len h
  have h3 : (smL c).length * (9000000 + 1) ≤ 68 * (9000000 + 1) := Nat.mul_le_mul_right _ h2
  omega
theorem stC_two (L : List Bs) (a b : Bs) : stC (L ++ [a, b]) = stC L ++ [.string (bs a), .string (bs b)] := by rw [stC_app]; rfl
set_option maxRecDepth 100000 in
set_option maxHeartbeats 8000000 in
theorem stext_rows (w : World) (va vb vi vo : Value) (c : Sm) (h : NSp 61 42 140 w ⟨va, vb, vi, vo⟩ c) (hlim : TxSm c) (hne : smNone c = false) :
    Calls Try.prog 65 #[.agg #[va, vb, vi, vo, .bool c.app]] w fun e w' => e = .returned (.string (bs (smT c))) ∧ Below w.heap.size w w' := by
  obtain ⟨i0, hi, hz0, hz1, hz2⟩ := info_parts info9
  obtain ⟨hA, hW, hI, hO⟩ := h
  obtain ⟨l1, l2, l3, l4, l5, l6⟩ := hlim
  obtain ⟨Aa, ca, hva, xa, hA2⟩ := hA.all asgV_len
  obtain ⟨Ab, cb, hvb, xb, hW2⟩ := hW.all wdV_len
  obtain ⟨Ai, ci, hvi, _⟩ := Rd.form hI
  obtain ⟨Ao, co, hvo, _⟩ := Rd.form hO
  simp only at hva hvb hvi hvo hI hO
  subst hva hvb hvi hvo
  have HA := Lib.hid hA2
  have HW := Lib.hid hW2
  have HI := Lib.hid hI
  have HO := Lib.hid hO
  have HL3 := Lib.hid l3
  have HL4 := Lib.hid l4
  have HL5 := Lib.hid l5
  have HL6 := Lib.hid l6
  have HNE := Lib.hid hne
  have HLM := Lib.hid (show TxSm c from ⟨l1, l2, l3, l4, l5, l6⟩)
  clear hA hW hI hO l3 l4 hA2 hW2 l5 l6 hne
  go_enter Try.func65, Try.ntmps65
  have HX0 := Lib.hid (Blk.new w 46 #[.slice Aa c.asg.length ca, .slice Ab c.words.length cb, .slice Ai c.inn.length ci, .slice Ao c.out.length co, .bool c.app])
  have HB0 := Lib.hid ((Below.refl w.heap.size w).alloc (Nat.le_refl _) (.cells #[.slice Aa c.asg.length ca, .slice Ab c.words.length cb, .slice Ai c.inn.length ci, .slice Ao c.out.length co, .bool c.app] 46))
  go_wp2
  generalize (w.alloc (.cells #[.slice Aa c.asg.length ca, .slice Ab c.words.length cb, .slice Ai c.inn.length ci, .slice Ao c.out.length co, .bool c.app] 46)) = wa at *
  go_loopg [3, 12] (c.asg.length + 1) (fun gk v i wr => TsA w #[.slice Aa c.asg.length ca, .slice Ab c.words.length cb, .slice Ai c.inn.length ci, .slice Ao c.out.length co, .bool c.app] c gk v i wr)
  case atStart => exact ⟨0, rfl, Nat.zero_le _, by omega, HB0.out, HX0.out, World.ownsRow_nil _ _ _ _⟩
  case round =>
    obtain ⟨k, rfl, hk, hgk, hb, hX, hown⟩ := hrel
    have HX := Lib.hid hX
    have HB := Lib.hid hb
    have HOW := Lib.hid hown
    obtain ⟨av, cv, rfl, _⟩ := own_len hown
    clear hX hown HX0 HB0
    by_cases hlt : k < c.asg.length
    · obtain ⟨b, o, u, rfl, hb0, hN, hx⟩ := HA.out k hlt
      have hlv := HL3.out c.asg[k] (List.getElem_mem hlt)
      have HNX := Lib.hid (asg_next c.asg k hlt)
      obtain ⟨a, ha⟩ : ∃ a, c.asg[k] = a := ⟨_, rfl⟩
      rw [ha] at hN hx hlv HNX
      clear ha
      obtain ⟨Au, cu, rfl, _⟩ := Rd.form hN
      have p0 := hx 0 _ rfl
      have p1 := hx 1 _ rfl
      have hbr : b < wr.heap.size := Nat.lt_of_lt_of_le hb0 hb.size
      have e0 : wr.cell? ⟨b, o + k * 2, none⟩ = some (.string (bs a.name)) := ((bcell hb).1 b (o + k * 2) hb0).trans (by simpa using p0)
      have e1 : wr.cell? ⟨b, o + k * 2 + 1, none⟩ = some (.slice Au a.value.length cu) := ((bcell hb).1 b (o + k * 2 + 1) hb0).trans (by rw [Nat.add_assoc]; exact p1)
      have i1 : (0 : Int) ≤ (k : Int) := by omega
      have i2 : (k : Int) < (c.asg.length : Int) := by omega
      have hz : (bs a.name).size ≤ 2000 := by rw [bs_size]; exact hlv.1
      have HLV := Lib.hid hlv.2
      have HNV := Lib.hid (NWp.next (NWp.next hN hb) ((Below.refl _ _).alloc (Nat.le_refl _) (.cells #[.string (bs a.name), .slice Au a.value.length cu] 140)))
      have HB2 := Lib.hid (hb.alloc hb.size (.cells #[.string (bs a.name), .slice Au a.value.length cu] 140))
      have HX2 := Lib.hid (HX.out.alloc (.cells #[.string (bs a.name), .slice Au a.value.length cu] 140))
      have HT := Lib.hid (Blk.new wr 140 #[.string (bs a.name), .slice Au a.value.length cu])
      have HO2 := Lib.hid (HOW.out.alloc (.cells #[.string (bs a.name), .slice Au a.value.length cu] 140))
      go_upto_region 5 with (fail)
      clear hx p0 p1 hb hlv hN e0 e1 hbr i1 i2 HX HB HOW
      generalize (wr.alloc (.cells #[.string (bs a.name), .slice Au a.value.length cu] 140)) = wb at *
      generalize wr.heap.size = tb at *
      have t0 : wb.cell? ⟨tb, 0, none⟩ = some (.string (bs a.name)) := HT.out.cell 0
      have t1 : wb.cell? ⟨tb, 1, none⟩ = some (.slice Au a.value.length cu) := HT.out.cell 1
      have htb : tb < wb.drew.heap.size := HT.out.lt
      have hxb : w.heap.size < wb.drew.heap.size := HX2.out.lt
      have HRD := Lib.hid (show NWp 61 wb.drew _ a.value from HNV.out)
      obtain ⟨T, hT⟩ : ∃ T, txtS false a.value = T := ⟨_, rfl⟩
      have HTT := Lib.hid hT
      have hTz : (bs T).size ≤ 8006000 := by rw [bs_size, ← hT]; exact HLV.out.len
      have HAT := Lib.hid (show (bs a.name ++ (⟨#[61]⟩ : ByteArray)) ++ bs T = bs (asgT a) by rw [← hT]; exact asgT_bs a)
      have hsz1 : (bs a.name ++ (⟨#[61]⟩ : ByteArray)).size ≤ 2001 := by rw [ByteArray.size_append]; show (bs a.name).size + 1 ≤ 2001; omega
      have S1 := str_add (bs a.name) ⟨#[61]⟩ _ (by show (bs a.name).size + 1 ≤ _; omega) rfl
      have S2 := str_add (bs a.name ++ (⟨#[61]⟩ : ByteArray)) (bs T) _ (by omega) HAT.out
      clear hT
      go_region_held3 (fun w' => w'.cell? ⟨tb, 0, none⟩ = some (.string (bs a.name)) ∧ w'.cell? ⟨tb, 1, none⟩ = some (.slice Au a.value.length cu))
        (first | (with_reducible exact ⟨y0, y1⟩) | go_keep)
        (first
          | (refine step_append_lies _ (by rfl) _ _ _ (by rfl) w.heap.size 9 i0 _ 1 16 Try.underlying59 hi hz0 hz1 hz2 rfl (by omega) (.slice av k cv) k (stC ((c.asg.take k).map asgT)) (by rfl) ((own_next HO2.out.drew HB3.out).alloc _) ⟨w2.heap.size, 0, none⟩ 1 1 [.string (bs (asgT a))] (by rfl) (by rfl) (World.news_of_block (cs := #[.string (bs (asgT a))]) (t := 9) (fr := (0, 0)) (heap_alloc_new w2 _)) (by simp [Value.oneCell']) (by omega) (by unfold maxLen; omega) (by omega) (by simp; omega) (w2.heap.size + 1) (by simp) ?_; intro gz cap w3 hown3 hgrow3 hat hlt3; have HB4 := Lib.hid (below_own (B := w.heap.size) (HB23.out.alloc hs2 _) ((own_next HO2.out.drew HB3.out).alloc _) hgrow3 (Nat.le_refl _) (by simp; omega)); have HX4 := Lib.hid ((HX3.out.alloc _).grown hgrow3 (Ne.symm (own_blk_ne HO2.out.drew HX2.out.drew (by decide)))); have T4 := ((T3.out.alloc (.cells #[.string (bs (asgT a))] 9)).grown hgrow3 (Ne.symm (own_blk_ne HO2.out.drew HT.out.drew (by decide)))); have y0 := T4.cell 0; have y1 := T4.cell 1; simp only [List.getElem?_toArray, List.getElem?_cons_zero, List.getElem?_cons_succ] at y0 y1)
          | (go_at_call 63; (with_reducible refine (text_is wb.drew _ a.value T HRD.out HLV.out HTT.out).mono ?_); rintro e w2 ⟨rfl, hb2⟩; have HB3 := Lib.hid hb2; have HB23 := Lib.hid (HB2.out.drew.trans (hb2.mono HB2.out.size)); have HX3 := Lib.hid (HX2.out.drew.next hb2 hxb); have T3 := Lib.hid (HT.out.drew.next hb2 htb); have hs2 : w.heap.size ≤ w2.heap.size := HB23.out.size; have y0 := T3.out.cell 0; have y1 := T3.out.cell 1; simp only [List.getElem?_toArray, List.getElem?_cons_zero, List.getElem?_cons_succ] at y0 y1; clear hb2))
      all_goals
        have HO5 := Lib.hid (show w3.ownsRow w.heap.size 9 1 (.slice (some ⟨gz, 0, none⟩) (k + 1) cap) (k + 1) (stC ((c.asg.take (k + 1)).map asgT)) from by rw [HNX.out]; exact hown3)
        clear hown3 hgrow3 y0 y1 hs2 hat hlt3 t0 t1 htb hxb
        go_wp2
        go_roundg (gk - 1)
        case rel => exact ⟨k + 1, by go_num, by omega, by omega, HB4.out, HX4.out, HO5.out⟩
        case measure => omega
    · obtain rfl : k = c.asg.length := by omega
      rw [List.take_length] at HOW
      have x1 : wr.cell? ⟨w.heap.size, 1, none⟩ = some (.slice Ab c.words.length cb) := HX.out.cell 1
      have hxl := HX.out.lt
      go_wp2
      clear hk hlt hgk x1 hxl
      go_loopg [3, 30] (c.words.length + 1) (fun gk v i wr => TsW w #[.slice Aa c.asg.length ca, .slice Ab c.words.length cb, .slice Ai c.inn.length ci, .slice Ao c.out.length co, .bool c.app] c gk v i wr)
      case atStart => exact ⟨0, rfl, Nat.zero_le _, by omega, HB.out, HX.out, by rw [List.take_zero, List.map_nil, List.append_nil]; exact HOW.out⟩
      case round =>
        clear HOW hb
        obtain ⟨k, rfl, hk, hgk, hb, hX, hown⟩ := hrel
        have HX := Lib.hid hX
        have HB := Lib.hid hb
        have HOW := Lib.hid hown
        obtain ⟨av, cv, rfl, _⟩ := own_len hown
        clear hX hown
        by_cases hlt : k < c.words.length
        · obtain ⟨b, o, u, rfl, hb0, hN, hx⟩ := HW.out k hlt
          have hlv := HL4.out c.words[k] (List.getElem_mem hlt)
          have HNX := Lib.hid (wrd_next (c.asg.map asgT) c.words k hlt)
          obtain ⟨a, ha⟩ : ∃ a, c.words[k] = a := ⟨_, rfl⟩
          rw [ha] at hN hx hlv HNX
          clear ha
          obtain ⟨Au, cu, rfl, _⟩ := Rd.form hN
          have p0 := hx 0 _ rfl
          have e0 : wr.cell? ⟨b, o + k, none⟩ = some (.slice Au a.length cu) := ((bcell hb).1 b (o + k) hb0).trans (by simpa using p0)
          have i1 : (0 : Int) ≤ (k : Int) := by omega
          have i2 : (k : Int) < (c.words.length : Int) := by omega
          have HLV := Lib.hid hlv
          have HRD := Lib.hid (NWp.next hN hb)
          obtain ⟨T, hT⟩ : ∃ T, txtS false a = T := ⟨_, rfl⟩
          have HTT := Lib.hid hT
          rw [hT] at HNX
          clear hx p0 hb hlv hN hT
          go_wp2_with (first
            | (go_at_call 63; (with_reducible refine (text_is wr _ a T HRD.out HLV.out HTT.out).mono ?_); rintro e w2 ⟨rfl, hb2⟩; have HB3 := Lib.hid hb2; have HB23 := Lib.hid (HB.out.trans (hb2.mono HB.out.size)); have HX3 := Lib.hid (HX.out.next hb2 HX.out.lt); have hs2 : w.heap.size ≤ w2.heap.size := HB23.out.size; clear hb2)
            | (at_builtin; refine wpList_append_lies _ rfl _ _ _ rfl w.heap.size 9 i0 _ 1 16 Try.underlying59 hi hz0 hz1 hz2 rfl (by omega) (.slice av (c.asg.length + k) cv) (c.asg.length + k) (stC (c.asg.map asgT ++ (c.words.take k).map (txtS false))) rfl ((own_next HOW.out HB3.out).alloc _) ⟨w2.heap.size, 0, none⟩ 1 1 [.string (bs T)] rfl rfl (World.news_of_block (cs := #[.string (bs T)]) (t := 9) (fr := (0, 0)) (heap_alloc_new w2 _)) (by simp [Value.oneCell']) (by omega) (by unfold maxLen; omega) (by omega) (by simp; omega) (w2.heap.size + 1) (by simp) ?_; intro gz cap w3 hown3 hgrow3 hat hlt3; have HB4 := Lib.hid (below_own (B := w.heap.size) (HB23.out.alloc hs2 _) ((own_next HOW.out HB3.out).alloc _) hgrow3 (Nat.le_refl _) (by simp; omega)); have HX4 := Lib.hid ((HX3.out.alloc _).grown hgrow3 (Ne.symm (own_blk_ne HOW.out HX.out (by decide)))); have HO5 := Lib.hid (show w3.ownsRow w.heap.size 9 1 (.slice (some ⟨gz, 0, none⟩) (c.asg.length + k + 1) cap) (c.asg.length + (k + 1)) (stC (c.asg.map asgT ++ (c.words.take (k + 1)).map (txtS false))) from by rw [HNX.out]; exact hown3); clear hown3 hgrow3))
          go_roundg (gk - 1)
          case rel => exact ⟨k + 1, by go_num, by omega, by omega, HB4.out, HX4.out, HO5.out⟩
          case measure => omega
        · obtain rfl : k = c.words.length := by omega
          rw [List.take_length] at HOW
          have hpos : 0 < c.asg.length + c.words.length := by
            rcases Nat.eq_zero_or_pos (c.asg.length + c.words.length) with h | h
            · exfalso
              have h1 : c.asg = [] := List.length_eq_zero_iff.1 (by omega)
              have h2 : c.words = [] := List.length_eq_zero_iff.1 (by omega)
              have h3 := HNE.out
              unfold smNone at h3
              rw [h1, h2] at h3
              cases h3
            · exact h
          have x2 : wr.cell? ⟨w.heap.size, 2, none⟩ = some (.slice Ai c.inn.length ci) := HX.out.cell 2
          clear hb hlt hk hgk
          rcases Nat.eq_zero_or_pos c.inn.length with hi0 | hi0
          · have m0 : decide ((0 : Int) < (c.inn.length : Int)) = false := decide_eq_false (by omega)
            have m1 : ¬ 0 < c.inn.length := by omega
            have HI0 := Lib.hid (show c.inn = [] from List.length_eq_zero_iff.1 hi0)
            have H1 := Lib.hid hi0
            clear hi0
            have x3 : wr.cell? ⟨w.heap.size, 3, none⟩ = some (.slice Ao c.out.length co) := HX.out.cell 3
            have x4 : wr.cell? ⟨w.heap.size, 4, none⟩ = some (.bool c.app) := HX.out.cell 4
            have hxl := HX.out.lt
            rcases Nat.eq_zero_or_pos c.out.length with ho0 | ho0
            · have n0 : decide ((0 : Int) < (c.out.length : Int)) = false := decide_eq_false (by omega)
              have n1 : ¬ 0 < c.out.length := by omega
              have HE := Lib.hid (show smL c = (c.asg.map asgT ++ c.words.map (txtS false)) by unfold smL redT; rw [HI0.out, List.length_eq_zero_iff.1 ho0]; simp)
              have HJ := Lib.hid (show (joinB (c.asg.map asgT ++ c.words.map (txtS false))).length ≤ 140737488355328 by rw [← HE.out]; have := smT_len HLM.out; omega)
              have HN0 := Lib.hid (show (c.asg.length + c.words.length) = ((c.asg.map asgT ++ c.words.map (txtS false))).length by simp <;> omega)
              have H0 := Lib.hid ho0
              clear ho0
              go_wp2_with (go_at_call 90; (with_reducible refine (join_own wr w.heap.size _ (c.asg.map asgT ++ c.words.map (txtS false)) (c.asg.length + c.words.length) HN0.out HOW.out (by omega) HJ.out (by omega)).mono ?_); rintro e w9 ⟨rfl, hb9⟩; have HB9 := Lib.hid (HB.out.trans (hb9.mono HB.out.size)); clear hb9)
              go_ret
              exact ⟨ret_str (by rw [show smT c = _ from congrArg joinB HE.out]; try simp only [List.append_assoc]; try rfl), HB9.out⟩
            · have n0 : decide ((0 : Int) < (c.out.length : Int)) = true := decide_eq_true (by omega)
              have n1 : 0 < c.out.length := ho0
              have hoe : c.out.isEmpty = false := by cases h : c.out with | nil => rw [h] at ho0; simp at ho0 | cons a l => rfl
              have HRO := Lib.hid (NWp.next HO.out HB.out)
              obtain ⟨TO, hTO⟩ : ∃ TO, txtS false c.out = TO := ⟨_, rfl⟩
              have HTO := Lib.hid hTO
              cases hap : c.app with
              | false =>
                rw [hap] at x4
                have HE := Lib.hid (show smL c = (c.asg.map asgT ++ c.words.map (txtS false)) ++ [[62], TO] by unfold smL redT; rw [HI0.out, hap, hoe, hTO]; simp)
                have HJ := Lib.hid (show (joinB ((c.asg.map asgT ++ c.words.map (txtS false)) ++ [[62], TO])).length ≤ 140737488355328 by rw [← HE.out]; have := smT_len HLM.out; omega)
                have HN0 := Lib.hid (show (c.asg.length + c.words.length) + 2 = ((c.asg.map asgT ++ c.words.map (txtS false)) ++ [[62], TO]).length by simp; try omega)
                clear hap hoe hTO
                go_wp2_with (first | (go_at_call 63; (with_reducible refine (text_is wr _ c.out TO HRO.out HL6.out HTO.out).mono ?_); rintro e w6 ⟨rfl, hb6⟩; have HB6 := Lib.hid hb6; have HC6 := Lib.hid (HB.out.trans (hb6.mono HB.out.size)); have HX6 := Lib.hid (HX.out.next hb6 HX.out.lt); have hs6 : w.heap.size ≤ w6.heap.size := HC6.out.size; clear hb6) | (at_builtin; refine wpList_append_lies _ rfl _ _ _ rfl w.heap.size 9 i0 _ 1 16 Try.underlying59 hi hz0 hz1 hz2 rfl (by omega) (.slice av (c.asg.length + c.words.length) cv) (c.asg.length + c.words.length) (stC (c.asg.map asgT ++ c.words.map (txtS false))) rfl ((own_next HOW.out HB6.out).alloc _) ⟨w6.heap.size, 0, none⟩ 2 2 [.string ⟨#[62]⟩, .string (bs TO)] rfl rfl (World.news_of_block (cs := #[.string ⟨#[62]⟩, .string (bs TO)]) (t := 9) (fr := (0, 0)) (heap_alloc_new w6 _)) (by simp [Value.oneCell']) (by omega) (by unfold maxLen; omega) (by omega) (by simp; omega) (w6.heap.size + 1) (by simp) ?_; intro gz6 cap6 wq6 hown6 hgrow6 hat6 hlt6; have HD6 := Lib.hid (below_own (B := w.heap.size) (HC6.out.alloc hs6 _) ((own_next HOW.out HB6.out).alloc _) hgrow6 (Nat.le_refl _) (by simp; omega)); have HY6 := Lib.hid ((HX6.out.alloc _).grown hgrow6 (Ne.symm (own_blk_ne HOW.out HX.out (by decide)))); have HO6 := Lib.hid (show wq6.ownsRow w.heap.size 9 1 (.slice (some ⟨gz6, 0, none⟩) ((c.asg.length + c.words.length) + 2) cap6) ((c.asg.length + c.words.length) + 2) (stC ((c.asg.map asgT ++ c.words.map (txtS false)) ++ [[62], TO])) from by rw [stC_two]; exact hown6); clear hown6 hgrow6 hat6 hlt6) | (go_at_call 90; (with_reducible refine (join_own wq6 w.heap.size _ ((c.asg.map asgT ++ c.words.map (txtS false)) ++ [[62], TO]) ((c.asg.length + c.words.length) + 2) HN0.out HO6.out (by omega) HJ.out (by omega)).mono ?_); rintro e w9 ⟨rfl, hb9⟩; have HB9 := Lib.hid (HD6.out.trans (hb9.mono HD6.out.size)); clear hb9))
                go_ret
                exact ⟨ret_str (by rw [show smT c = _ from congrArg joinB HE.out]; try simp only [List.append_assoc]; try rfl), HB9.out⟩
              | true =>
                rw [hap] at x4
                have HE := Lib.hid (show smL c = (c.asg.map asgT ++ c.words.map (txtS false)) ++ [[62, 62], TO] by unfold smL redT; rw [HI0.out, hap, hoe, hTO]; simp)
                have HJ := Lib.hid (show (joinB ((c.asg.map asgT ++ c.words.map (txtS false)) ++ [[62, 62], TO])).length ≤ 140737488355328 by rw [← HE.out]; have := smT_len HLM.out; omega)
                have HN0 := Lib.hid (show (c.asg.length + c.words.length) + 2 = ((c.asg.map asgT ++ c.words.map (txtS false)) ++ [[62, 62], TO]).length by simp; try omega)
                clear hap hoe hTO
                go_wp2_with (first | (go_at_call 63; (with_reducible refine (text_is wr _ c.out TO HRO.out HL6.out HTO.out).mono ?_); rintro e w6 ⟨rfl, hb6⟩; have HB6 := Lib.hid hb6; have HC6 := Lib.hid (HB.out.trans (hb6.mono HB.out.size)); have HX6 := Lib.hid (HX.out.next hb6 HX.out.lt); have hs6 : w.heap.size ≤ w6.heap.size := HC6.out.size; clear hb6) | (at_builtin; refine wpList_append_lies _ rfl _ _ _ rfl w.heap.size 9 i0 _ 1 16 Try.underlying59 hi hz0 hz1 hz2 rfl (by omega) (.slice av (c.asg.length + c.words.length) cv) (c.asg.length + c.words.length) (stC (c.asg.map asgT ++ c.words.map (txtS false))) rfl ((own_next HOW.out HB6.out).alloc _) ⟨w6.heap.size, 0, none⟩ 2 2 [.string ⟨#[62, 62]⟩, .string (bs TO)] rfl rfl (World.news_of_block (cs := #[.string ⟨#[62, 62]⟩, .string (bs TO)]) (t := 9) (fr := (0, 0)) (heap_alloc_new w6 _)) (by simp [Value.oneCell']) (by omega) (by unfold maxLen; omega) (by omega) (by simp; omega) (w6.heap.size + 1) (by simp) ?_; intro gz6 cap6 wq6 hown6 hgrow6 hat6 hlt6; have HD6 := Lib.hid (below_own (B := w.heap.size) (HC6.out.alloc hs6 _) ((own_next HOW.out HB6.out).alloc _) hgrow6 (Nat.le_refl _) (by simp; omega)); have HY6 := Lib.hid ((HX6.out.alloc _).grown hgrow6 (Ne.symm (own_blk_ne HOW.out HX.out (by decide)))); have HO6 := Lib.hid (show wq6.ownsRow w.heap.size 9 1 (.slice (some ⟨gz6, 0, none⟩) ((c.asg.length + c.words.length) + 2) cap6) ((c.asg.length + c.words.length) + 2) (stC ((c.asg.map asgT ++ c.words.map (txtS false)) ++ [[62, 62], TO])) from by rw [stC_two]; exact hown6); clear hown6 hgrow6 hat6 hlt6) | (go_at_call 90; (with_reducible refine (join_own wq6 w.heap.size _ ((c.asg.map asgT ++ c.words.map (txtS false)) ++ [[62, 62], TO]) ((c.asg.length + c.words.length) + 2) HN0.out HO6.out (by omega) HJ.out (by omega)).mono ?_); rintro e w9 ⟨rfl, hb9⟩; have HB9 := Lib.hid (HD6.out.trans (hb9.mono HD6.out.size)); clear hb9))
                go_ret
                exact ⟨ret_str (by rw [show smT c = _ from congrArg joinB HE.out]; try simp only [List.append_assoc]; try rfl), HB9.out⟩
          · have m0 : decide ((0 : Int) < (c.inn.length : Int)) = true := decide_eq_true (by omega)
            have m1 : 0 < c.inn.length := hi0
            have HI0 := Lib.hid (show c.inn.isEmpty = false by cases h : c.inn with | nil => rw [h] at hi0; simp at hi0 | cons a l => rfl)
            have HRI := Lib.hid (NWp.next HI.out HB.out)
            obtain ⟨TI, hTI⟩ : ∃ TI, txtS false c.inn = TI := ⟨_, rfl⟩
            have HTI := Lib.hid hTI
            have hxl0 := HX.out.lt
            clear hTI
            go_upto_region 14 with (first | (go_at_call 63; (with_reducible refine (text_is wr _ c.inn TI HRI.out HL5.out HTI.out).mono ?_); rintro e w5 ⟨rfl, hb5⟩; have HB5 := Lib.hid hb5; have HC5 := Lib.hid (HB.out.trans (hb5.mono HB.out.size)); have HX5 := Lib.hid (HX.out.next hb5 HX.out.lt); have hs5 : w.heap.size ≤ w5.heap.size := HC5.out.size; clear hb5) | (at_builtin; refine wpList_append_lies _ rfl _ _ _ rfl w.heap.size 9 i0 _ 1 16 Try.underlying59 hi hz0 hz1 hz2 rfl (by omega) (.slice av (c.asg.length + c.words.length) cv) (c.asg.length + c.words.length) (stC (c.asg.map asgT ++ c.words.map (txtS false))) rfl ((own_next HOW.out HB5.out).alloc _) ⟨w5.heap.size, 0, none⟩ 2 2 [.string ⟨#[60]⟩, .string (bs TI)] rfl rfl (World.news_of_block (cs := #[.string ⟨#[60]⟩, .string (bs TI)]) (t := 9) (fr := (0, 0)) (heap_alloc_new w5 _)) (by simp [Value.oneCell']) (by omega) (by unfold maxLen; omega) (by omega) (by simp; omega) (w5.heap.size + 1) (by simp) ?_; intro gz5 cap5 wq5 hown5 hgrow5 hat5 hlt5; have HD5 := Lib.hid (below_own (B := w.heap.size) (HC5.out.alloc hs5 _) ((own_next HOW.out HB5.out).alloc _) hgrow5 (Nat.le_refl _) (by simp; omega)); have HY5 := Lib.hid ((HX5.out.alloc _).grown hgrow5 (Ne.symm (own_blk_ne HOW.out HX.out (by decide)))); have HO5 := Lib.hid (show wq5.ownsRow w.heap.size 9 1 (.slice (some ⟨gz5, 0, none⟩) ((c.asg.length + c.words.length) + 2) cap5) ((c.asg.length + c.words.length) + 2) (stC ((c.asg.map asgT ++ c.words.map (txtS false)) ++ [[60], TI])) from by rw [stC_two]; exact hown5); clear hown5 hgrow5 hat5 hlt5))
            clear x2 hxl0 m0 m1
            have x3 : wq5.cell? ⟨w.heap.size, 3, none⟩ = some (.slice Ao c.out.length co) := HY5.out.cell 3
            have x4 : wq5.cell? ⟨w.heap.size, 4, none⟩ = some (.bool c.app) := HY5.out.cell 4
            have hxl := HY5.out.lt
            rcases Nat.eq_zero_or_pos c.out.length with ho0 | ho0
            · have n0 : decide ((0 : Int) < (c.out.length : Int)) = false := decide_eq_false (by omega)
              have n1 : ¬ 0 < c.out.length := by omega
              have HE := Lib.hid (show smL c = ((c.asg.map asgT ++ c.words.map (txtS false)) ++ [[60], TI]) by unfold smL redT; rw [HI0.out, HTI.out, List.length_eq_zero_iff.1 ho0]; simp)
              have HJ := Lib.hid (show (joinB ((c.asg.map asgT ++ c.words.map (txtS false)) ++ [[60], TI])).length ≤ 140737488355328 by rw [← HE.out]; have := smT_len HLM.out; omega)
              have HN0 := Lib.hid (show ((c.asg.length + c.words.length) + 2) = (((c.asg.map asgT ++ c.words.map (txtS false)) ++ [[60], TI])).length by simp <;> omega)
              have H0 := Lib.hid ho0
              clear ho0
              go_wp2_with (go_at_call 90; (with_reducible refine (join_own wq5 w.heap.size _ ((c.asg.map asgT ++ c.words.map (txtS false)) ++ [[60], TI]) ((c.asg.length + c.words.length) + 2) HN0.out HO5.out (by omega) HJ.out (by omega)).mono ?_); rintro e w9 ⟨rfl, hb9⟩; have HB9 := Lib.hid (HD5.out.trans (hb9.mono HD5.out.size)); clear hb9)
              go_ret
              exact ⟨ret_str (by rw [show smT c = _ from congrArg joinB HE.out]; try simp only [List.append_assoc]; try rfl), HB9.out⟩
            · have n0 : decide ((0 : Int) < (c.out.length : Int)) = true := decide_eq_true (by omega)
              have n1 : 0 < c.out.length := ho0
              have hoe : c.out.isEmpty = false := by cases h : c.out with | nil => rw [h] at ho0; simp at ho0 | cons a l => rfl
              have HRO := Lib.hid (NWp.next HO.out HD5.out)
              obtain ⟨TO, hTO⟩ : ∃ TO, txtS false c.out = TO := ⟨_, rfl⟩
              have HTO := Lib.hid hTO
              cases hap : c.app with
              | false =>
                rw [hap] at x4
                have HE := Lib.hid (show smL c = ((c.asg.map asgT ++ c.words.map (txtS false)) ++ [[60], TI]) ++ [[62], TO] by unfold smL redT; rw [HI0.out, HTI.out, hap, hoe, hTO]; simp)
                have HJ := Lib.hid (show (joinB (((c.asg.map asgT ++ c.words.map (txtS false)) ++ [[60], TI]) ++ [[62], TO])).length ≤ 140737488355328 by rw [← HE.out]; have := smT_len HLM.out; omega)
                have HN0 := Lib.hid (show ((c.asg.length + c.words.length) + 2) + 2 = (((c.asg.map asgT ++ c.words.map (txtS false)) ++ [[60], TI]) ++ [[62], TO]).length by simp; try omega)
                clear hap hoe hTO
                go_wp2_with (first | (go_at_call 63; (with_reducible refine (text_is wq5 _ c.out TO HRO.out HL6.out HTO.out).mono ?_); rintro e w6 ⟨rfl, hb6⟩; have HB6 := Lib.hid hb6; have HC6 := Lib.hid (HD5.out.trans (hb6.mono HD5.out.size)); have HX6 := Lib.hid (HY5.out.next hb6 HY5.out.lt); have hs6 : w.heap.size ≤ w6.heap.size := HC6.out.size; clear hb6) | (at_builtin; refine wpList_append_lies _ rfl _ _ _ rfl w.heap.size 9 i0 _ 1 16 Try.underlying59 hi hz0 hz1 hz2 rfl (by omega) (.slice (some ⟨gz5, 0, none⟩) ((c.asg.length + c.words.length) + 2) cap5) ((c.asg.length + c.words.length) + 2) (stC ((c.asg.map asgT ++ c.words.map (txtS false)) ++ [[60], TI])) rfl ((own_next HO5.out HB6.out).alloc _) ⟨w6.heap.size, 0, none⟩ 2 2 [.string ⟨#[62]⟩, .string (bs TO)] rfl rfl (World.news_of_block (cs := #[.string ⟨#[62]⟩, .string (bs TO)]) (t := 9) (fr := (0, 0)) (heap_alloc_new w6 _)) (by simp [Value.oneCell']) (by omega) (by unfold maxLen; omega) (by omega) (by simp; omega) (w6.heap.size + 1) (by simp) ?_; intro gz6 cap6 wq6 hown6 hgrow6 hat6 hlt6; have HD6 := Lib.hid (below_own (B := w.heap.size) (HC6.out.alloc hs6 _) ((own_next HO5.out HB6.out).alloc _) hgrow6 (Nat.le_refl _) (by simp; omega)); have HY6 := Lib.hid ((HX6.out.alloc _).grown hgrow6 (Ne.symm (own_blk_ne HO5.out HY5.out (by decide)))); have HO6 := Lib.hid (show wq6.ownsRow w.heap.size 9 1 (.slice (some ⟨gz6, 0, none⟩) (((c.asg.length + c.words.length) + 2) + 2) cap6) (((c.asg.length + c.words.length) + 2) + 2) (stC (((c.asg.map asgT ++ c.words.map (txtS false)) ++ [[60], TI]) ++ [[62], TO])) from by rw [stC_two]; exact hown6); clear hown6 hgrow6 hat6 hlt6) | (go_at_call 90; (with_reducible refine (join_own wq6 w.heap.size _ (((c.asg.map asgT ++ c.words.map (txtS false)) ++ [[60], TI]) ++ [[62], TO]) (((c.asg.length + c.words.length) + 2) + 2) HN0.out HO6.out (by omega) HJ.out (by omega)).mono ?_); rintro e w9 ⟨rfl, hb9⟩; have HB9 := Lib.hid (HD6.out.trans (hb9.mono HD6.out.size)); clear hb9))
                go_ret
                exact ⟨ret_str (by rw [show smT c = _ from congrArg joinB HE.out]; try simp only [List.append_assoc]; try rfl), HB9.out⟩
              | true =>
                rw [hap] at x4
                have HE := Lib.hid (show smL c = ((c.asg.map asgT ++ c.words.map (txtS false)) ++ [[60], TI]) ++ [[62, 62], TO] by unfold smL redT; rw [HI0.out, HTI.out, hap, hoe, hTO]; simp)
                have HJ := Lib.hid (show (joinB (((c.asg.map asgT ++ c.words.map (txtS false)) ++ [[60], TI]) ++ [[62, 62], TO])).length ≤ 140737488355328 by rw [← HE.out]; have := smT_len HLM.out; omega)
                have HN0 := Lib.hid (show ((c.asg.length + c.words.length) + 2) + 2 = (((c.asg.map asgT ++ c.words.map (txtS false)) ++ [[60], TI]) ++ [[62, 62], TO]).length by simp; try omega)
                clear hap hoe hTO
                go_wp2_with (first | (go_at_call 63; (with_reducible refine (text_is wq5 _ c.out TO HRO.out HL6.out HTO.out).mono ?_); rintro e w6 ⟨rfl, hb6⟩; have HB6 := Lib.hid hb6; have HC6 := Lib.hid (HD5.out.trans (hb6.mono HD5.out.size)); have HX6 := Lib.hid (HY5.out.next hb6 HY5.out.lt); have hs6 : w.heap.size ≤ w6.heap.size := HC6.out.size; clear hb6) | (at_builtin; refine wpList_append_lies _ rfl _ _ _ rfl w.heap.size 9 i0 _ 1 16 Try.underlying59 hi hz0 hz1 hz2 rfl (by omega) (.slice (some ⟨gz5, 0, none⟩) ((c.asg.length + c.words.length) + 2) cap5) ((c.asg.length + c.words.length) + 2) (stC ((c.asg.map asgT ++ c.words.map (txtS false)) ++ [[60], TI])) rfl ((own_next HO5.out HB6.out).alloc _) ⟨w6.heap.size, 0, none⟩ 2 2 [.string ⟨#[62, 62]⟩, .string (bs TO)] rfl rfl (World.news_of_block (cs := #[.string ⟨#[62, 62]⟩, .string (bs TO)]) (t := 9) (fr := (0, 0)) (heap_alloc_new w6 _)) (by simp [Value.oneCell']) (by omega) (by unfold maxLen; omega) (by omega) (by simp; omega) (w6.heap.size + 1) (by simp) ?_; intro gz6 cap6 wq6 hown6 hgrow6 hat6 hlt6; have HD6 := Lib.hid (below_own (B := w.heap.size) (HC6.out.alloc hs6 _) ((own_next HO5.out HB6.out).alloc _) hgrow6 (Nat.le_refl _) (by simp; omega)); have HY6 := Lib.hid ((HX6.out.alloc _).grown hgrow6 (Ne.symm (own_blk_ne HO5.out HY5.out (by decide)))); have HO6 := Lib.hid (show wq6.ownsRow w.heap.size 9 1 (.slice (some ⟨gz6, 0, none⟩) (((c.asg.length + c.words.length) + 2) + 2) cap6) (((c.asg.length + c.words.length) + 2) + 2) (stC (((c.asg.map asgT ++ c.words.map (txtS false)) ++ [[60], TI]) ++ [[62, 62], TO])) from by rw [stC_two]; exact hown6); clear hown6 hgrow6 hat6 hlt6) | (go_at_call 90; (with_reducible refine (join_own wq6 w.heap.size _ (((c.asg.map asgT ++ c.words.map (txtS false)) ++ [[60], TI]) ++ [[62, 62], TO]) (((c.asg.length + c.words.length) + 2) + 2) HN0.out HO6.out (by omega) HJ.out (by omega)).mono ?_); rintro e w9 ⟨rfl, hb9⟩; have HB9 := Lib.hid (HD6.out.trans (hb9.mono HD6.out.size)); clear hb9))
                go_ret
                exact ⟨ret_str (by rw [show smT c = _ from congrArg joinB HE.out]; try simp only [List.append_assoc]; try rfl), HB9.out⟩
end Go.Proofs.Ytiddchpkmcncdaa
/- Walks of layer 41: Print. -/
namespace Go.Proofs.Ytiddchpkmcncdaa
open Go.RowKit
set_option linter.unusedSimpArgs false
set_option linter.unusedVariables false
theorem frst_0 : ∀ {L : List Int}, frst L = 0 → ∀ e ∈ L, e = 0
  | [], _, e, he => by cases he
  | a :: r, h, e, he => by
    unfold frst at h
    split at h
    · rename_i h0
      rcases List.mem_cons.1 he with rfl | he
      · exact h0
      · exact frst_0 h e he
    · rename_i h0; exact absurd h h0
theorem frst_map {α : Type} {f : α → Int} {l : List α} (h : frst (l.map f) = 0) : ∀ x ∈ l, f x = 0 := fun x hx => frst_0 h _ (List.mem_map.2 ⟨x, hx, rfl⟩)
theorem schk_0 {c : Sm} (h : schk c = 0) : smNone c = false ∧ c.asg.length ≤ 32 ∧ c.words.length ≤ 32 ∧ (∀ a ∈ c.asg, achk a = 0) ∧ (∀ x ∈ c.words, wchk x = 0) ∧ ochk c.inn = 0 ∧ ochk c.out = 0 ∧ (c.app = true → c.out.isEmpty = false) := by
  unfold schk at h
  split at h
  · cases h
  rename_i h1
  split at h
  · cases h
  rename_i h2
  split at h
  · rename_i h3; exact absurd h h3
  rename_i h3
  split at h
  · rename_i h4; exact absurd h h4
  rename_i h4
  split at h
  · rename_i h5; exact absurd h h5
  rename_i h5
  split at h
  · rename_i h6; exact absurd h h6
  rename_i h6
  split at h
  · cases h
  rename_i h7
  refine ⟨by simpa using h1, by omega, by omega, frst_map (by simpa using h3), frst_map (by simpa using h4), by simpa using h5, by simpa using h6, fun ha => ?_⟩
  rw [ha] at h7
  simpa using h7
theorem pchk_0 {f : Bool} {q : Pl} (h : pchk f q = 0) : 0 ≤ q.wh ∧ q.wh ≤ 2 ∧ (f = true → q.wh = 0) ∧ 0 < q.stages.length ∧ q.stages.length ≤ 8 ∧ ∀ c ∈ q.stages, schk c = 0 := by
  unfold pchk at h
  split at h
  · cases h
  rename_i h1
  split at h
  · cases h
  rename_i h2
  split at h
  · cases h
  rename_i h3
  refine ⟨by omega, by omega, fun hf => ?_, by omega, by omega, frst_map h⟩
  by_cases h4 : q.wh = 0
  · exact h4
  · exact absurd (.inr (.inr ⟨hf, h4⟩)) h1
theorem pchks_0 : ∀ {L : List Pl} {f : Bool}, pchks f L = 0 → ∀ k (hk : k < L.length), pchk (f && decide (k = 0)) L[k] = 0
  | [], f, _, k, hk => by simp at hk
  | q :: r, f, h, k, hk => by
    unfold pchks at h
    split at h
    · rename_i h0
      cases k with
      | zero => simpa using h0
      | succ k =>
        have := pchks_0 h k (by simpa using hk)
        simpa using this
    · rename_i h0; exact absurd h h0
theorem lchk_0 {l : Ln} (h : lchk l = 0) : ¬ (l.bg = true ∧ l.parts.length = 0) ∧ l.parts.length ≤ 16 ∧ pchks true l.parts = 0 := by
  unfold lchk at h
  split at h
  · cases h
  rename_i h1
  split at h
  · cases h
  rename_i h2
  exact ⟨h1, by omega, h⟩
/-- What bounds a command line. -/
def SmIn (c : Sm) : Prop := c.asg.length ≤ 1100 ∧ c.words.length ≤ 1100 ∧ (∀ a ∈ c.asg, a.name.length ≤ 2000 ∧ TxW a.value) ∧ (∀ x ∈ c.words, TxW x) ∧ TxW c.inn ∧ TxW c.out
def LnIn (l : Ln) : Prop := l.parts.length ≤ 1100 ∧ ∀ q ∈ l.parts, q.stages.length ≤ 1100 ∧ ∀ c ∈ q.stages, SmIn c
theorem TxW.big {ps : Wd} (h : TxW ps) : WdLim ps := ⟨by have := h.1; omega, fun p hp => by have := h.2 p hp; omega⟩
theorem SmIn.big {c : Sm} (h : SmIn c) : SmBig c := by
  obtain ⟨h1, h2, h3, h4, h5, h6⟩ := h
  exact ⟨by omega, by omega, fun a ha => ⟨by have := (h3 a ha).1; omega, (h3 a ha).2.big⟩, fun x hx => (h4 x hx).big, h5.big, h6.big⟩
theorem SmIn.tx {c : Sm} (h : SmIn c) (h1 : c.asg.length ≤ 32) (h2 : c.words.length ≤ 32) : TxSm c := ⟨h1, h2, h.2.2⟩
theorem LnIn.big {l : Ln} (h : LnIn l) : LnBig l := ⟨by have := h.1; omega, fun q hq => ⟨by have := (h.2 q hq).1; omega, fun c hc => ((h.2 q hq).2 c hc).big⟩⟩
theorem stT_snoc : ∀ (L : List Sm) (f : Bool) (c : Sm), stT f (L ++ [c]) = stT f L ++ (if f && L.isEmpty then [] else [32, 124, 32]) ++ smT c
  | [], f, c => by cases f <;> simp [stT]
  | d :: L, f, c => by
    rw [List.cons_append, stT, stT, stT_snoc L false c]
    simp
theorem ptT_snoc : ∀ (L : List Pl) (f : Bool) (q : Pl), ptT f (L ++ [q]) = ptT f L ++ (if f && L.isEmpty then [] else sepT q.wh) ++ stT true q.stages
  | [], f, q => by cases f <;> simp [ptT]
  | d :: L, f, q => by
    rw [List.cons_append, ptT, ptT, ptT_snoc L false q]
    simp
theorem stT_next (L : List Sm) (j : Nat) (hj : j < L.length) : stT true (L.take (j + 1)) = stT true (L.take j) ++ (if j = 0 then [] else [32, 124, 32]) ++ smT L[j] := by
  rw [List.take_succ_eq_append_getElem hj, stT_snoc]
  congr 2
  cases j with
  | zero => simp
  | succ j => cases L with | nil => simp at hj | cons a l => simp
theorem ptT_next (L : List Pl) (j : Nat) (hj : j < L.length) : ptT true (L.take (j + 1)) = ptT true (L.take j) ++ (if j = 0 then [] else sepT (L[j]).wh) ++ stT true (L[j]).stages := by
  rw [List.take_succ_eq_append_getElem hj, ptT_snoc]
  congr 2
  cases j with
  | zero => simp
  | succ j => cases L with | nil => simp at hj | cons a l => simp
theorem stT_len : ∀ (L : List Sm) (f : Bool), (∀ c ∈ L, (smT c).length ≤ 700000000) → (stT f L).length ≤ L.length * 700000003
  | [], f, _ => by simp [stT]
  | c :: L, f, h => by
    have h1 := stT_len L false (fun x hx => h x (by simp [hx]))
    have h2 := h c (by simp)
    rw [stT]
    simp only [List.length_append, List.length_cons]
    have : (if f then [] else [32, 124, 32] : Bs).length ≤ 3 := by split <;> simp
    omega
theorem sepT_len (wh : Int) : (sepT wh).length ≤ 4 := by unfold sepT; split <;> (try split) <;> simp
theorem ptT_len : ∀ (L : List Pl) (f : Bool), (∀ q ∈ L, (stT true q.stages).length ≤ 6000000000) → (ptT f L).length ≤ L.length * 6000000004
  | [], f, _ => by simp [ptT]
  | q :: L, f, h => by
    have h1 := ptT_len L false (fun x hx => h x (by simp [hx]))
    have h2 := h q (by simp)
    rw [ptT]
    simp only [List.length_append, List.length_cons]
    have : (if f then [] else sepT q.wh : Bs).length ≤ 4 := by
      split
      · simp
      · exact sepT_len _
    omega
theorem stext_is (w : World) (va vb vi vo : Value) (c : Sm) (ap : Bool) (T : Bs) (h : NSp 61 42 140 w ⟨va, vb, vi, vo⟩ c) (hlim : TxSm c) (hne : smNone c = false) (ha : c.app = ap) (hT : smT c = T) :
    Calls Try.prog 65 #[.agg #[va, vb, vi, vo, .bool ap]] w fun e w' => e = .returned (.string (bs T)) ∧ Below w.heap.size w w' := by
  subst ha hT; exact stext_rows w va vb vi vo c h hlim hne
theorem Check_is (w : World) (v : Value) (l : Ln) (bg : Bool) (e0 : Int) (h : RowRd 49 plV (NPp 61 42 140 46) w v l.parts) (hlim : LnIn l) (hb : l.bg = bg) (he : lchk l = e0) :
    Calls Try.prog 37 #[.agg #[v, .bool bg]] w fun e w' => e = .returned (.int .i64 e0) ∧ Below w.heap.size w w' := by
  subst hb he; exact Check_any w v l h hlim.big
def PrP (w : World) (cs : Array Value) (g : Nat) (l : Ln) (gk : Nat) (v i : Value) (wr : World) : Prop :=
  ∃ k, i = .int .i64 ((k : Nat) : Int) ∧ k ≤ l.parts.length ∧ gk + k = l.parts.length + 1 ∧ Below w.heap.size w wr ∧ Blk wr w.heap.size 24 cs ∧ Blk wr g 123 #[.string ⟨#[59, 32]⟩, .string ⟨#[32, 38, 38, 32]⟩, .string ⟨#[32, 124, 124, 32]⟩] ∧ v = .string (bs (ptT true (l.parts.take k)))
def PrS (w : World) (cs : Array Value) (g : Nat) (P : Bs) (q : Pl) (gk : Nat) (v i : Value) (wr : World) : Prop :=
  ∃ k, i = .int .i64 ((k : Nat) : Int) ∧ k ≤ q.stages.length ∧ gk + k = q.stages.length + 1 ∧ Below w.heap.size w wr ∧ Blk wr w.heap.size 24 cs ∧ Blk wr g 123 #[.string ⟨#[59, 32]⟩, .string ⟨#[32, 38, 38, 32]⟩, .string ⟨#[32, 124, 124, 32]⟩] ∧ v = .string (bs (P ++ stT true (q.stages.take k)))
def PrtP (w : World) (l : Ln) (e : Ending) (w' : World) : Prop := e = .returned (.tuple #[.string (bs (prtS l).1), .int .i64 (prtS l).2]) ∧ Below w.heap.size w w'
theorem prt_ret {w w' : World} {l : Ln} {a : Bs} {b : Int} (h : prtS l = (a, b)) (hb : Below w.heap.size w w') : PrtP w l (.returned (.tuple #[.string (bs a), .int .i64 b])) w' := by
  unfold PrtP; rw [h]; exact ⟨rfl, hb⟩
theorem prtS_1 {l : Ln} {e : Int} (h : lchk l = e) (he : e ≠ 0) : prtS l = ([], e) := by unfold prtS; rw [h, if_pos he]
theorem prtS_2 {l : Ln} (h : lchk l = 0) (hl : 1024 < (lnT l).length) : prtS l = ([], 5) := by unfold prtS; rw [h, if_neg (by simp), if_pos hl]
theorem prtS_3 {l : Ln} (h : lchk l = 0) (hl : ¬ 1024 < (lnT l).length) : prtS l = (lnT l, 0) := by unfold prtS; rw [h, if_neg (by simp), if_neg hl]
set_option maxRecDepth 100000 in
set_option maxHeartbeats 8000000 in
theorem Print_no (w : World) (v : Value) (l : Ln) (h : RowRd 49 plV (NPp 61 42 140 46) w v l.parts) (hlim : LnIn l) (ev : Int) (hev : lchk l = ev) (hz : ev ≠ 0) :
    Calls Try.prog 35 #[.agg #[v, .bool l.bg]] w fun e w' => PrtP w l e w' := by
  obtain ⟨A, c, rfl, xa⟩ := h.form
  have HV := Lib.hid hev
  have HZ := Lib.hid hz
  have n1 : (ev == 0) = false := beq_false_of_ne hz
  have n2 : (ev != 0) = true := by simpa using hz
  have HB := Lib.hid ((Below.refl w.heap.size w).alloc (Nat.le_refl _) (.cells #[.slice A l.parts.length c, .bool l.bg] 24))
  have HR := Lib.hid (h.next ((Below.refl w.heap.size w).alloc (Nat.le_refl _) (.cells #[.slice A l.parts.length c, .bool l.bg] 24)) (fun _ _ h => NPp.next h ((Below.refl w.heap.size w).alloc (Nat.le_refl _) _)))
  have HI := Lib.hid hlim
  clear h hev hz hlim
  go_enter Try.func35, Try.ntmps35
  go_wp2_with (go_at_call 37; (with_reducible refine (Check_is _ _ l l.bg ev HR.out HI.out rfl HV.out).mono ?_); rintro e w1 ⟨rfl, hb1⟩; have HB1 := Lib.hid (HB.out.trans (hb1.mono HB.out.size)); clear hb1)
  go_ret2
  exact prt_ret (prtS_1 HV.out HZ.out) HB1.out
set_option maxRecDepth 100000 in
set_option maxHeartbeats 8000000 in
theorem Print_go (w : World) (v : Value) (l : Ln) (h : RowRd 49 plV (NPp 61 42 140 46) w v l.parts) (hlim : LnIn l) (hev : lchk l = 0) :
    Calls Try.prog 35 #[.agg #[v, .bool l.bg]] w fun e w' => PrtP w l e w' := by
  have h0 := lchk_0 hev
  have hall := pchks_0 h0.2.2
  have HQ := Lib.hid (show ∀ k (hk : k < l.parts.length), 0 ≤ (l.parts[k]).wh ∧ (l.parts[k]).wh < 3 ∧ (l.parts[k]).stages.length ≤ 8 ∧ (∀ c ∈ (l.parts[k]).stages, smNone c = false ∧ TxSm c) ∧ (stT true (l.parts[k]).stages).length ≤ 6000000000 from fun k hk => by
    have h1 := pchk_0 (hall k hk)
    have hin := (hlim.2 _ (List.getElem_mem hk)).2
    have hc : ∀ c ∈ (l.parts[k]).stages, smNone c = false ∧ TxSm c := fun c hc => by
      have h2 := schk_0 (h1.2.2.2.2.2 c hc)
      exact ⟨h2.1, (hin c hc).tx h2.2.1 h2.2.2.1⟩
    refine ⟨h1.1, by omega, h1.2.2.2.2.1, hc, ?_⟩
    have h3 := stT_len (l.parts[k]).stages true (fun c hc' => smT_len (hc c hc').2)
    have h4 : (l.parts[k]).stages.length * 700000003 ≤ 8 * 700000003 := Nat.mul_le_mul_right _ h1.2.2.2.2.1
    omega)
  have h16 : l.parts.length ≤ 16 := h0.2.1
  have HPT := Lib.hid (show ∀ k, (ptT true (l.parts.take k)).length ≤ 100000000000 from fun k => by
    have h1 := ptT_len (l.parts.take k) true (fun q hq => by
      obtain ⟨j, hj, rfl⟩ := List.getElem_of_mem (List.mem_of_mem_take hq)
      exact (HQ.out j hj).2.2.2.2)
    have h2 : (l.parts.take k).length ≤ 16 := by rw [List.length_take]; omega
    have h3 : (l.parts.take k).length * 6000000004 ≤ 16 * 6000000004 := Nat.mul_le_mul_right _ h2
    omega)
  have HV := Lib.hid hev
  have HI := Lib.hid hlim
  clear h0 hall hev hlim
  obtain ⟨A, c, rfl, xa, hA2⟩ := h.all plV_len
  have HA := Lib.hid hA2
  have HB := Lib.hid ((Below.refl w.heap.size w).alloc (Nat.le_refl _) (.cells #[.slice A l.parts.length c, .bool l.bg] 24))
  have HX := Lib.hid (Blk.new w 24 #[.slice A l.parts.length c, .bool l.bg])
  have HR := Lib.hid (h.next ((Below.refl w.heap.size w).alloc (Nat.le_refl _) (.cells #[.slice A l.parts.length c, .bool l.bg] 24)) (fun _ _ h => NPp.next h ((Below.refl w.heap.size w).alloc (Nat.le_refl _) _)))
  clear h hA2
  go_enter Try.func35, Try.ntmps35
  go_upto_region 1 with (fail)
  generalize (w.alloc (.cells #[.slice A l.parts.length c, .bool l.bg] 24)) = wa at *
  have x0 : wa.cell? ⟨w.heap.size, 0, none⟩ = some (.slice A l.parts.length c) := HX.out.cell 0
  have x1 : wa.cell? ⟨w.heap.size, 1, none⟩ = some (.bool l.bg) := HX.out.cell 1
  go_upto_region 4 with (go_at_call 37; (with_reducible refine (Check_is _ _ l l.bg 0 HR.out HI.out rfl HV.out).mono ?_); rintro e w1 ⟨rfl, hb1⟩; have HB1 := Lib.hid (HB.out.trans (hb1.mono HB.out.size)); have HX1 := Lib.hid (HX.out.next hb1 HX.out.lt); clear hb1)
  have HB2 := Lib.hid (HB1.out.alloc HB1.out.size (.cells #[.string ⟨#[59, 32]⟩, .string ⟨#[32, 38, 38, 32]⟩, .string ⟨#[32, 124, 124, 32]⟩] 123))
  have HX2 := Lib.hid (HX1.out.alloc (.cells #[.string ⟨#[59, 32]⟩, .string ⟨#[32, 38, 38, 32]⟩, .string ⟨#[32, 124, 124, 32]⟩] 123))
  have HS2 := Lib.hid (Blk.new w1 123 #[.string ⟨#[59, 32]⟩, .string ⟨#[32, 38, 38, 32]⟩, .string ⟨#[32, 124, 124, 32]⟩])
  clear x0 x1
  have x0 : w1.cell? ⟨w.heap.size, 0, none⟩ = some (.slice A l.parts.length c) := HX1.out.cell 0
  have hxl := HX1.out.lt
  go_wp2
  clear x0 hxl HB HX HR HB1 HX1
  generalize (w1.alloc (.cells #[.string ⟨#[59, 32]⟩, .string ⟨#[32, 38, 38, 32]⟩, .string ⟨#[32, 124, 124, 32]⟩] 123)) = wb at *
  generalize w1.heap.size = sg at *
  go_loopg [6, 20] (l.parts.length + 1) (fun gk v i wr => PrP w #[.slice A l.parts.length c, .bool l.bg] sg l gk v i wr)
  case atStart => exact ⟨0, rfl, Nat.zero_le _, by omega, HB2.out, HX2.out, HS2.out, rfl⟩
  case round =>
    obtain ⟨k, rfl, hk, hgk, hb, hX, hS, rfl⟩ := hrel
    have HX := Lib.hid hX
    have HB := Lib.hid hb
    have HS := Lib.hid hS
    clear hX hS HB2 HX2 HS2
    by_cases hlt : k < l.parts.length
    · obtain ⟨b, o, u, rfl, hb0, hN, hx⟩ := HA.out k hlt
      obtain ⟨hw0, hw3, hs8, hcs, hst⟩ := HQ.out k hlt
      have HPN := Lib.hid (ptT_next l.parts k hlt)
      have hpt := HPT.out k
      obtain ⟨P, hP⟩ : ∃ P, ptT true (l.parts.take k) = P := ⟨_, rfl⟩
      rw [hP] at HPN hpt ⊢
      obtain ⟨q, hq⟩ : ∃ q, l.parts[k] = q := ⟨_, rfl⟩
      rw [hq] at hN hx hw0 hw3 hs8 hcs hst HPN
      clear hq hP
      obtain ⟨Au, cu, rfl, _⟩ := RowRd.form hN
      have p0 := hx 0 _ rfl
      have p1 := hx 1 _ rfl
      have hbr : b < wr.heap.size := Nat.lt_of_lt_of_le hb0 hb.size
      have e0 : wr.cell? ⟨b, o + k * 2, none⟩ = some (.int .i64 q.wh) := ((bcell hb).1 b (o + k * 2) hb0).trans (by simpa using p0)
      have e1 : wr.cell? ⟨b, o + k * 2 + 1, none⟩ = some (.slice Au q.stages.length cu) := ((bcell hb).1 b (o + k * 2 + 1) hb0).trans (by rw [Nat.add_assoc]; exact p1)
      have i1 : (0 : Int) ≤ (k : Int) := by omega
      have i2 : (k : Int) < (l.parts.length : Int) := by omega
      have HNV := Lib.hid hN
      have HCS := Lib.hid hcs
      have HB2 := Lib.hid (hb.alloc hb.size (.cells #[.int .i64 q.wh, .slice Au q.stages.length cu] 49))
      have HX2 := Lib.hid (HX.out.alloc (.cells #[.int .i64 q.wh, .slice Au q.stages.length cu] 49))
      have HS2 := Lib.hid (HS.out.alloc (.cells #[.int .i64 q.wh, .slice Au q.stages.length cu] 49))
      have HT := Lib.hid (Blk.new wr 49 #[.int .i64 q.wh, .slice Au q.stages.length cu])
      go_upto_region 9 with (fail)
      clear hx p0 p1 hb hN hcs e0 e1 hbr i1 i2 HB HX HS
      generalize (wr.alloc (.cells #[.int .i64 q.wh, .slice Au q.stages.length cu] 49)) = wb2 at *
      generalize wr.heap.size = tb at *
      have t0 : wb2.cell? ⟨tb, 0, none⟩ = some (.int .i64 q.wh) := HT.out.cell 0
      have t1 : wb2.cell? ⟨tb, 1, none⟩ = some (.slice Au q.stages.length cu) := HT.out.cell 1
      obtain ⟨Aq, cq, hAq, xq, hSt⟩ := RowRd.all (show RowRd 46 smV (NSp 61 42 140) w _ q.stages from HNV.out) smV_len
      injection hAq with hA1 _ hA3
      subst hA1 hA3
      have HSS := Lib.hid hSt
      clear hSt HNV
      have hcase : (k = 0 ∧ ptT true (l.parts.take (k + 1)) = P ++ stT true q.stages) ∨ (0 < k ∧ ptT true (l.parts.take (k + 1)) = (P ++ sepT q.wh) ++ stT true q.stages) := by
        rcases Nat.eq_zero_or_pos k with h0 | h0
        · exact .inl ⟨h0, by rw [HPN.out, if_pos h0, List.append_nil]⟩
        · exact .inr ⟨h0, by rw [HPN.out, if_neg (by omega)]⟩
      clear HPN
      rcases hcase with ⟨h0, hpe⟩ | ⟨h0, hpe⟩
      · have f1 : decide ((0 : Int) < (k : Int)) = false := decide_eq_false (by omega)
        have f2 : ¬ 0 < k := by omega
        have HPE := Lib.hid hpe
        have H0 := Lib.hid h0
        clear h0 hpe
        go_wp2
        clear t0 t1 f1 f2
        have HSL := Lib.hid (show ∀ j, (stT true (q.stages.take j)).length ≤ 6000000000 from fun j => by
          have h3 := stT_len (q.stages.take j) true (fun c hc => smT_len (HCS.out c (List.mem_of_mem_take hc)).2)
          have h4 : (q.stages.take j).length ≤ 8 := by rw [List.length_take]; omega
          have h5 : (q.stages.take j).length * 700000003 ≤ 8 * 700000003 := Nat.mul_le_mul_right _ h4
          omega)
        obtain ⟨gk0, rfl⟩ : ∃ gk0 : Nat, gk0 = gk := ⟨_, rfl⟩
        go_loopg [6, 36] (q.stages.length + 1) (fun gk v i wr => PrS w #[.slice (some ⟨b, o, none⟩) l.parts.length c, .bool l.bg] sg P q gk v i wr)
        case atStart => exact ⟨0, rfl, Nat.zero_le _, by omega, HB2.out, HX2.out, HS2.out, str_eq (by rw [List.take_zero]; simp [stT])⟩
        case round =>
          obtain ⟨j, rfl, hj, hgj, hb, hX, hS, rfl⟩ := hrel
          have HX := Lib.hid hX
          have HB := Lib.hid hb
          have HS := Lib.hid hS
          clear hX hS
          by_cases hjl : j < q.stages.length
          · obtain ⟨b, o, u4, rfl, hb0, hN, hx⟩ := HSS.out j hjl
            obtain ⟨hne, htx⟩ := HCS.out q.stages[j] (List.getElem_mem hjl)
            have HPN := Lib.hid (stT_next q.stages j hjl)
            have hsl := HSL.out j
            obtain ⟨d, hd⟩ : ∃ d, q.stages[j] = d := ⟨_, rfl⟩
            rw [hd] at hN hx hne htx HPN
            clear hd
            have HP3 := Lib.hid (show P ++ stT true (q.stages.take (j + 1)) = ((P ++ stT true (q.stages.take j)) ++ (if j = 0 then [] else [32, 124, 32])) ++ smT d by rw [HPN.out]; simp)
            have hP2 : (P ++ stT true (q.stages.take j)).length ≤ 200000000000 := by rw [List.length_append]; omega
            obtain ⟨P2, hp2⟩ : ∃ P2, P ++ stT true (q.stages.take j) = P2 := ⟨_, rfl⟩
            rw [hp2] at HP3 hP2 ⊢
            clear hp2 HPN hsl
            obtain ⟨sa, na, sb, nb, si, ni, so, no, rfl⟩ := hN.forms
            have p0 := hx 0 _ rfl
            have p1 := hx 1 _ rfl
            have p2 := hx 2 _ rfl
            have p3 := hx 3 _ rfl
            have p4 := hx 4 _ rfl
            rw [← Nat.add_assoc] at p1 p2 p3 p4
            rw [Nat.add_zero] at p0
            have e0 := ((bcell hb).1 b _ hb0).trans p0
            have e1 := ((bcell hb).1 b _ hb0).trans p1
            have e2 := ((bcell hb).1 b _ hb0).trans p2
            have e3 := ((bcell hb).1 b _ hb0).trans p3
            have e4 := ((bcell hb).1 b _ hb0).trans p4
            have i1 : (0 : Int) ≤ (j : Int) := by omega
            have i2 : (j : Int) < (q.stages.length : Int) := by omega
            have HTX := Lib.hid htx
            have HNE := Lib.hid hne
            have HBX := Lib.hid ((Below.refl wr.heap.size wr).alloc (Nat.le_refl _) (.cells #[.slice sa d.asg.length na, .slice sb d.words.length nb, .slice si d.inn.length ni, .slice so d.out.length no, .bool d.app] 46))
            have HNC := Lib.hid (NSp.next (NSp.next hN hb) HBX.out)
            have HB4 := Lib.hid (hb.alloc hb.size (.cells #[.slice sa d.asg.length na, .slice sb d.words.length nb, .slice si d.inn.length ni, .slice so d.out.length no, .bool d.app] 46))
            have HX4 := Lib.hid (HX.out.alloc (.cells #[.slice sa d.asg.length na, .slice sb d.words.length nb, .slice si d.inn.length ni, .slice so d.out.length no, .bool d.app] 46))
            have HS4 := Lib.hid (HS.out.alloc (.cells #[.slice sa d.asg.length na, .slice sb d.words.length nb, .slice si d.inn.length ni, .slice so d.out.length no, .bool d.app] 46))
            have htl := smT_len htx
            obtain ⟨T, hT⟩ : ∃ T, smT d = T := ⟨_, rfl⟩
            have HTT := Lib.hid hT
            have hT8 : T.length ≤ 700000000 := by rw [← hT]; exact htl
            rw [hT] at HP3
            have hzT : (bs T).size ≤ 700000000 := by rw [bs_size]; exact hT8
            have hzP : (bs P2).size ≤ 200000000000 := by rw [bs_size]; exact hP2
            clear hx p0 p1 p2 p3 p4 hb hN hne htx htl hT
            rcases Nat.eq_zero_or_pos j with h0 | h0
            · have f1 : decide ((0 : Int) < (j : Int)) = false := decide_eq_false (by omega)
              have f2 : ¬ 0 < j := by omega
              have HQ3 := Lib.hid (show P ++ stT true (q.stages.take (j + 1)) = P2 ++ T by rw [HP3.out, if_pos h0, List.append_nil])
              have S2 := str_add (bs P2) (bs T) (bs (P2 ++ T)) (by omega) (bs_app _ _).symm
              have H0 := Lib.hid h0
              clear h0
              go_wp2_with (go_at_call 65; (with_reducible refine (stext_is _ _ _ _ _ d d.app T HNC.out HTX.out HNE.out rfl HTT.out).mono ?_); rintro e w5 ⟨rfl, hb5⟩; have HB5 := Lib.hid (HB4.out.trans (hb5.mono HB4.out.size)); have HX5 := Lib.hid (HX4.out.next hb5 HX4.out.lt); have HS5 := Lib.hid (HS4.out.next hb5 HS4.out.lt); clear hb5)
              go_roundg (gk - 1)
              case rel => exact ⟨j + 1, by go_num, by omega, by omega, HB5.out, HX5.out, HS5.out, str_eq (by rw [HQ3.out]; try simp)⟩
              case measure => omega
            · have f1 : decide ((0 : Int) < (j : Int)) = true := decide_eq_true (by omega)
              have f2 : 0 < j := h0
              have HQ3 := Lib.hid (show P ++ stT true (q.stages.take (j + 1)) = (P2 ++ [32, 124, 32]) ++ T by rw [HP3.out, if_neg (by omega)])
              have hz3 : (bs (P2 ++ [32, 124, 32])).size ≤ 200000000003 := by rw [bs_size, List.length_append]; simp; omega
              have S1 := str_add (bs P2) (⟨#[32, 124, 32]⟩ : ByteArray) (bs (P2 ++ [32, 124, 32])) (by show (bs P2).size + 3 ≤ _; omega) (bs_app _ _).symm
              have S2 := str_add (bs (P2 ++ [32, 124, 32])) (bs T) (bs ((P2 ++ [32, 124, 32]) ++ T)) (by omega) (bs_app _ _).symm
              clear h0
              go_wp2_with (go_at_call 65; (with_reducible refine (stext_is _ _ _ _ _ d d.app T HNC.out HTX.out HNE.out rfl HTT.out).mono ?_); rintro e w5 ⟨rfl, hb5⟩; have HB5 := Lib.hid (HB4.out.trans (hb5.mono HB4.out.size)); have HX5 := Lib.hid (HX4.out.next hb5 HX4.out.lt); have HS5 := Lib.hid (HS4.out.next hb5 HS4.out.lt); clear hb5)
              go_roundg (gk - 1)
              case rel => exact ⟨j + 1, by go_num, by omega, by omega, HB5.out, HX5.out, HS5.out, str_eq (by rw [HQ3.out]; try simp)⟩
              case measure => omega
          · obtain rfl : j = q.stages.length := by omega
            have HPZ := Lib.hid (show P ++ stT true (q.stages.take q.stages.length) = ptT true (l.parts.take (k + 1)) by rw [HPE.out, List.take_length])
            clear hb
            go_wp2
            go_roundg (gk0 - 1)
            case rel => exact ⟨k + 1, by go_num, by omega, by omega, HB.out, HX.out, HS.out, str_eq (by rw [HPZ.out])⟩
            case measure => omega
      · have f1 : decide ((0 : Int) < (k : Int)) = true := decide_eq_true (by omega)
        have f2 : 0 < k := h0
        have HPE := Lib.hid hpe
        have hz1 : (bs P).size ≤ 100000000000 := by rw [bs_size]; exact hpt
        have hz2 : (bs (sepT q.wh)).size ≤ 4 := by rw [bs_size]; exact sepT_len _
        have S1 := str_add (bs P) (bs (sepT q.wh)) (bs (P ++ sepT q.wh)) (by omega) (bs_app _ _).symm
        have c5 : wb2.cell? ⟨sg, q.wh.toNat, none⟩ = some (.string (bs (sepT q.wh))) := by
          rw [HS2.out.cell]
          have : q.wh = 0 ∨ q.wh = 1 ∨ q.wh = 2 := by omega
          rcases this with h | h | h <;> rw [h] <;> rfl
        have hpt2 : (P ++ sepT q.wh).length ≤ 100000000004 := by have := sepT_len q.wh; rw [List.length_append]; omega
        clear h0 hpe
        go_wp2
        clear t0 t1 f1 f2 S1 c5 hz1 hz2 hpt
        generalize (P ++ sepT q.wh) = P at *
        have hpt := hpt2
        clear hpt2
        have HSL := Lib.hid (show ∀ j, (stT true (q.stages.take j)).length ≤ 6000000000 from fun j => by
          have h3 := stT_len (q.stages.take j) true (fun c hc => smT_len (HCS.out c (List.mem_of_mem_take hc)).2)
          have h4 : (q.stages.take j).length ≤ 8 := by rw [List.length_take]; omega
          have h5 : (q.stages.take j).length * 700000003 ≤ 8 * 700000003 := Nat.mul_le_mul_right _ h4
          omega)
        obtain ⟨gk0, rfl⟩ : ∃ gk0 : Nat, gk0 = gk := ⟨_, rfl⟩
        go_loopg [6, 36] (q.stages.length + 1) (fun gk v i wr => PrS w #[.slice (some ⟨b, o, none⟩) l.parts.length c, .bool l.bg] sg P q gk v i wr)
        case atStart => exact ⟨0, rfl, Nat.zero_le _, by omega, HB2.out, HX2.out, HS2.out, str_eq (by rw [List.take_zero]; simp [stT])⟩
        case round =>
          obtain ⟨j, rfl, hj, hgj, hb, hX, hS, rfl⟩ := hrel
          have HX := Lib.hid hX
          have HB := Lib.hid hb
          have HS := Lib.hid hS
          clear hX hS
          by_cases hjl : j < q.stages.length
          · obtain ⟨b, o, u4, rfl, hb0, hN, hx⟩ := HSS.out j hjl
            obtain ⟨hne, htx⟩ := HCS.out q.stages[j] (List.getElem_mem hjl)
            have HPN := Lib.hid (stT_next q.stages j hjl)
            have hsl := HSL.out j
            obtain ⟨d, hd⟩ : ∃ d, q.stages[j] = d := ⟨_, rfl⟩
            rw [hd] at hN hx hne htx HPN
            clear hd
            have HP3 := Lib.hid (show P ++ stT true (q.stages.take (j + 1)) = ((P ++ stT true (q.stages.take j)) ++ (if j = 0 then [] else [32, 124, 32])) ++ smT d by rw [HPN.out]; simp)
            have hP2 : (P ++ stT true (q.stages.take j)).length ≤ 200000000000 := by rw [List.length_append]; omega
            obtain ⟨P2, hp2⟩ : ∃ P2, P ++ stT true (q.stages.take j) = P2 := ⟨_, rfl⟩
            rw [hp2] at HP3 hP2 ⊢
            clear hp2 HPN hsl
            obtain ⟨sa, na, sb, nb, si, ni, so, no, rfl⟩ := hN.forms
            have p0 := hx 0 _ rfl
            have p1 := hx 1 _ rfl
            have p2 := hx 2 _ rfl
            have p3 := hx 3 _ rfl
            have p4 := hx 4 _ rfl
            rw [← Nat.add_assoc] at p1 p2 p3 p4
            rw [Nat.add_zero] at p0
            have e0 := ((bcell hb).1 b _ hb0).trans p0
            have e1 := ((bcell hb).1 b _ hb0).trans p1
            have e2 := ((bcell hb).1 b _ hb0).trans p2
            have e3 := ((bcell hb).1 b _ hb0).trans p3
            have e4 := ((bcell hb).1 b _ hb0).trans p4
            have i1 : (0 : Int) ≤ (j : Int) := by omega
            have i2 : (j : Int) < (q.stages.length : Int) := by omega
            have HTX := Lib.hid htx
            have HNE := Lib.hid hne
            have HBX := Lib.hid ((Below.refl wr.heap.size wr).alloc (Nat.le_refl _) (.cells #[.slice sa d.asg.length na, .slice sb d.words.length nb, .slice si d.inn.length ni, .slice so d.out.length no, .bool d.app] 46))
            have HNC := Lib.hid (NSp.next (NSp.next hN hb) HBX.out)
            have HB4 := Lib.hid (hb.alloc hb.size (.cells #[.slice sa d.asg.length na, .slice sb d.words.length nb, .slice si d.inn.length ni, .slice so d.out.length no, .bool d.app] 46))
            have HX4 := Lib.hid (HX.out.alloc (.cells #[.slice sa d.asg.length na, .slice sb d.words.length nb, .slice si d.inn.length ni, .slice so d.out.length no, .bool d.app] 46))
            have HS4 := Lib.hid (HS.out.alloc (.cells #[.slice sa d.asg.length na, .slice sb d.words.length nb, .slice si d.inn.length ni, .slice so d.out.length no, .bool d.app] 46))
            have htl := smT_len htx
            obtain ⟨T, hT⟩ : ∃ T, smT d = T := ⟨_, rfl⟩
            have HTT := Lib.hid hT
            have hT8 : T.length ≤ 700000000 := by rw [← hT]; exact htl
            rw [hT] at HP3
            have hzT : (bs T).size ≤ 700000000 := by rw [bs_size]; exact hT8
            have hzP : (bs P2).size ≤ 200000000000 := by rw [bs_size]; exact hP2
            clear hx p0 p1 p2 p3 p4 hb hN hne htx htl hT
            rcases Nat.eq_zero_or_pos j with h0 | h0
            · have f1 : decide ((0 : Int) < (j : Int)) = false := decide_eq_false (by omega)
              have f2 : ¬ 0 < j := by omega
              have HQ3 := Lib.hid (show P ++ stT true (q.stages.take (j + 1)) = P2 ++ T by rw [HP3.out, if_pos h0, List.append_nil])
              have S2 := str_add (bs P2) (bs T) (bs (P2 ++ T)) (by omega) (bs_app _ _).symm
              have H0 := Lib.hid h0
              clear h0
              go_wp2_with (go_at_call 65; (with_reducible refine (stext_is _ _ _ _ _ d d.app T HNC.out HTX.out HNE.out rfl HTT.out).mono ?_); rintro e w5 ⟨rfl, hb5⟩; have HB5 := Lib.hid (HB4.out.trans (hb5.mono HB4.out.size)); have HX5 := Lib.hid (HX4.out.next hb5 HX4.out.lt); have HS5 := Lib.hid (HS4.out.next hb5 HS4.out.lt); clear hb5)
              go_roundg (gk - 1)
              case rel => exact ⟨j + 1, by go_num, by omega, by omega, HB5.out, HX5.out, HS5.out, str_eq (by rw [HQ3.out]; try simp)⟩
              case measure => omega
            · have f1 : decide ((0 : Int) < (j : Int)) = true := decide_eq_true (by omega)
              have f2 : 0 < j := h0
              have HQ3 := Lib.hid (show P ++ stT true (q.stages.take (j + 1)) = (P2 ++ [32, 124, 32]) ++ T by rw [HP3.out, if_neg (by omega)])
              have hz3 : (bs (P2 ++ [32, 124, 32])).size ≤ 200000000003 := by rw [bs_size, List.length_append]; simp; omega
              have S1 := str_add (bs P2) (⟨#[32, 124, 32]⟩ : ByteArray) (bs (P2 ++ [32, 124, 32])) (by show (bs P2).size + 3 ≤ _; omega) (bs_app _ _).symm
              have S2 := str_add (bs (P2 ++ [32, 124, 32])) (bs T) (bs ((P2 ++ [32, 124, 32]) ++ T)) (by omega) (bs_app _ _).symm
              clear h0
              go_wp2_with (go_at_call 65; (with_reducible refine (stext_is _ _ _ _ _ d d.app T HNC.out HTX.out HNE.out rfl HTT.out).mono ?_); rintro e w5 ⟨rfl, hb5⟩; have HB5 := Lib.hid (HB4.out.trans (hb5.mono HB4.out.size)); have HX5 := Lib.hid (HX4.out.next hb5 HX4.out.lt); have HS5 := Lib.hid (HS4.out.next hb5 HS4.out.lt); clear hb5)
              go_roundg (gk - 1)
              case rel => exact ⟨j + 1, by go_num, by omega, by omega, HB5.out, HX5.out, HS5.out, str_eq (by rw [HQ3.out]; try simp)⟩
              case measure => omega
          · obtain rfl : j = q.stages.length := by omega
            have HPZ := Lib.hid (show P ++ stT true (q.stages.take q.stages.length) = ptT true (l.parts.take (k + 1)) by rw [HPE.out, List.take_length])
            clear hb
            go_wp2
            go_roundg (gk0 - 1)
            case rel => exact ⟨k + 1, by go_num, by omega, by omega, HB.out, HX.out, HS.out, str_eq (by rw [HPZ.out])⟩
            case measure => omega
    · obtain rfl : k = l.parts.length := by omega
      have hpt := HPT.out l.parts.length
      obtain ⟨P, hP⟩ : ∃ P, ptT true (l.parts.take l.parts.length) = P := ⟨_, rfl⟩
      rw [hP] at hpt ⊢
      have HLN := Lib.hid (show lnT l = P ++ if l.bg then [32, 38] else [] by unfold lnT; rw [← hP, List.take_length])
      have x1 : wr.cell? ⟨w.heap.size, 1, none⟩ = some (.bool l.bg) := HX.out.cell 1
      have hxl := HX.out.lt
      have hz : (bs P).size ≤ 100000000000 := by rw [bs_size]; exact hpt
      clear hb hP
      cases hbg : l.bg with
      | false =>
        rw [hbg] at x1 HLN
        have HL2 := Lib.hid (show lnT l = P by rw [HLN.out]; simp)
        clear hbg
        by_cases hlong : 1024 < P.length
        · have d1 : decide ((1024 : Int) < ((bs P).size : Int)) = true := decide_eq_true (by rw [bs_size]; omega)
          have d2 : 1024 < (bs P).size := by rw [bs_size]; exact hlong
          have HR2 := Lib.hid (prtS_2 HV.out (by rw [HL2.out]; exact hlong))
          clear hlong
          go_wp2
          go_ret2
          exact prt_ret HR2.out HB.out
        · have d1 : decide ((1024 : Int) < ((bs P).size : Int)) = false := decide_eq_false (by rw [bs_size]; omega)
          have d2 : ¬ 1024 < (bs P).size := by rw [bs_size]; exact hlong
          have HR2 := Lib.hid (prtS_3 HV.out (by rw [HL2.out]; exact hlong))
          clear hlong
          go_wp2
          go_ret2
          rw [← HL2.out]
          exact prt_ret HR2.out HB.out
      | true =>
        rw [hbg] at x1 HLN
        have HL2 := Lib.hid (show lnT l = P ++ [32, 38] by rw [HLN.out]; simp)
        have S1 := str_add (bs P) (⟨#[32, 38]⟩ : ByteArray) (bs (P ++ [32, 38])) (by show (bs P).size + 2 ≤ _; omega) (bs_app _ _).symm
        have hz4 : (bs (P ++ [32, 38])).size ≤ 100000000002 := by rw [bs_size, List.length_append]; simp; omega
        clear hbg
        obtain ⟨P2, hP2⟩ : ∃ P2, P ++ [32, 38] = P2 := ⟨_, rfl⟩
        rw [hP2] at S1 HL2 hz4
        clear hP2
        by_cases hlong : 1024 < P2.length
        · have d1 : decide ((1024 : Int) < ((bs P2).size : Int)) = true := decide_eq_true (by rw [bs_size]; omega)
          have d2 : 1024 < (bs P2).size := by rw [bs_size]; exact hlong
          have HR2 := Lib.hid (prtS_2 HV.out (by rw [HL2.out]; exact hlong))
          clear hlong
          go_wp2
          go_ret2
          exact prt_ret HR2.out HB.out
        · have d1 : decide ((1024 : Int) < ((bs P2).size : Int)) = false := decide_eq_false (by rw [bs_size]; omega)
          have d2 : ¬ 1024 < (bs P2).size := by rw [bs_size]; exact hlong
          have HR2 := Lib.hid (prtS_3 HV.out (by rw [HL2.out]; exact hlong))
          clear hlong
          go_wp2
          go_ret2
          rw [← HL2.out]
          exact prt_ret HR2.out HB.out
theorem Print_any (w : World) (v : Value) (l : Ln) (h : RowRd 49 plV (NPp 61 42 140 46) w v l.parts) (hlim : LnIn l) :
    Calls Try.prog 35 #[.agg #[v, .bool l.bg]] w fun e w' => PrtP w l e w' := by
  by_cases hz : lchk l = 0
  · exact Print_go w v l h hlim hz
  · exact Print_no w v l h hlim _ rfl hz
end Go.Proofs.Ytiddchpkmcncdaa
