/- Walks of layer 41: short. -/
import Derived.Test.YtiddchpkmcncdaaS1
import Derived.Deep.DeepCutAuto
namespace Go.Proofs.Ytiddchpkmcncdaa
open Go.RowKit
set_option linter.unusedSimpArgs false
set_option linter.unusedVariables false
def cutA (a : Asg) : Asg := ⟨a.name.take 60, cutW a.value⟩
def cutS (d : Sm) : Sm := ⟨(d.asg.take 36).map cutA, (d.words.take 36).map cutW, cutW d.inn, cutW d.out, d.app⟩
def cutQ (q : Pl) : Pl := ⟨q.wh, (q.stages.take 10).map cutS⟩
def cutL (l : Ln) : Ln := ⟨(l.parts.take 18).map cutQ, l.bg⟩
theorem map_next {α β : Type} (f : α → β) (l : List α) (k : Nat) (h : k < l.length) : (l.take (k + 1)).map f = (l.take k).map f ++ [f l[k]] := by
  rw [List.take_succ_eq_append_getElem h, List.map_append, List.map_singleton]
theorem min60 (t : Bs) : ∃ n, n ≤ t.length ∧ min ((bs t).size : Int) 60 = (n : Int) ∧ t.take n = t.take 60 := by
  rw [bs_size]
  rcases Nat.lt_or_ge t.length 60 with h | h
  · exact ⟨t.length, Nat.le_refl _, by omega, by rw [List.take_length, List.take_of_length_le (by omega)]⟩
  · exact ⟨60, h, by omega, rfl⟩
/-- A short simple command under construction. -/
def ShS (w : World) (g : Nat) (cs : Array Value) (c : Sm) (wr : World) : Prop :=
  Below w.heap.size w wr ∧ Blk wr w.heap.size 109 cs ∧ SmB 51 39 112 109 w.heap.size g c wr ∧ w.heap.size < g
theorem sh_set {w w2 : World} {g : Nat} {cs : Array Value} {inn out : Wd} {ap : Bool} {z0 z1 z2 z3 z4 vi vo : Value}
    (hb : Below w.heap.size w w2) (hx : Blk w2 w.heap.size 109 cs) (hd : Blk w2 g 109 #[z0, z1, z2, z3, z4]) (hi : Rd 51 w2 vi inn.length (pcC inn)) (ho : Rd 51 w2 vo out.length (pcC out)) (hg : w.heap.size < g) :
    ShS w g cs ⟨[], [], inn, out, ap⟩ (((((w2.setCell ⟨g, 0, none⟩ (.slice none 0 0)).setCell ⟨g, 1, none⟩ (.slice none 0 0)).setCell ⟨g, 2, none⟩ vi).setCell ⟨g, 3, none⟩ vo).setCell ⟨g, 4, none⟩ (.bool ap)) := by
  obtain ⟨B, G⟩ := set5 hd (.slice none 0 0) (.slice none 0 0) vi vo (.bool ap)
  have K := Kept.of_blk [109] hd G (by simp)
  refine ⟨below_of_grown' hb G (by omega), hx.grown G (by intro e; injection e with e; omega), SmB.new B (Rd.keep hi K rfl) (Rd.keep ho K rfl), hg⟩
theorem sh_new {w w2 : World} {cs : Array Value} {inn out : Wd} {ap : Bool} {vi vo : Value}
    (hb : Below w.heap.size w w2) (hx : Blk w2 w.heap.size 109 cs) (hi : Rd 51 w2 vi inn.length (pcC inn)) (ho : Rd 51 w2 vo out.length (pcC out)) :
    ShS w w2.heap.size cs ⟨[], [], inn, out, ap⟩ (w2.alloc (.cells #[.slice none 0 0, .slice none 0 0, vi, vo, .bool ap] 109)) := by
  have B := Blk.new w2 109 #[.slice none 0 0, .slice none 0 0, vi, vo, .bool ap]
  have hn : Below w2.heap.size w2 (w2.alloc (.cells #[.slice none 0 0, .slice none 0 0, vi, vo, .bool ap] 109)) := (Below.refl _ _).alloc (Nat.le_refl _) _
  exact ⟨hb.alloc hb.size _, hx.alloc _, SmB.new B (Rd.next hi hn) (Rd.next ho hn), hx.lt⟩
def ShA (w : World) (g : Nat) (cs : Array Value) (d : Sm) (gk : Nat) (v : Value) (wr : World) : Prop :=
  ∃ k, v = .int .i64 ((k : Nat) : Int) ∧ k ≤ d.asg.length ∧ k ≤ 36 ∧ gk + k = d.asg.length + 1 ∧ ShS w g cs ⟨(d.asg.take k).map cutA, [], cutW d.inn, cutW d.out, d.app⟩ wr
def ShW (w : World) (g : Nat) (cs : Array Value) (d : Sm) (gk : Nat) (v : Value) (wr : World) : Prop :=
  ∃ k, v = .int .i64 ((k : Nat) : Int) ∧ k ≤ d.words.length ∧ k ≤ 36 ∧ gk + k = d.words.length + 1 ∧ ShS w g cs ⟨(d.asg.take 36).map cutA, (d.words.take k).map cutW, cutW d.inn, cutW d.out, d.app⟩ wr
def ShP (wo : World) (q : Pl) (gk : Nat) (v : Value) (wr : World) : Prop :=
  ∃ j, v = .int .i64 ((j : Nat) : Int) ∧ j ≤ q.stages.length ∧ j ≤ 10 ∧ gk + j = q.stages.length + 1 ∧ Below wo.heap.size wo wr ∧ PlB 51 39 112 109 101 wo.heap.size wo.heap.size ⟨q.wh, (q.stages.take j).map cutS⟩ wr
def ShL (w : World) (g : Nat) (cs zs : Array Value) (l : Ln) (gk : Nat) (v : Value) (wr : World) : Prop :=
  ∃ k, v = .int .i64 ((k : Nat) : Int) ∧ k ≤ l.parts.length ∧ k ≤ 18 ∧ gk + k = l.parts.length + 1 ∧ Below w.heap.size w wr ∧ Blk wr w.heap.size 30 cs ∧ Blk wr (w.heap.size + 1) 30 zs ∧ LnB 51 39 112 109 101 30 w.heap.size g ⟨(l.parts.take k).map cutQ, l.bg⟩ wr
set_option maxRecDepth 100000 in
set_option maxHeartbeats 32000000 in
theorem short_any (B : Nat) (w : World) (v : Value) (l : Ln) (h : RowRa plV (AP B) B w v l.parts) (hB : B ≤ w.heap.size) :
    Calls Try.prog 22 #[.agg #[v, .bool l.bg]] w fun e w' => ∃ v', e = .returned (.agg #[v', .bool l.bg]) ∧ RowRd 101 plV (NPp 51 39 112 109) w' v' (cutL l).parts ∧ Below w.heap.size w w' := by
  obtain ⟨ja, hja, hja0, hja1, hja2⟩ := info_parts info112
  obtain ⟨jw, hjw, hjw0, hjw1, hjw2⟩ := info_parts info39
  obtain ⟨js, hjs, hjs0, hjs1, hjs2⟩ := info_parts info109
  obtain ⟨jq, hjq, hjq0, hjq1, hjq2⟩ := info_parts info101
  obtain ⟨A, c, rfl, xa, xam, hA2⟩ := RowRa.all h plV_len
  unfold maxLen at xam
  have HA := Lib.hid hA2
  clear h hA2
  go_enter Try.func22, Try.ntmps22
  have HX0 := Lib.hid (((Blk.new w 30 #[.slice A l.parts.length c, .bool l.bg]).alloc (.cells #[.slice none 0 0, .bool false] 30)).alloc (.cells #[.slice none 0 0, .bool l.bg] 30))
  have HR0 := Lib.hid ((show Blk ((w.alloc (.cells #[.slice A l.parts.length c, .bool l.bg] 30)).alloc (.cells #[.slice none 0 0, .bool false] 30)) (w.heap.size + 1) 30 #[.slice none 0 0, .bool false] from by have := Blk.new (w.alloc (.cells #[.slice A l.parts.length c, .bool l.bg] 30)) 30 #[.slice none 0 0, .bool false]; simpa using this).alloc (.cells #[.slice none 0 0, .bool l.bg] 30))
  have HG0 := Lib.hid (show LnB 51 39 112 109 101 30 w.heap.size (w.heap.size + 1 + 1) ⟨[], l.bg⟩ (((w.alloc (.cells #[.slice A l.parts.length c, .bool l.bg] 30)).alloc (.cells #[.slice none 0 0, .bool false] 30)).alloc (.cells #[.slice none 0 0, .bool l.bg] 30)) from LnB.new (by have := Blk.new ((w.alloc (.cells #[.slice A l.parts.length c, .bool l.bg] 30)).alloc (.cells #[.slice none 0 0, .bool false] 30)) 30 #[.slice none 0 0, .bool l.bg]; simpa using this))
  have HB0 := Lib.hid ((((Below.refl w.heap.size w).alloc (Nat.le_refl _) (.cells #[.slice A l.parts.length c, .bool l.bg] 30)).alloc (by simp) (.cells #[.slice none 0 0, .bool false] 30)).alloc (by simp; omega) (.cells #[.slice none 0 0, .bool l.bg] 30))
  go_wp2
  generalize (((w.alloc (.cells #[.slice A l.parts.length c, .bool l.bg] 30)).alloc (.cells #[.slice none 0 0, .bool false] 30)).alloc (.cells #[.slice none 0 0, .bool l.bg] 30)) = wa at *
  obtain ⟨gg, hgg⟩ : ∃ gg, w.heap.size + 1 + 1 = gg := ⟨_, rfl⟩
  rw [hgg] at HG0
  simp only [hgg]
  have hg1 : w.heap.size + 1 < gg := by omega
  clear hgg
  go_loopg [4] (l.parts.length + 1) (fun gk v wr => ShL w gg #[.slice A l.parts.length c, .bool l.bg] #[.slice none 0 0, .bool false] l gk v wr)
  case atStart => exact ⟨0, rfl, Nat.zero_le _, by omega, by omega, HB0.out, HX0.out, HR0.out, HG0.out⟩
  case round =>
    obtain ⟨k, rfl, hk, hk18, hgk, hb, hX, hZ, hG⟩ := hrel
    have HX := Lib.hid hX
    have HZ := Lib.hid hZ
    have HG := Lib.hid hG
    have HB := Lib.hid hb
    clear hX hZ hG HX0 HR0 HG0 HB0
    by_cases hlt : k < l.parts.length
    · have t1 : decide ((k : Int) < (l.parts.length : Int)) = true := decide_eq_true (by omega)
      by_cases h8 : k < 18
      · have t2 : decide ((k : Int) < 18) = true := decide_eq_true (by omega)
        obtain ⟨b, o, u, rfl, hb0, hN, hx⟩ := HA.out k hlt
        have HTK := Lib.hid (map_next cutQ l.parts k hlt)
        obtain ⟨q, hq⟩ : ∃ q, l.parts[k] = q := ⟨_, rfl⟩
        rw [hq] at hN hx HTK
        clear hq
        obtain ⟨wo, rfl⟩ : ∃ wo : World, wo = wr := ⟨_, rfl⟩
        obtain ⟨Au, cu, rfl, xu, xum, hSt⟩ := RowRa.all (show RowRa smV (AS B) B w u q.stages from hN) smV_len
        unfold maxLen at xum
        have HSS := Lib.hid hSt
        have p0 := hx 0 _ rfl
        have p1 := hx 1 _ rfl
        have hbw : b < w.heap.size := Nat.lt_of_lt_of_le hb0 hB
        have hbo : b < wo.heap.size := Nat.lt_of_lt_of_le hbw hb.size
        have f0 : wo.cell? ⟨b, o + k * 2, none⟩ = some (.int .i64 q.wh) := ((bcell hb).1 b (o + k * 2) hbw).trans (by simpa using p0)
        have f1 : wo.cell? ⟨b, o + k * 2 + 1, none⟩ = some (.slice Au q.stages.length cu) := ((bcell hb).1 b (o + k * 2 + 1) hbw).trans (by rw [Nat.add_assoc]; exact p1)
        have x0 : wo.cell? ⟨w.heap.size, 0, none⟩ = some (.slice (some ⟨b, o, none⟩) l.parts.length c) := HX.out.cell 0
        have hxo : w.heap.size < wo.heap.size := HX.out.lt
        have i1 : (0 : Int) ≤ (k : Int) := by omega
        have i2 : (k : Int) < (l.parts.length : Int) := by omega
        have X0 := Lib.hid x0
        have F1 := Lib.hid f1
        have HP0 := Lib.hid (show PlB 51 39 112 109 101 wo.heap.size wo.heap.size ⟨q.wh, []⟩ (wo.alloc (.cells #[.int .i64 q.wh, .slice none 0 0] 101)) from PlB.new (Blk.new wo 101 _))
        have HB1 := Lib.hid ((Below.refl wo.heap.size wo).alloc (Nat.le_refl _) (.cells #[.int .i64 q.wh, .slice none 0 0] 101))
        clear hN hx p0 p1 hSt
        go_wp2
        generalize (wo.alloc (.cells #[.int .i64 q.wh, .slice none 0 0] 101)) = wb at *
        clear x0 f0 f1 i1 i2 t1 t2
        obtain ⟨gk0, rfl⟩ : ∃ gk0 : Nat, gk0 = gk := ⟨_, rfl⟩
        go_loopg [6] (q.stages.length + 1) (fun gk v wr => ShP wo q gk v wr)
        case atStart => exact ⟨0, rfl, Nat.zero_le _, by omega, by omega, HB1.out, HP0.out⟩
        case round =>
          obtain ⟨j, rfl, hj, hj10, hgj, hbj, hP⟩ := hrel
          have HPJ := Lib.hid hP
          have HBW := Lib.hid hbj
          clear hP HP0 HB1
          have x0 := ((bcell hbj).1 _ 0 hxo).trans X0.out
          have f1 := ((bcell hbj).1 b _ hbo).trans F1.out
          have hbr : b < wr.heap.size := Nat.lt_of_lt_of_le hbo hbj.size
          have hxr : w.heap.size < wr.heap.size := Nat.lt_of_lt_of_le hxo hbj.size
          have i1 : (0 : Int) ≤ (k : Int) := by omega
          have i2 : (k : Int) < (l.parts.length : Int) := by omega
          clear hbj
          by_cases hlt : j < q.stages.length
          · have t1 : decide ((j : Int) < (q.stages.length : Int)) = true := decide_eq_true (by omega)
            by_cases h8 : j < 10
            · have t2 : decide ((j : Int) < 10) = true := decide_eq_true (by omega)
              obtain ⟨b2, o2, u4, rfl, hb2, hN, hx⟩ := HSS.out j hlt
              have HTJ := Lib.hid (map_next cutS q.stages j hlt)
              obtain ⟨d, hd⟩ : ∃ d, q.stages[j] = d := ⟨_, rfl⟩
              rw [hd] at hN hx HTJ
              clear hd
              have p0 := hx 0 _ rfl
              have p1 := hx 1 _ rfl
              have p2 := hx 2 _ rfl
              have p3 := hx 3 _ rfl
              have p4 := hx 4 _ rfl
              obtain ⟨u41, u42, u43, u44⟩ := u4
              obtain ⟨n1, n2, n3, n4⟩ := hN
              simp only at n1 n2 n3 n4 p0 p1 p2 p3 p4
              obtain ⟨sa, na, hva, xa, xm, hAA⟩ := RowRa.all n1 asgV_len
              obtain ⟨sb, nb, hvb, xb, xn, hAW⟩ := RowRa.all n2 wdV_len
              obtain ⟨si, ni, hvi, _⟩ := RowRa.form n3
              obtain ⟨so, no, hvo, _⟩ := RowRa.form n4
              unfold maxLen at xm xn
              subst hva hvb hvi hvo
              have HAA := Lib.hid hAA
              have HAW := Lib.hid hAW
              rw [← Nat.add_assoc] at p1 p2 p3 p4
              rw [Nat.add_zero] at p0
              obtain ⟨ws, rfl⟩ : ∃ ws : World, ws = wr := ⟨_, rfl⟩
              have HWS := Lib.hid (HB.out.trans (HBW.out.mono HB.out.size))
              have hb2w : b2 < w.heap.size := Nat.lt_of_lt_of_le hb2 hB
              have e0 := ((bcell HWS.out).1 b2 _ hb2w).trans p0
              have e1 := ((bcell HWS.out).1 b2 _ hb2w).trans p1
              have e2 := ((bcell HWS.out).1 b2 _ hb2w).trans p2
              have e3 := ((bcell HWS.out).1 b2 _ hb2w).trans p3
              have e4 := ((bcell HWS.out).1 b2 _ hb2w).trans p4
              have hbr2 : b2 < ws.heap.size := Nat.lt_of_lt_of_le hb2w HWS.out.size
              have j1 : (0 : Int) ≤ (j : Int) := by omega
              have j2 : (j : Int) < (q.stages.length : Int) := by omega
              have hBs0 : B ≤ ws.heap.size := Nat.le_trans hB HWS.out.size
              have HX0 := Lib.hid (Blk.new ws 109 #[.slice sa d.asg.length na, .slice sb d.words.length nb, .slice si d.inn.length ni, .slice so d.out.length no, .bool d.app])
              have HB5 := Lib.hid ((Below.refl ws.heap.size ws).alloc (Nat.le_refl _) (.cells #[.slice sa d.asg.length na, .slice sb d.words.length nb, .slice si d.inn.length ni, .slice so d.out.length no, .bool d.app] 109))
              have AI0 := Lib.hid (show AW B ((ws.alloc (.cells #[.slice sa d.asg.length na, .slice sb d.words.length nb, .slice si d.inn.length ni, .slice so d.out.length no, .bool d.app] 109)).drew) _ d.inn from AW.below (AW.below n3 (HWS.out.mono hB)) (HB5.out.drew.mono hBs0))
              have AO0 := Lib.hid (show AW B ((ws.alloc (.cells #[.slice sa d.asg.length na, .slice sb d.words.length nb, .slice si d.inn.length ni, .slice so d.out.length no, .bool d.app] 109)).drew) _ d.out from AW.below (AW.below n4 (HWS.out.mono hB)) (HB5.out.drew.mono hBs0))
              clear hx p0 p1 p2 p3 p4 n1 n2 n3 n4 hAA hAW
              go_upto_region 10 with (fail)
              clear e0 e1 e2 e3 e4 x0 f1 j1 j2 i1 i2
              generalize (ws.alloc (.cells #[.slice sa d.asg.length na, .slice sb d.words.length nb, .slice si d.inn.length ni, .slice so d.out.length no, .bool d.app] 109)) = wa at *
              have x2 : wa.cell? ⟨ws.heap.size, 2, none⟩ = some (.slice si d.inn.length ni) := HX0.out.cell 2
              have x3 : wa.cell? ⟨ws.heap.size, 3, none⟩ = some (.slice so d.out.length no) := HX0.out.cell 3
              have x4 : wa.cell? ⟨ws.heap.size, 4, none⟩ = some (.bool d.app) := HX0.out.cell 4
              have hxl : ws.heap.size < wa.drew.heap.size := HX0.out.lt
              have hwl : ws.heap.size < wa.heap.size := HX0.out.lt
              have hq0 : wa.heap.size ≠ ws.heap.size := by omega
              have hBa : B ≤ wa.drew.heap.size := Nat.le_trans hBs0 HB5.out.size
              have HBD := Lib.hid HB5.out.drew
              have HBZ := Lib.hid (show Below wa.drew.heap.size wa.drew ((wa.alloc (.cells #[.slice none 0 0, .slice none 0 0, .slice none 0 0, .slice none 0 0, .bool false] 109)).drew) from (Below.refl wa.drew.heap.size wa.drew).alloc (Nat.le_refl _) (.cells #[.slice none 0 0, .slice none 0 0, .slice none 0 0, .slice none 0 0, .bool false] 109))
              have DZ := Lib.hid (show Blk ((wa.alloc (.cells #[.slice none 0 0, .slice none 0 0, .slice none 0 0, .slice none 0 0, .bool false] 109)).drew) wa.heap.size 109 #[.slice none 0 0, .slice none 0 0, .slice none 0 0, .slice none 0 0, .bool false] from Blk.new wa 109 #[.slice none 0 0, .slice none 0 0, .slice none 0 0, .slice none 0 0, .bool false])
              go_cut [8] (fun s8 wx => ∃ g : Nat, s8 = .pointer (some ⟨g, 0, none⟩) ∧ ShS ws g #[.slice sa d.asg.length na, .slice sb d.words.length nb, .slice si d.inn.length ni, .slice so d.out.length no, .bool d.app] ⟨[], [], cutW d.inn, cutW d.out, d.app⟩ wx)
              case first =>
                go_region_held3 (fun w' => w'.cell? ⟨ws.heap.size, 2, none⟩ = some (.slice si d.inn.length ni) ∧ w'.cell? ⟨ws.heap.size, 3, none⟩ = some (.slice so d.out.length no) ∧ w'.cell? ⟨ws.heap.size, 4, none⟩ = some (.bool d.app))
                  (first | (with_reducible exact ⟨y2, y3, y4⟩) | go_keep)
                  (first | (go_at_call 30; (with_reducible refine (shortWord_any B wa.drew _ d.inn AI0.out hBa).mono ?_); rintro e w1 ⟨v1, rfl, ho1, hb1⟩; obtain ⟨AI, cI, rfl, _⟩ := own_len ho1; have QI := Lib.hid (Rd.of_own ho1); have HB1 := Lib.hid hb1; have HB1Z := Lib.hid (HB1.out.alloc HB1.out.size (.cells #[.slice none 0 0, .slice none 0 0, .slice none 0 0, .slice none 0 0, .bool false] 109)); have X1 := Lib.hid (HX0.out.drew.next HB1.out hxl); have D1Z := Lib.hid (Blk.new w1 109 #[.slice none 0 0, .slice none 0 0, .slice none 0 0, .slice none 0 0, .bool false]); have hl1 : wa.heap.size ≤ w1.heap.size := HB1.out.size; have hq1 : w1.heap.size ≠ ws.heap.size := Nat.ne_of_gt (Nat.lt_of_lt_of_le hwl hl1); have y2 := X1.out.cell 2; have y3 := X1.out.cell 3; have y4 := X1.out.cell 4; simp only [List.getElem?_toArray, List.getElem?_cons_zero, List.getElem?_cons_succ] at y2 y3 y4; clear ho1 hb1) | (go_at_call 30; (with_reducible refine (shortWord_any B ((wa.alloc (.cells #[.slice none 0 0, .slice none 0 0, .slice none 0 0, .slice none 0 0, .bool false] 109)).drew) _ d.inn (AW.below AI0.out (HBZ.out.mono hBa)) (Nat.le_trans hBa HBZ.out.size)).mono ?_); rintro e w1 ⟨v1, rfl, ho1, hb1⟩; obtain ⟨AI, cI, rfl, _⟩ := own_len ho1; have QI := Lib.hid (Rd.of_own ho1); have HB1 := Lib.hid (HBZ.out.trans (hb1.mono HBZ.out.size)); have D1 := Lib.hid (DZ.out.next hb1 DZ.out.lt); have HB1Z := Lib.hid (HB1.out.alloc HB1.out.size (.cells #[.slice none 0 0, .slice none 0 0, .slice none 0 0, .slice none 0 0, .bool false] 109)); have X1 := Lib.hid (HX0.out.drew.next HB1.out hxl); have D1Z := Lib.hid (Blk.new w1 109 #[.slice none 0 0, .slice none 0 0, .slice none 0 0, .slice none 0 0, .bool false]); have hl1 : wa.heap.size ≤ w1.heap.size := HB1.out.size; have hq1 : w1.heap.size ≠ ws.heap.size := Nat.ne_of_gt (Nat.lt_of_lt_of_le hwl hl1); have y2 := X1.out.cell 2; have y3 := X1.out.cell 3; have y4 := X1.out.cell 4; simp only [List.getElem?_toArray, List.getElem?_cons_zero, List.getElem?_cons_succ] at y2 y3 y4; clear ho1 hb1) | (go_at_call 30; (with_reducible refine (shortWord_any B wa.drew _ d.out AO0.out hBa).mono ?_); rintro e w1 ⟨v1, rfl, ho1, hb1⟩; obtain ⟨AO, cO, rfl, _⟩ := own_len ho1; have QO := Lib.hid (Rd.of_own ho1); have HB1 := Lib.hid hb1; have HB1Z := Lib.hid (HB1.out.alloc HB1.out.size (.cells #[.slice none 0 0, .slice none 0 0, .slice none 0 0, .slice none 0 0, .bool false] 109)); have X1 := Lib.hid (HX0.out.drew.next HB1.out hxl); have D1Z := Lib.hid (Blk.new w1 109 #[.slice none 0 0, .slice none 0 0, .slice none 0 0, .slice none 0 0, .bool false]); have hl1 : wa.heap.size ≤ w1.heap.size := HB1.out.size; have hq1 : w1.heap.size ≠ ws.heap.size := Nat.ne_of_gt (Nat.lt_of_lt_of_le hwl hl1); have y2 := X1.out.cell 2; have y3 := X1.out.cell 3; have y4 := X1.out.cell 4; simp only [List.getElem?_toArray, List.getElem?_cons_zero, List.getElem?_cons_succ] at y2 y3 y4; clear ho1 hb1) | (go_at_call 30; (with_reducible refine (shortWord_any B ((wa.alloc (.cells #[.slice none 0 0, .slice none 0 0, .slice none 0 0, .slice none 0 0, .bool false] 109)).drew) _ d.out (AW.below AO0.out (HBZ.out.mono hBa)) (Nat.le_trans hBa HBZ.out.size)).mono ?_); rintro e w1 ⟨v1, rfl, ho1, hb1⟩; obtain ⟨AO, cO, rfl, _⟩ := own_len ho1; have QO := Lib.hid (Rd.of_own ho1); have HB1 := Lib.hid (HBZ.out.trans (hb1.mono HBZ.out.size)); have D1 := Lib.hid (DZ.out.next hb1 DZ.out.lt); have HB1Z := Lib.hid (HB1.out.alloc HB1.out.size (.cells #[.slice none 0 0, .slice none 0 0, .slice none 0 0, .slice none 0 0, .bool false] 109)); have X1 := Lib.hid (HX0.out.drew.next HB1.out hxl); have D1Z := Lib.hid (Blk.new w1 109 #[.slice none 0 0, .slice none 0 0, .slice none 0 0, .slice none 0 0, .bool false]); have hl1 : wa.heap.size ≤ w1.heap.size := HB1.out.size; have hq1 : w1.heap.size ≠ ws.heap.size := Nat.ne_of_gt (Nat.lt_of_lt_of_le hwl hl1); have y2 := X1.out.cell 2; have y3 := X1.out.cell 3; have y4 := X1.out.cell 4; simp only [List.getElem?_toArray, List.getElem?_cons_zero, List.getElem?_cons_succ] at y2 y3 y4; clear ho1 hb1) | (go_at_call 30; (with_reducible refine (shortWord_any B w1 _ d.inn (AW.below AI0.out (HB1.out.mono hBa)) (Nat.le_trans hBa HB1.out.size)).mono ?_); rintro e w2 ⟨v2, rfl, ho2, hb2⟩; obtain ⟨AI, cI, rfl, _⟩ := own_len ho2; have QI := Lib.hid (Rd.of_own ho2); have HB2 := Lib.hid (HB1.out.trans (hb2.mono HB1.out.size)); have X2 := Lib.hid (HX0.out.drew.next HB2.out hxl); have PO := Lib.hid (Rd.next (QO.out) hb2); have PI := Lib.hid (QI.out); have hl2 : w1.heap.size ≤ w2.heap.size := Nat.le_trans (Nat.le_refl _) hb2.size; have hq2 : w2.heap.size ≠ ws.heap.size := Nat.ne_of_gt (Nat.lt_of_lt_of_le hwl (Nat.le_trans hl1 hl2)); (try (have D2 := Lib.hid (D1.out.next hb2 D1.out.lt); have d0 := D2.out.cell 0; have d1 := D2.out.cell 1; have d2 := D2.out.cell 2; have d3 := D2.out.cell 3; have d4 := D2.out.cell 4; have df0 := D2.out.frozen 0; have df1 := D2.out.frozen 1; have df2 := D2.out.frozen 2; have df3 := D2.out.frozen 3; have df4 := D2.out.frozen 4; have hdl := D2.out.lt; simp only [List.getElem?_toArray, List.getElem?_cons_zero, List.getElem?_cons_succ] at d0 d1 d2 d3 d4)); have y2 := X2.out.cell 2; have y3 := X2.out.cell 3; have y4 := X2.out.cell 4; simp only [List.getElem?_toArray, List.getElem?_cons_zero, List.getElem?_cons_succ] at y2 y3 y4; clear ho2 hb2) | (go_at_call 30; (with_reducible refine (shortWord_any B (w1.alloc (.cells #[.slice none 0 0, .slice none 0 0, .slice none 0 0, .slice none 0 0, .bool false] 109)) _ d.inn (AW.below AI0.out (HB1Z.out.mono hBa)) (Nat.le_trans hBa HB1Z.out.size)).mono ?_); rintro e w2 ⟨v2, rfl, ho2, hb2⟩; obtain ⟨AI, cI, rfl, _⟩ := own_len ho2; have QI := Lib.hid (Rd.of_own ho2); have HB2 := Lib.hid (HB1Z.out.trans (hb2.mono HB1Z.out.size)); have X2 := Lib.hid (HX0.out.drew.next HB2.out hxl); have PO := Lib.hid (Rd.next (QO.out.next ((Below.refl _ _).alloc (Nat.le_refl _) (.cells #[.slice none 0 0, .slice none 0 0, .slice none 0 0, .slice none 0 0, .bool false] 109))) hb2); have PI := Lib.hid (QI.out); have hl2 : w1.heap.size ≤ w2.heap.size := Nat.le_trans (by simp) hb2.size; have hq2 : w2.heap.size ≠ ws.heap.size := Nat.ne_of_gt (Nat.lt_of_lt_of_le hwl (Nat.le_trans hl1 hl2)); have D2 := Lib.hid (D1Z.out.next hb2 D1Z.out.lt); have d0 := D2.out.cell 0; have d1 := D2.out.cell 1; have d2 := D2.out.cell 2; have d3 := D2.out.cell 3; have d4 := D2.out.cell 4; have df0 := D2.out.frozen 0; have df1 := D2.out.frozen 1; have df2 := D2.out.frozen 2; have df3 := D2.out.frozen 3; have df4 := D2.out.frozen 4; have hdl := D2.out.lt; simp only [List.getElem?_toArray, List.getElem?_cons_zero, List.getElem?_cons_succ] at d0 d1 d2 d3 d4; have y2 := X2.out.cell 2; have y3 := X2.out.cell 3; have y4 := X2.out.cell 4; simp only [List.getElem?_toArray, List.getElem?_cons_zero, List.getElem?_cons_succ] at y2 y3 y4; clear ho2 hb2) | (go_at_call 30; (with_reducible refine (shortWord_any B w1 _ d.out (AW.below AO0.out (HB1.out.mono hBa)) (Nat.le_trans hBa HB1.out.size)).mono ?_); rintro e w2 ⟨v2, rfl, ho2, hb2⟩; obtain ⟨AO, cO, rfl, _⟩ := own_len ho2; have QO := Lib.hid (Rd.of_own ho2); have HB2 := Lib.hid (HB1.out.trans (hb2.mono HB1.out.size)); have X2 := Lib.hid (HX0.out.drew.next HB2.out hxl); have PI := Lib.hid (Rd.next (QI.out) hb2); have PO := Lib.hid (QO.out); have hl2 : w1.heap.size ≤ w2.heap.size := Nat.le_trans (Nat.le_refl _) hb2.size; have hq2 : w2.heap.size ≠ ws.heap.size := Nat.ne_of_gt (Nat.lt_of_lt_of_le hwl (Nat.le_trans hl1 hl2)); (try (have D2 := Lib.hid (D1.out.next hb2 D1.out.lt); have d0 := D2.out.cell 0; have d1 := D2.out.cell 1; have d2 := D2.out.cell 2; have d3 := D2.out.cell 3; have d4 := D2.out.cell 4; have df0 := D2.out.frozen 0; have df1 := D2.out.frozen 1; have df2 := D2.out.frozen 2; have df3 := D2.out.frozen 3; have df4 := D2.out.frozen 4; have hdl := D2.out.lt; simp only [List.getElem?_toArray, List.getElem?_cons_zero, List.getElem?_cons_succ] at d0 d1 d2 d3 d4)); have y2 := X2.out.cell 2; have y3 := X2.out.cell 3; have y4 := X2.out.cell 4; simp only [List.getElem?_toArray, List.getElem?_cons_zero, List.getElem?_cons_succ] at y2 y3 y4; clear ho2 hb2) | (go_at_call 30; (with_reducible refine (shortWord_any B (w1.alloc (.cells #[.slice none 0 0, .slice none 0 0, .slice none 0 0, .slice none 0 0, .bool false] 109)) _ d.out (AW.below AO0.out (HB1Z.out.mono hBa)) (Nat.le_trans hBa HB1Z.out.size)).mono ?_); rintro e w2 ⟨v2, rfl, ho2, hb2⟩; obtain ⟨AO, cO, rfl, _⟩ := own_len ho2; have QO := Lib.hid (Rd.of_own ho2); have HB2 := Lib.hid (HB1Z.out.trans (hb2.mono HB1Z.out.size)); have X2 := Lib.hid (HX0.out.drew.next HB2.out hxl); have PI := Lib.hid (Rd.next (QI.out.next ((Below.refl _ _).alloc (Nat.le_refl _) (.cells #[.slice none 0 0, .slice none 0 0, .slice none 0 0, .slice none 0 0, .bool false] 109))) hb2); have PO := Lib.hid (QO.out); have hl2 : w1.heap.size ≤ w2.heap.size := Nat.le_trans (by simp) hb2.size; have hq2 : w2.heap.size ≠ ws.heap.size := Nat.ne_of_gt (Nat.lt_of_lt_of_le hwl (Nat.le_trans hl1 hl2)); have D2 := Lib.hid (D1Z.out.next hb2 D1Z.out.lt); have d0 := D2.out.cell 0; have d1 := D2.out.cell 1; have d2 := D2.out.cell 2; have d3 := D2.out.cell 3; have d4 := D2.out.cell 4; have df0 := D2.out.frozen 0; have df1 := D2.out.frozen 1; have df2 := D2.out.frozen 2; have df3 := D2.out.frozen 3; have df4 := D2.out.frozen 4; have hdl := D2.out.lt; simp only [List.getElem?_toArray, List.getElem?_cons_zero, List.getElem?_cons_succ] at d0 d1 d2 d3 d4; have y2 := X2.out.cell 2; have y3 := X2.out.cell 3; have y4 := X2.out.cell 4; simp only [List.getElem?_toArray, List.getElem?_cons_zero, List.getElem?_cons_succ] at y2 y3 y4; clear ho2 hb2))
                all_goals
                  have HBQ := Lib.hid (HBD.out.trans (HB2.out.mono HBD.out.size))
                  go_wp2_with fail
                  go_meet
                  refine ⟨_, rfl, ?_⟩
                  first
                    | with_reducible exact sh_new HBQ.out X2.out PI.out PO.out
                    | with_reducible exact sh_set HBQ.out X2.out D2.out PI.out PO.out hwl
                    | with_reducible exact sh_set HBQ.out X2.out D2.out PI.out PO.out (Nat.lt_of_lt_of_le hwl hl1)
              case rest =>
                obtain ⟨gg, rfl, hC⟩ := hcut
                have HC := Lib.hid hC
                clear hC HX0 HB5 AI0 AO0 x2 x3 x4 hxl hwl hq0 HBD HBZ DZ hBa
                go_wp2
                obtain ⟨gj, rfl⟩ : ∃ gj : Nat, gj = gk := ⟨_, rfl⟩
                go_loopg [9] (d.asg.length + 1) (fun gk v wr => ShA ws gg #[.slice sa d.asg.length na, .slice sb d.words.length nb, .slice si d.inn.length ni, .slice so d.out.length no, .bool d.app] d gk v wr)
                case atStart => exact ⟨0, rfl, Nat.zero_le _, by omega, by omega, HC.out⟩
                case round =>
                  obtain ⟨k, rfl, hk, hk36, hgk, hcs⟩ := hrel
                  have HS := Lib.hid hcs
                  clear hcs HC
                  by_cases hlt : k < d.asg.length
                  · have t1 : decide ((k : Int) < (d.asg.length : Int)) = true := decide_eq_true (by omega)
                    by_cases h8 : k < 36
                    · have t2 : decide ((k : Int) < 36) = true := decide_eq_true (by omega)
                      obtain ⟨b3, o3, u3, rfl, hb3, hN, hx⟩ := HAA.out k hlt
                      have HTK := Lib.hid (map_next cutA d.asg k hlt)
                      obtain ⟨a, ha⟩ : ∃ a, d.asg[k] = a := ⟨_, rfl⟩
                      rw [ha] at hN hx HTK
                      clear ha
                      obtain ⟨Au, cu, rfl, hcu, hcm⟩ := RowRa.form (show RowRa pfc PN B w u3 a.value from hN.1)
                      unfold maxLen at hcm
                      have p0 := hx 0 _ rfl
                      have p1 := hx 1 _ rfl
                      obtain ⟨hbk, hXr, ⟨ga, gb, gi, go, hGb, ra, rb, ri, ro⟩, hgg⟩ := HS.out
                      simp only at hGb ra rb ri ro
                      obtain ⟨vsa, hwa, hoa⟩ := ra
                      have hlk : ((d.asg.take k).map cutA).length = k := by rw [List.length_map, List.length_take]; omega
                      have HLK := Lib.hid hlk
                      rw [hlk] at hoa
                      obtain ⟨Ga, ca', rfl, _⟩ := own_len hoa
                      have hb3w : b3 < w.heap.size := Nat.lt_of_lt_of_le hb3 hB
                      have hb3s : b3 < ws.heap.size := Nat.lt_of_lt_of_le hb3w HWS.out.size
                      have hbr : b3 < wr.heap.size := Nat.lt_of_lt_of_le hb3s hbk.size
                      have E0 := Lib.hid (((bcell HWS.out).1 b3 _ hb3w).trans (show w.cell? ⟨b3, o3 + k * 2, none⟩ = some (.string (bs a.name)) by simpa using p0))
                      have e0 := ((bcell hbk).1 b3 _ hb3s).trans E0.out
                      have E1 := Lib.hid (((bcell HWS.out).1 b3 _ hb3w).trans (show w.cell? ⟨b3, o3 + k * 2 + 1, none⟩ = some (.slice Au a.value.length cu) by rw [Nat.add_assoc]; exact p1))
                      have e1 := ((bcell hbk).1 b3 _ hb3s).trans E1.out
                      have x0 : wr.cell? ⟨ws.heap.size, 0, none⟩ = some (.slice (some ⟨b3, o3, none⟩) d.asg.length na) := hXr.cell 0
                      have g0 : wr.cell? ⟨gg, 0, none⟩ = some (.slice Ga k ca') := hGb.cell 0
                      have gf0 := hGb.frozen 0
                      have hgl := hGb.lt
                      have hBs : B ≤ ws.heap.size := Nat.le_trans hB HWS.out.size
                      have hBr : B ≤ wr.drew.heap.size := Nat.le_trans hBs hbk.size
                      have HRD := Lib.hid (show AW B wr.drew (.slice Au a.value.length cu) a.value from AW.below (AW.below hN.1 (HWS.out.mono hB)) (hbk.drew.mono hBs))
                      have HXR := Lib.hid hXr
                      have HGB := Lib.hid hGb
                      have HWA := Lib.hid hwa
                      have HOA := Lib.hid hoa
                      have HRO1 := Lib.hid rb
                      have HRI := Lib.hid ri
                      have HRO := Lib.hid ro
                      have HBK := Lib.hid hbk
                      have hxl := hXr.lt
                      have hxl' : ws.heap.size < wr.drew.heap.size := hXr.lt
                      have hgl' : gg < wr.drew.heap.size := hgl
                      have hbr' : b3 < wr.drew.heap.size := hbr
                      have hne := Lib.hid (own_blk_ne hoa hGb (by decide))
                      have hq0 : gg ≠ ws.heap.size := by omega
                      have hq1 : gg ≠ b3 := by omega
                      have i1 : (0 : Int) ≤ (k : Int) := by omega
                      have i2 : (k : Int) < (d.asg.length : Int) := by omega
                      have hbs : ws.heap.size ≤ gg := by omega
                      have hz0 : a.name.length ≤ 9223372036854775807 := hN.2
                      have hz : (bs a.name).size ≤ 9223372036854775807 := by rw [bs_size]; exact hz0
                      obtain ⟨n, hn, hmin, htk⟩ := min60 a.name
                      have hn1 : (n : Int) ≤ ((bs a.name).size : Int) := by rw [bs_size]; omega
                      have hn2 : (0 : Int) ≤ (n : Int) := by omega
                      have HXT := Lib.hid (show (bs a.name).extract 0 n = bs (cutA a).name by rw [ext_take, htk]; rfl)
                      clear htk hn hz0
                      clear hN hx p0 p1 rb hXr hGb hwa hoa ri ro hbk hlk HS
                      go_upto_region 14 with (fail)
                      refine wp_region_noPanic ?_
                      refine wp_region_last (S := (fun w' => w'.cell? ⟨ws.heap.size, 0, none⟩ = some (.slice (some ⟨b3, o3, none⟩) d.asg.length na) ∧ w'.cell? ⟨b3, o3 + k * 2, none⟩ = some (.string (bs a.name)) ∧ w'.cell? ⟨b3, o3 + k * 2 + 1, none⟩ = some (.slice Au a.value.length cu) ∧ w'.cell? ⟨gg, 0, none⟩ = some (.slice Ga k ca'))) 28 28 rfl (by kernel_rfl) (by kernel_rfl) ?_ (fun hHeld => ?_)
                      · exact ⟨x0, e0, e1, g0⟩
                      refine wpAnyH_take (i := 0) (v := ?_) rfl (by kernel_rfl) (by kernel_rfl) (by kernel_rfl) (fun _ _ _ h => h) (Or.inl ⟨by rfl, ?_⟩) hHeld ?_
                      rotate_left
                      · (intro w hSw; (try dsimp only at hSw); go_simp; try with_reducible rfl)
                      try simp only [Act.put, List.setIfInBounds_toArray, List.set_cons_zero, List.set_cons_succ]
                      refine wpAnyH_take (i := 1) (v := ?_) rfl (by kernel_rfl) (by kernel_rfl) (by kernel_rfl) (fun _ _ _ h => h) (Or.inl ⟨by rfl, ?_⟩) hHeld ?_
                      rotate_left
                      · (intro w hSw; (try dsimp only at hSw); go_simp; try with_reducible rfl)
                      try simp only [Act.put, List.setIfInBounds_toArray, List.set_cons_zero, List.set_cons_succ]
                      refine wpAnyH_take (i := 2) (v := ?_) rfl (by kernel_rfl) (by kernel_rfl) (by kernel_rfl) (fun _ _ _ h => h) (Or.inl ⟨by rfl, ?_⟩) hHeld ?_
                      rotate_left
                      · (intro w hSw; (try dsimp only at hSw); go_simp; try with_reducible rfl)
                      try simp only [Act.put, List.setIfInBounds_toArray, List.set_cons_zero, List.set_cons_succ]
                      refine wpAnyH_take (i := 3) (v := ?_) rfl (by kernel_rfl) (by kernel_rfl) (by kernel_rfl) (fun _ _ _ h => h) (Or.inl ⟨by rfl, ?_⟩) hHeld ?_
                      rotate_left
                      · (intro w hSw; (try dsimp only at hSw); go_simp; try with_reducible rfl)
                      try simp only [Act.put, List.setIfInBounds_toArray, List.set_cons_zero, List.set_cons_succ]
                      refine wpAnyH_take (i := 4) (v := ?_) rfl (by kernel_rfl) (by kernel_rfl) (by kernel_rfl) (fun _ _ _ h => h) (Or.inl ⟨by rfl, ?_⟩) hHeld ?_
                      rotate_left
                      · (intro w hSw; (try dsimp only at hSw); go_simp; try with_reducible rfl)
                      try simp only [Act.put, List.setIfInBounds_toArray, List.set_cons_zero, List.set_cons_succ]
                      refine wpAnyH_take (i := 5) (v := ?_) rfl (by kernel_rfl) (by kernel_rfl) (by kernel_rfl) (fun _ _ _ h => h) (Or.inl ⟨by rfl, ?_⟩) hHeld ?_
                      rotate_left
                      · (intro w hSw; (try dsimp only at hSw); go_simp; try with_reducible rfl)
                      try simp only [Act.put, List.setIfInBounds_toArray, List.set_cons_zero, List.set_cons_succ]
                      refine wpAnyH_take (i := 6) (v := ?_) rfl (by kernel_rfl) (by kernel_rfl) (by kernel_rfl) (fun _ _ _ h => h) (Or.inl ⟨by rfl, ?_⟩) hHeld ?_
                      rotate_left
                      · (intro w hSw; (try dsimp only at hSw); go_simp; try with_reducible rfl)
                      try simp only [Act.put, List.setIfInBounds_toArray, List.set_cons_zero, List.set_cons_succ]
                      refine wpAnyH_take (i := 7) (v := ?_) rfl (by kernel_rfl) (by kernel_rfl) (by kernel_rfl) (fun _ _ _ h => h) (Or.inl ⟨by rfl, ?_⟩) hHeld ?_
                      rotate_left
                      · (intro w hSw; (try dsimp only at hSw); go_simp; try with_reducible rfl)
                      try simp only [Act.put, List.setIfInBounds_toArray, List.set_cons_zero, List.set_cons_succ]
                      refine wpAnyH_take (i := 8) (v := ?_) rfl (by kernel_rfl) (by kernel_rfl) (by kernel_rfl) (fun _ _ _ h => h) (Or.inl ⟨by rfl, ?_⟩) hHeld ?_
                      rotate_left
                      · (intro w hSw; (try dsimp only at hSw); go_simp; try with_reducible rfl)
                      try simp only [Act.put, List.setIfInBounds_toArray, List.set_cons_zero, List.set_cons_succ]
                      refine wpAnyH_take (i := 9) (v := ?_) rfl (by kernel_rfl) (by kernel_rfl) (by kernel_rfl) (fun _ _ _ h => h) (Or.inl ⟨by rfl, ?_⟩) hHeld ?_
                      rotate_left
                      · (intro w hSw; (try dsimp only at hSw); go_simp; try with_reducible rfl)
                      try simp only [Act.put, List.setIfInBounds_toArray, List.set_cons_zero, List.set_cons_succ]
                      refine wpAnyH_take (i := 10) (v := ?_) rfl (by kernel_rfl) (by kernel_rfl) (by kernel_rfl) (fun _ _ _ h => h) (Or.inl ⟨by rfl, ?_⟩) hHeld ?_
                      rotate_left
                      · (intro w hSw; (try dsimp only at hSw); go_simp; try with_reducible rfl)
                      try simp only [Act.put, List.setIfInBounds_toArray, List.set_cons_zero, List.set_cons_succ]
                      refine wpAnyH_take (i := 11) (v := ?_) rfl (by kernel_rfl) (by kernel_rfl) (by kernel_rfl) (fun _ _ _ h => h) (Or.inl ⟨by rfl, ?_⟩) hHeld ?_
                      rotate_left
                      · (intro w hSw; (try dsimp only at hSw); go_simp; try with_reducible rfl)
                      try simp only [Act.put, List.setIfInBounds_toArray, List.set_cons_zero, List.set_cons_succ]
                      refine wpAnyH_take (i := 12) (v := ?_) rfl (by kernel_rfl) (by kernel_rfl) (by kernel_rfl) (fun _ _ _ h => h) (Or.inl ⟨by rfl, ?_⟩) hHeld ?_
                      rotate_left
                      · (intro w hSw; (try dsimp only at hSw); go_simp; try with_reducible rfl)
                      try simp only [Act.put, List.setIfInBounds_toArray, List.set_cons_zero, List.set_cons_succ]
                      refine wpAnyH_take (i := 13) (v := ?_) rfl (by kernel_rfl) (by kernel_rfl) (by kernel_rfl) (fun _ _ _ h => h) (Or.inl ⟨by rfl, ?_⟩) hHeld ?_
                      rotate_left
                      · (intro w hSw; (try dsimp only at hSw); go_simp; try with_reducible rfl)
                      try simp only [Act.put, List.setIfInBounds_toArray, List.set_cons_zero, List.set_cons_succ]
                      refine wpAnyH_take (i := 14) (v := ?_) rfl (by kernel_rfl) (by kernel_rfl) (by kernel_rfl) (fun _ _ _ h => h) (Or.inl ⟨by rfl, ?_⟩) hHeld ?_
                      rotate_left
                      · (intro w hSw; (try dsimp only at hSw); go_simp; try with_reducible rfl)
                      try simp only [Act.put, List.setIfInBounds_toArray, List.set_cons_zero, List.set_cons_succ]
                      refine wpAnyH_take (i := 17) (v := ?_) rfl (by kernel_rfl) (by kernel_rfl) (by kernel_rfl) (fun _ _ _ h => h) (Or.inl ⟨by rfl, ?_⟩) hHeld ?_
                      rotate_left
                      · (intro w hSw; (try dsimp only at hSw); go_simp; try with_reducible rfl)
                      try simp only [Act.put, List.setIfInBounds_toArray, List.set_cons_zero, List.set_cons_succ]
                      refine wpAnyH_take (i := 18) (v := ?_) rfl (by kernel_rfl) (by kernel_rfl) (by kernel_rfl) (fun _ _ _ h => h) (Or.inl ⟨by rfl, ?_⟩) hHeld ?_
                      rotate_left
                      · (intro w hSw; (try dsimp only at hSw); go_simp; try with_reducible rfl)
                      try simp only [Act.put, List.setIfInBounds_toArray, List.set_cons_zero, List.set_cons_succ]
                      refine wpAnyH_take (i := 19) (v := ?_) rfl (by kernel_rfl) (by kernel_rfl) (by kernel_rfl) (fun _ _ _ h => h) (Or.inl ⟨by rfl, ?_⟩) hHeld ?_
                      rotate_left
                      · (intro w hSw; (try dsimp only at hSw); go_simp; try with_reducible rfl)
                      try simp only [Act.put, List.setIfInBounds_toArray, List.set_cons_zero, List.set_cons_succ]
                      refine wpAnyH_take (i := 20) (v := ?_) rfl (by kernel_rfl) (by kernel_rfl) (by kernel_rfl) (fun _ _ _ h => h) (Or.inl ⟨by rfl, ?_⟩) hHeld ?_
                      rotate_left
                      · (intro w hSw; (try dsimp only at hSw); go_simp; try with_reducible rfl)
                      try simp only [Act.put, List.setIfInBounds_toArray, List.set_cons_zero, List.set_cons_succ]
                      refine wpAnyH_take (i := 21) (v := ?_) rfl (by kernel_rfl) (by kernel_rfl) (by kernel_rfl) (fun _ _ _ h => h) (Or.inl ⟨by rfl, ?_⟩) hHeld ?_
                      rotate_left
                      · (intro w hSw; (try dsimp only at hSw); go_simp; try with_reducible rfl)
                      try simp only [Act.put, List.setIfInBounds_toArray, List.set_cons_zero, List.set_cons_succ]
                      refine wpAnyH_take (i := 22) (v := ?_) rfl (by kernel_rfl) (by kernel_rfl) (by kernel_rfl) (fun _ _ _ h => h) (Or.inl ⟨by rfl, ?_⟩) hHeld ?_
                      rotate_left
                      · (intro w hSw; (try dsimp only at hSw); go_simp; try with_reducible rfl)
                      try simp only [Act.put, List.setIfInBounds_toArray, List.set_cons_zero, List.set_cons_succ]
                      refine wpAnyH_ready (rs := [15, 23]) (by kernel_rfl) (by simp) ?_
                      refine AllReadyH.cons rfl (fun K hK => ?_) (AllReadyH.cons rfl (fun K hK => ?_) AllReadyH.nil)
                      · go_simp
                        refine hK.out _ _ ?_ (fun hNew => ?_)
                        · exact ⟨x0, e0, e1, g0⟩
                        clear hK K hHeld
                        have hHeld := hNew
                        clear hNew
                        try simp only [Act.put, List.setIfInBounds_toArray, List.set_cons_zero, List.set_cons_succ]
                        refine wpAnyH_take (i := 16) (v := ?_) rfl (by kernel_rfl) (by kernel_rfl) (by kernel_rfl) (fun _ _ _ h => h) (Or.inl ⟨by rfl, ?_⟩) hHeld ?_
                        rotate_left
                        · (intro w hSw; (try dsimp only at hSw); go_simp; try with_reducible rfl)
                        try simp only [Act.put, List.setIfInBounds_toArray, List.set_cons_zero, List.set_cons_succ]
                        rw [HXT.out]
                        refine wpAnyH_ready (rs := [23]) (by kernel_rfl) (by simp) ?_
                        refine AllReadyH.cons rfl (fun K hK => ?_) AllReadyH.nil
                        go_simp
                        go_at_call 30; (with_reducible refine (shortWord_any B wr.drew _ a.value HRD.out hBr).mono ?_); rintro e w2 ⟨v2, rfl, ho2, hb2⟩; have HB2 := Lib.hid hb2; obtain ⟨Av, cv, rfl, _⟩ := own_len ho2; have HVV := Lib.hid (Rd.of_own ho2); have B2 := Lib.hid (HGB.out.drew.next hb2 hgl'); have X2 := Lib.hid (HXR.out.drew.next hb2 hxl'); have z0 : w2.cell? ⟨gg, 0, none⟩ = some (.slice Ga k ca') := B2.out.cell 0; have zf0 := B2.out.frozen 0; have hgl2 : gg < w2.heap.size := B2.out.lt; have HBW2 := Lib.hid (HBK.out.drew.trans (hb2.mono HBK.out.size)); have hs2 : ws.heap.size ≤ w2.heap.size := HBW2.out.size; have y0 := X2.out.cell 0; simp only [List.getElem?_toArray, List.getElem?_cons_zero] at y0; have y1 := ((bcell hb2).1 b3 (o3 + k * 2) hbr').trans e0; have y2 := ((bcell hb2).1 b3 (o3 + k * 2 + 1) hbr').trans e1; have hbr2 : b3 < w2.heap.size := Nat.lt_of_lt_of_le hbr' hb2.size; clear ho2 hb2
                        try (go_wp2_with fail)
                        refine hK.out _ _ ?_ (fun hNew => ?_)
                        · exact ⟨y0, y1, y2, z0⟩
                        clear hK K hHeld
                        have hHeld := hNew
                        clear hNew
                        try simp only [Act.put, List.setIfInBounds_toArray, List.set_cons_zero, List.set_cons_succ]
                        refine wpAnyH_take (i := 24) (v := ?_) rfl (by kernel_rfl) (by kernel_rfl) (by kernel_rfl) (fun _ _ _ h => h) (Or.inl ⟨by rfl, ?_⟩) hHeld ?_
                        rotate_left
                        · (intro w hSw; (try dsimp only at hSw); go_simp; try with_reducible rfl)
                        try simp only [Act.put, List.setIfInBounds_toArray, List.set_cons_zero, List.set_cons_succ]
                        refine wpAnyH_ready (rs := [25]) (by kernel_rfl) (by simp) ?_
                        refine AllReadyH.cons rfl (fun K hK => ?_) AllReadyH.nil
                        go_simp
                        refine hK.out _ _ ?_ (fun hNew => ?_)
                        · go_keep
                        clear hK K hHeld
                        have hHeld := hNew
                        clear hNew
                        try simp only [Act.put, List.setIfInBounds_toArray, List.set_cons_zero, List.set_cons_succ]
                        refine wpAnyH_ready (rs := [26]) (by kernel_rfl) (by simp) ?_
                        refine AllReadyH.cons rfl (fun K hK => ?_) AllReadyH.nil
                        refine step_append_lies _ (by rfl) _ _ _ (by rfl) ws.heap.size 112 ja _ 2 40 Try.underlying106 hja hja0 hja1 hja2 rfl (by omega) (.slice Ga k ca') k (rowC asgV ((d.asg.take k).map cutA) vsa) (by rfl) ((own_next HOA.out.drew HB2.out).alloc _) ⟨w2.heap.size, 0, none⟩ 1 1 [.string (bs (cutA a).name), .slice Av (cutW a.value).length cv] (by rfl) (by rfl) (World.news_of_block (cs := #[.string (bs (cutA a).name), .slice Av (cutW a.value).length cv]) (t := 112) (fr := (0, 0)) (heap_alloc_new w2 _)) (by simp [Value.oneCell']) (by omega) (by unfold maxLen; omega) (by omega) (by simp; omega) (w2.heap.size + 1) (by simp) ?_; intro gz cap w3 hown3 hgrow3 hat hlt3; have B3 := Lib.hid (Blk.grown (Blk.alloc B2.out _) hgrow3 (Ne.symm hne.out)); have d0 : w3.cell? ⟨gg, 0, none⟩ = some (.slice Ga k ca') := B3.out.cell 0; have df0 := B3.out.frozen 0; have hgl3 : gg < w3.heap.size := B3.out.lt; have HB3 := Lib.hid (below_own (B := ws.heap.size) (HBW2.out.alloc hs2 _) ((own_next HOA.out.drew HB2.out).alloc _) hgrow3 (Nat.le_refl _) (by simp; omega)); have y0 := ((X2.out.alloc _).grown hgrow3 (Ne.symm (own_blk_ne HOA.out.drew HXR.out.drew (by decide)))).cell 0; simp only [List.getElem?_toArray, List.getElem?_cons_zero] at y0; have y1 := ((bcell HB3.out).1 b3 (o3 + k * 2) hb3s).trans E0.out; have y2 := ((bcell HB3.out).1 b3 (o3 + k * 2 + 1) hb3s).trans E1.out
                        refine hK.out _ _ ?_ (fun hNew => ?_)
                        · exact ⟨y0, y1, y2, d0⟩
                        clear hK K hHeld
                        have hHeld := hNew
                        clear hNew
                        try simp only [Act.put, List.setIfInBounds_toArray, List.set_cons_zero, List.set_cons_succ]
                        refine wpAnyH_take (i := 27) (v := ?_) rfl (by kernel_rfl) (by kernel_rfl) (by kernel_rfl) (fun _ _ _ h => h) (Or.inl ⟨by rfl, ?_⟩) hHeld ?_
                        rotate_left
                        · (intro w hSw; (try dsimp only at hSw); go_simp; try with_reducible rfl)
                        try simp only [Act.put, List.setIfInBounds_toArray, List.set_cons_zero, List.set_cons_succ]
                        refine wpAnyH_done (by kernel_rfl) ?_ _
                        refine lastQ_step rfl (fun K hK => ?_)
                        clear hHeld
                        go_simp
                        refine hK _ _ ?_
                        clear hK K
                        refine NoPanic.normal ?_
                        have HN2 := Lib.hid ((Below.refl w2.heap.size w2).alloc (Nat.le_refl _) (.cells #[.string (bs (cutA a).name), .slice Av (cutW a.value).length cv] 112))
                        have h3' : w2.ownsRow ws.heap.size 112 2 (.slice Ga k ca') ((d.asg.take k).map cutA).length (rowC asgV ((d.asg.take k).map cutA) vsa) := by rw [HLK.out]; exact own_next HOA.out.drew HB2.out
                        have h4' : w3.ownsRow ws.heap.size 112 2 (.slice (some ⟨gz, 0, none⟩) (k + 1) cap) (((d.asg.take k).map cutA).length + 1) (rowC asgV ((d.asg.take k).map cutA) vsa ++ [.string (bs (cutA a).name), .slice Av (cutW a.value).length cv]) := by rw [HLK.out]; exact hown3
                        have HP := Lib.hid (SmB.pushA (c := ⟨(d.asg.take k).map cutA, [], cutW d.inn, cutW d.out, d.app⟩) (nm := (cutA a).name) (val := cutW a.value) (by decide) (by decide) (by decide) (by decide) (by decide) B2.out (HWA.out.imp (fun _ _ h => NAp.next (w := wr.drew) h HB2.out)) h3' (RowOwn.next (w := wr.drew) HRO1.out HB2.out (fun _ _ h => NWp.next (w := wr.drew) h HB2.out)) (NWp.next (w := wr.drew) HRI.out HB2.out) (NWp.next (w := wr.drew) HRO.out HB2.out) HN2.out hgrow3 h4' (Rd.next HVV.out HN2.out))
                        have HX3 := Lib.hid ((((X2.out.alloc (.cells #[.string (bs (cutA a).name), .slice Av (cutW a.value).length cv] 112)).grown hgrow3 (Ne.symm (own_blk_ne HOA.out.drew HXR.out.drew (by decide)))).far (p := ⟨gg, 0, none⟩) (Ne.symm hq0) (.slice (some ⟨gz, 0, none⟩) (k + 1) cap)))
                        have HB4 := Lib.hid (HB3.out.setCell (p := ⟨gg, 0, none⟩) hbs (.slice (some ⟨gz, 0, none⟩) (k + 1) cap))
                        clear h3' h4' hown3 hgrow3 y0 y1 y2 d0 df0 hgl3 z0 zf0 hgl2 hbr2 hs2 hat hlt3 e0 e1 x0 g0 gf0 hgl hbr hne hxl hxl' hgl' hbr'
                        generalize (w3.setCell ⟨gg, 0, none⟩ (.slice (some ⟨gz, 0, none⟩) (k + 1) cap)) = wz at *
                        go_wp2
                        go_roundg (gk - 1)
                        case rel => exact ⟨k + 1, by go_num, by omega, by omega, by omega, HB4.out, HX3.out, by rw [HTK.out]; exact HP.out.1, hgg⟩
                        case measure => omega
                      · go_simp
                        go_at_call 30; (with_reducible refine (shortWord_any B wr.drew _ a.value HRD.out hBr).mono ?_); rintro e w2 ⟨v2, rfl, ho2, hb2⟩; have HB2 := Lib.hid hb2; obtain ⟨Av, cv, rfl, _⟩ := own_len ho2; have HVV := Lib.hid (Rd.of_own ho2); have B2 := Lib.hid (HGB.out.drew.next hb2 hgl'); have X2 := Lib.hid (HXR.out.drew.next hb2 hxl'); have z0 : w2.cell? ⟨gg, 0, none⟩ = some (.slice Ga k ca') := B2.out.cell 0; have zf0 := B2.out.frozen 0; have hgl2 : gg < w2.heap.size := B2.out.lt; have HBW2 := Lib.hid (HBK.out.drew.trans (hb2.mono HBK.out.size)); have hs2 : ws.heap.size ≤ w2.heap.size := HBW2.out.size; have y0 := X2.out.cell 0; simp only [List.getElem?_toArray, List.getElem?_cons_zero] at y0; have y1 := ((bcell hb2).1 b3 (o3 + k * 2) hbr').trans e0; have y2 := ((bcell hb2).1 b3 (o3 + k * 2 + 1) hbr').trans e1; have hbr2 : b3 < w2.heap.size := Nat.lt_of_lt_of_le hbr' hb2.size; clear ho2 hb2
                        try (go_wp2_with fail)
                        refine hK.out _ _ ?_ (fun hNew => ?_)
                        · exact ⟨y0, y1, y2, z0⟩
                        clear hK K hHeld
                        have hHeld := hNew
                        clear hNew
                        try simp only [Act.put, List.setIfInBounds_toArray, List.set_cons_zero, List.set_cons_succ]
                        refine wpAnyH_ready (rs := [15]) (by kernel_rfl) (by simp) ?_
                        refine AllReadyH.cons rfl (fun K hK => ?_) AllReadyH.nil
                        go_simp
                        refine hK.out _ _ ?_ (fun hNew => ?_)
                        · exact ⟨y0, y1, y2, z0⟩
                        clear hK K hHeld
                        have hHeld := hNew
                        clear hNew
                        try simp only [Act.put, List.setIfInBounds_toArray, List.set_cons_zero, List.set_cons_succ]
                        refine wpAnyH_take (i := 16) (v := ?_) rfl (by kernel_rfl) (by kernel_rfl) (by kernel_rfl) (fun _ _ _ h => h) (Or.inl ⟨by rfl, ?_⟩) hHeld ?_
                        rotate_left
                        · (intro w hSw; (try dsimp only at hSw); go_simp; try with_reducible rfl)
                        try simp only [Act.put, List.setIfInBounds_toArray, List.set_cons_zero, List.set_cons_succ]
                        rw [HXT.out]
                        refine wpAnyH_take (i := 24) (v := ?_) rfl (by kernel_rfl) (by kernel_rfl) (by kernel_rfl) (fun _ _ _ h => h) (Or.inl ⟨by rfl, ?_⟩) hHeld ?_
                        rotate_left
                        · (intro w hSw; (try dsimp only at hSw); go_simp; try with_reducible rfl)
                        try simp only [Act.put, List.setIfInBounds_toArray, List.set_cons_zero, List.set_cons_succ]
                        refine wpAnyH_ready (rs := [25]) (by kernel_rfl) (by simp) ?_
                        refine AllReadyH.cons rfl (fun K hK => ?_) AllReadyH.nil
                        go_simp
                        refine hK.out _ _ ?_ (fun hNew => ?_)
                        · go_keep
                        clear hK K hHeld
                        have hHeld := hNew
                        clear hNew
                        try simp only [Act.put, List.setIfInBounds_toArray, List.set_cons_zero, List.set_cons_succ]
                        refine wpAnyH_ready (rs := [26]) (by kernel_rfl) (by simp) ?_
                        refine AllReadyH.cons rfl (fun K hK => ?_) AllReadyH.nil
                        refine step_append_lies _ (by rfl) _ _ _ (by rfl) ws.heap.size 112 ja _ 2 40 Try.underlying106 hja hja0 hja1 hja2 rfl (by omega) (.slice Ga k ca') k (rowC asgV ((d.asg.take k).map cutA) vsa) (by rfl) ((own_next HOA.out.drew HB2.out).alloc _) ⟨w2.heap.size, 0, none⟩ 1 1 [.string (bs (cutA a).name), .slice Av (cutW a.value).length cv] (by rfl) (by rfl) (World.news_of_block (cs := #[.string (bs (cutA a).name), .slice Av (cutW a.value).length cv]) (t := 112) (fr := (0, 0)) (heap_alloc_new w2 _)) (by simp [Value.oneCell']) (by omega) (by unfold maxLen; omega) (by omega) (by simp; omega) (w2.heap.size + 1) (by simp) ?_; intro gz cap w3 hown3 hgrow3 hat hlt3; have B3 := Lib.hid (Blk.grown (Blk.alloc B2.out _) hgrow3 (Ne.symm hne.out)); have d0 : w3.cell? ⟨gg, 0, none⟩ = some (.slice Ga k ca') := B3.out.cell 0; have df0 := B3.out.frozen 0; have hgl3 : gg < w3.heap.size := B3.out.lt; have HB3 := Lib.hid (below_own (B := ws.heap.size) (HBW2.out.alloc hs2 _) ((own_next HOA.out.drew HB2.out).alloc _) hgrow3 (Nat.le_refl _) (by simp; omega)); have y0 := ((X2.out.alloc _).grown hgrow3 (Ne.symm (own_blk_ne HOA.out.drew HXR.out.drew (by decide)))).cell 0; simp only [List.getElem?_toArray, List.getElem?_cons_zero] at y0; have y1 := ((bcell HB3.out).1 b3 (o3 + k * 2) hb3s).trans E0.out; have y2 := ((bcell HB3.out).1 b3 (o3 + k * 2 + 1) hb3s).trans E1.out
                        refine hK.out _ _ ?_ (fun hNew => ?_)
                        · exact ⟨y0, y1, y2, d0⟩
                        clear hK K hHeld
                        have hHeld := hNew
                        clear hNew
                        try simp only [Act.put, List.setIfInBounds_toArray, List.set_cons_zero, List.set_cons_succ]
                        refine wpAnyH_take (i := 27) (v := ?_) rfl (by kernel_rfl) (by kernel_rfl) (by kernel_rfl) (fun _ _ _ h => h) (Or.inl ⟨by rfl, ?_⟩) hHeld ?_
                        rotate_left
                        · (intro w hSw; (try dsimp only at hSw); go_simp; try with_reducible rfl)
                        try simp only [Act.put, List.setIfInBounds_toArray, List.set_cons_zero, List.set_cons_succ]
                        refine wpAnyH_done (by kernel_rfl) ?_ _
                        refine lastQ_step rfl (fun K hK => ?_)
                        clear hHeld
                        go_simp
                        refine hK _ _ ?_
                        clear hK K
                        refine NoPanic.normal ?_
                        have HN2 := Lib.hid ((Below.refl w2.heap.size w2).alloc (Nat.le_refl _) (.cells #[.string (bs (cutA a).name), .slice Av (cutW a.value).length cv] 112))
                        have h3' : w2.ownsRow ws.heap.size 112 2 (.slice Ga k ca') ((d.asg.take k).map cutA).length (rowC asgV ((d.asg.take k).map cutA) vsa) := by rw [HLK.out]; exact own_next HOA.out.drew HB2.out
                        have h4' : w3.ownsRow ws.heap.size 112 2 (.slice (some ⟨gz, 0, none⟩) (k + 1) cap) (((d.asg.take k).map cutA).length + 1) (rowC asgV ((d.asg.take k).map cutA) vsa ++ [.string (bs (cutA a).name), .slice Av (cutW a.value).length cv]) := by rw [HLK.out]; exact hown3
                        have HP := Lib.hid (SmB.pushA (c := ⟨(d.asg.take k).map cutA, [], cutW d.inn, cutW d.out, d.app⟩) (nm := (cutA a).name) (val := cutW a.value) (by decide) (by decide) (by decide) (by decide) (by decide) B2.out (HWA.out.imp (fun _ _ h => NAp.next (w := wr.drew) h HB2.out)) h3' (RowOwn.next (w := wr.drew) HRO1.out HB2.out (fun _ _ h => NWp.next (w := wr.drew) h HB2.out)) (NWp.next (w := wr.drew) HRI.out HB2.out) (NWp.next (w := wr.drew) HRO.out HB2.out) HN2.out hgrow3 h4' (Rd.next HVV.out HN2.out))
                        have HX3 := Lib.hid ((((X2.out.alloc (.cells #[.string (bs (cutA a).name), .slice Av (cutW a.value).length cv] 112)).grown hgrow3 (Ne.symm (own_blk_ne HOA.out.drew HXR.out.drew (by decide)))).far (p := ⟨gg, 0, none⟩) (Ne.symm hq0) (.slice (some ⟨gz, 0, none⟩) (k + 1) cap)))
                        have HB4 := Lib.hid (HB3.out.setCell (p := ⟨gg, 0, none⟩) hbs (.slice (some ⟨gz, 0, none⟩) (k + 1) cap))
                        clear h3' h4' hown3 hgrow3 y0 y1 y2 d0 df0 hgl3 z0 zf0 hgl2 hbr2 hs2 hat hlt3 e0 e1 x0 g0 gf0 hgl hbr hne hxl hxl' hgl' hbr'
                        generalize (w3.setCell ⟨gg, 0, none⟩ (.slice (some ⟨gz, 0, none⟩) (k + 1) cap)) = wz at *
                        go_wp2
                        go_roundg (gk - 1)
                        case rel => exact ⟨k + 1, by go_num, by omega, by omega, by omega, HB4.out, HX3.out, by rw [HTK.out]; exact HP.out.1, hgg⟩
                        case measure => omega
                    · have t2 : decide ((k : Int) < 36) = false := decide_eq_false (by omega)
                      obtain rfl : k = 36 := by omega
                      have x0 := HS.out.2.1.cell 0
                      simp only [List.getElem?_toArray, List.getElem?_cons_zero, List.getElem?_cons_succ] at x0
                      have hxl := HS.out.2.1.lt
                      go_wp2
                      clear t1 x0 hxl hk hk36 hgk hlt
                      go_loopg [10] (d.words.length + 1) (fun gk v wr => ShW ws gg #[.slice sa d.asg.length na, .slice sb d.words.length nb, .slice si d.inn.length ni, .slice so d.out.length no, .bool d.app] d gk v wr)
                      case atStart => exact ⟨0, rfl, Nat.zero_le _, by omega, by omega, HS.out⟩
                      case round =>
                        obtain ⟨k, rfl, hk, hk36, hgk, hcs⟩ := hrel
                        have HS := Lib.hid hcs
                        clear hcs
                        by_cases hlt : k < d.words.length
                        · have t1 : decide ((k : Int) < (d.words.length : Int)) = true := decide_eq_true (by omega)
                          by_cases h8 : k < 36
                          · have t2 : decide ((k : Int) < 36) = true := decide_eq_true (by omega)
                            obtain ⟨b3, o3, u3, rfl, hb3, hN, hx⟩ := HAW.out k hlt
                            have HTK := Lib.hid (map_next cutW d.words k hlt)
                            obtain ⟨a, ha⟩ : ∃ a, d.words[k] = a := ⟨_, rfl⟩
                            rw [ha] at hN hx HTK
                            clear ha
                            obtain ⟨Au, cu, rfl, hcu, hcm⟩ := RowRa.form (show RowRa pfc PN B w u3 a from hN)
                            unfold maxLen at hcm
                            have p0 := hx 0 _ rfl
                            obtain ⟨hbk, hXr, ⟨ga, gb, gi, go, hGb, ra, rb, ri, ro⟩, hgg⟩ := HS.out
                            simp only at hGb ra rb ri ro
                            obtain ⟨vsa, hwa, hoa⟩ := rb
                            have hlk : ((d.words.take k).map cutW).length = k := by rw [List.length_map, List.length_take]; omega
                            have HLK := Lib.hid hlk
                            rw [hlk] at hoa
                            obtain ⟨Ga, ca', rfl, _⟩ := own_len hoa
                            have hb3w : b3 < w.heap.size := Nat.lt_of_lt_of_le hb3 hB
                            have hb3s : b3 < ws.heap.size := Nat.lt_of_lt_of_le hb3w HWS.out.size
                            have hbr : b3 < wr.heap.size := Nat.lt_of_lt_of_le hb3s hbk.size
                            have E0 := Lib.hid (((bcell HWS.out).1 b3 _ hb3w).trans (show w.cell? ⟨b3, o3 + k, none⟩ = some (.slice Au a.length cu) by simpa using p0))
                            have e0 := ((bcell hbk).1 b3 _ hb3s).trans E0.out
                            have x0 : wr.cell? ⟨ws.heap.size, 1, none⟩ = some (.slice (some ⟨b3, o3, none⟩) d.words.length nb) := hXr.cell 1
                            have g0 : wr.cell? ⟨gg, 1, none⟩ = some (.slice Ga k ca') := hGb.cell 1
                            have gf0 := hGb.frozen 1
                            have hgl := hGb.lt
                            have hBs : B ≤ ws.heap.size := Nat.le_trans hB HWS.out.size
                            have hBr : B ≤ wr.drew.heap.size := Nat.le_trans hBs hbk.size
                            have HRD := Lib.hid (show AW B wr.drew (.slice Au a.length cu) a from AW.below (AW.below hN (HWS.out.mono hB)) (hbk.drew.mono hBs))
                            have HXR := Lib.hid hXr
                            have HGB := Lib.hid hGb
                            have HWA := Lib.hid hwa
                            have HOA := Lib.hid hoa
                            have HRO1 := Lib.hid ra
                            have HRI := Lib.hid ri
                            have HRO := Lib.hid ro
                            have HBK := Lib.hid hbk
                            have hxl := hXr.lt
                            have hxl' : ws.heap.size < wr.drew.heap.size := hXr.lt
                            have hgl' : gg < wr.drew.heap.size := hgl
                            have hbr' : b3 < wr.drew.heap.size := hbr
                            have hne := Lib.hid (own_blk_ne hoa hGb (by decide))
                            have hq0 : gg ≠ ws.heap.size := by omega
                            have hq1 : gg ≠ b3 := by omega
                            have i1 : (0 : Int) ≤ (k : Int) := by omega
                            have i2 : (k : Int) < (d.words.length : Int) := by omega
                            have hbs : ws.heap.size ≤ gg := by omega
                            clear hN hx p0 ra hXr hGb hwa hoa ri ro hbk hlk HS
                            go_upto_region 18 with (fail)
                            refine wp_region_noPanic ?_
                            refine wp_region_last (S := (fun w' => w'.cell? ⟨ws.heap.size, 1, none⟩ = some (.slice (some ⟨b3, o3, none⟩) d.words.length nb) ∧ w'.cell? ⟨b3, o3 + k, none⟩ = some (.slice Au a.length cu) ∧ w'.cell? ⟨gg, 1, none⟩ = some (.slice Ga k ca'))) 11 11 rfl (by kernel_rfl) (by kernel_rfl) ?_ (fun hHeld => ?_)
                            · exact ⟨x0, e0, g0⟩
                            refine wpAnyH_take (i := 0) (v := ?_) rfl (by kernel_rfl) (by kernel_rfl) (by kernel_rfl) (fun _ _ _ h => h) (Or.inl ⟨by rfl, ?_⟩) hHeld ?_
                            rotate_left
                            · (intro w hSw; (try dsimp only at hSw); go_simp; try with_reducible rfl)
                            try simp only [Act.put, List.setIfInBounds_toArray, List.set_cons_zero, List.set_cons_succ]
                            refine wpAnyH_take (i := 1) (v := ?_) rfl (by kernel_rfl) (by kernel_rfl) (by kernel_rfl) (fun _ _ _ h => h) (Or.inl ⟨by rfl, ?_⟩) hHeld ?_
                            rotate_left
                            · (intro w hSw; (try dsimp only at hSw); go_simp; try with_reducible rfl)
                            try simp only [Act.put, List.setIfInBounds_toArray, List.set_cons_zero, List.set_cons_succ]
                            refine wpAnyH_take (i := 2) (v := ?_) rfl (by kernel_rfl) (by kernel_rfl) (by kernel_rfl) (fun _ _ _ h => h) (Or.inl ⟨by rfl, ?_⟩) hHeld ?_
                            rotate_left
                            · (intro w hSw; (try dsimp only at hSw); go_simp; try with_reducible rfl)
                            try simp only [Act.put, List.setIfInBounds_toArray, List.set_cons_zero, List.set_cons_succ]
                            refine wpAnyH_take (i := 3) (v := ?_) rfl (by kernel_rfl) (by kernel_rfl) (by kernel_rfl) (fun _ _ _ h => h) (Or.inl ⟨by rfl, ?_⟩) hHeld ?_
                            rotate_left
                            · (intro w hSw; (try dsimp only at hSw); go_simp; try with_reducible rfl)
                            try simp only [Act.put, List.setIfInBounds_toArray, List.set_cons_zero, List.set_cons_succ]
                            refine wpAnyH_take (i := 4) (v := ?_) rfl (by kernel_rfl) (by kernel_rfl) (by kernel_rfl) (fun _ _ _ h => h) (Or.inl ⟨by rfl, ?_⟩) hHeld ?_
                            rotate_left
                            · (intro w hSw; (try dsimp only at hSw); go_simp; try with_reducible rfl)
                            try simp only [Act.put, List.setIfInBounds_toArray, List.set_cons_zero, List.set_cons_succ]
                            refine wpAnyH_take (i := 5) (v := ?_) rfl (by kernel_rfl) (by kernel_rfl) (by kernel_rfl) (fun _ _ _ h => h) (Or.inl ⟨by rfl, ?_⟩) hHeld ?_
                            rotate_left
                            · (intro w hSw; (try dsimp only at hSw); go_simp; try with_reducible rfl)
                            try simp only [Act.put, List.setIfInBounds_toArray, List.set_cons_zero, List.set_cons_succ]
                            refine wpAnyH_take (i := 6) (v := ?_) rfl (by kernel_rfl) (by kernel_rfl) (by kernel_rfl) (fun _ _ _ h => h) (Or.inl ⟨by rfl, ?_⟩) hHeld ?_
                            rotate_left
                            · (intro w hSw; (try dsimp only at hSw); go_simp; try with_reducible rfl)
                            try simp only [Act.put, List.setIfInBounds_toArray, List.set_cons_zero, List.set_cons_succ]
                            refine wpAnyH_ready (rs := [7]) (by kernel_rfl) (by simp) ?_
                            refine AllReadyH.cons rfl (fun K hK => ?_) AllReadyH.nil
                            go_simp
                            go_at_call 30; (with_reducible refine (shortWord_any B wr.drew _ a HRD.out hBr).mono ?_); rintro e w2 ⟨v2, rfl, ho2, hb2⟩; have HB2 := Lib.hid hb2; obtain ⟨Av, cv, rfl, _⟩ := own_len ho2; have HVV := Lib.hid (Rd.of_own ho2); have B2 := Lib.hid (HGB.out.drew.next hb2 hgl'); have X2 := Lib.hid (HXR.out.drew.next hb2 hxl'); have z0 : w2.cell? ⟨gg, 1, none⟩ = some (.slice Ga k ca') := B2.out.cell 1; have zf0 := B2.out.frozen 1; have hgl2 : gg < w2.heap.size := B2.out.lt; have HBW2 := Lib.hid (HBK.out.drew.trans (hb2.mono HBK.out.size)); have hs2 : ws.heap.size ≤ w2.heap.size := HBW2.out.size; have y0 := X2.out.cell 1; simp only [List.getElem?_toArray, List.getElem?_cons_zero, List.getElem?_cons_succ] at y0; have y1 := ((bcell hb2).1 b3 (o3 + k) hbr').trans e0; have hbr2 : b3 < w2.heap.size := Nat.lt_of_lt_of_le hbr' hb2.size; clear ho2 hb2
                            try (go_wp2_with fail)
                            refine hK.out _ _ ?_ (fun hNew => ?_)
                            · exact ⟨y0, y1, z0⟩
                            clear hK K hHeld
                            have hHeld := hNew
                            clear hNew
                            try simp only [Act.put, List.setIfInBounds_toArray, List.set_cons_zero, List.set_cons_succ]
                            refine wpAnyH_ready (rs := [8]) (by kernel_rfl) (by simp) ?_
                            refine AllReadyH.cons rfl (fun K hK => ?_) AllReadyH.nil
                            go_simp
                            refine hK.out _ _ ?_ (fun hNew => ?_)
                            · go_keep
                            clear hK K hHeld
                            have hHeld := hNew
                            clear hNew
                            try simp only [Act.put, List.setIfInBounds_toArray, List.set_cons_zero, List.set_cons_succ]
                            refine wpAnyH_ready (rs := [9]) (by kernel_rfl) (by simp) ?_
                            refine AllReadyH.cons rfl (fun K hK => ?_) AllReadyH.nil
                            refine step_append_lies _ (by rfl) _ _ _ (by rfl) ws.heap.size 39 jw _ 1 24 Try.underlying107 hjw hjw0 hjw1 hjw2 rfl (by omega) (.slice Ga k ca') k (rowC wdV ((d.words.take k).map cutW) vsa) (by rfl) ((own_next HOA.out.drew HB2.out).alloc _) ⟨w2.heap.size, 0, none⟩ 1 1 [.slice Av (cutW a).length cv] (by rfl) (by rfl) (World.news_of_block (cs := #[.slice Av (cutW a).length cv]) (t := 39) (fr := (0, 0)) (heap_alloc_new w2 _)) (by simp [Value.oneCell']) (by omega) (by unfold maxLen; omega) (by omega) (by simp; omega) (w2.heap.size + 1) (by simp) ?_; intro gz cap w3 hown3 hgrow3 hat hlt3; have B3 := Lib.hid (Blk.grown (Blk.alloc B2.out _) hgrow3 (Ne.symm hne.out)); have d0 : w3.cell? ⟨gg, 1, none⟩ = some (.slice Ga k ca') := B3.out.cell 1; have df0 := B3.out.frozen 1; have hgl3 : gg < w3.heap.size := B3.out.lt; have HB3 := Lib.hid (below_own (B := ws.heap.size) (HBW2.out.alloc hs2 _) ((own_next HOA.out.drew HB2.out).alloc _) hgrow3 (Nat.le_refl _) (by simp; omega)); have y0 := ((X2.out.alloc _).grown hgrow3 (Ne.symm (own_blk_ne HOA.out.drew HXR.out.drew (by decide)))).cell 1; simp only [List.getElem?_toArray, List.getElem?_cons_zero, List.getElem?_cons_succ] at y0; have y1 := ((bcell HB3.out).1 b3 (o3 + k) hb3s).trans E0.out
                            refine hK.out _ _ ?_ (fun hNew => ?_)
                            · exact ⟨y0, y1, d0⟩
                            clear hK K hHeld
                            have hHeld := hNew
                            clear hNew
                            try simp only [Act.put, List.setIfInBounds_toArray, List.set_cons_zero, List.set_cons_succ]
                            refine wpAnyH_take (i := 10) (v := ?_) rfl (by kernel_rfl) (by kernel_rfl) (by kernel_rfl) (fun _ _ _ h => h) (Or.inl ⟨by rfl, ?_⟩) hHeld ?_
                            rotate_left
                            · (intro w hSw; (try dsimp only at hSw); go_simp; try with_reducible rfl)
                            try simp only [Act.put, List.setIfInBounds_toArray, List.set_cons_zero, List.set_cons_succ]
                            refine wpAnyH_done (by kernel_rfl) ?_ _
                            refine lastQ_step rfl (fun K hK => ?_)
                            clear hHeld
                            go_simp
                            refine hK _ _ ?_
                            clear hK K
                            refine NoPanic.normal ?_
                            have HN2 := Lib.hid ((Below.refl w2.heap.size w2).alloc (Nat.le_refl _) (.cells #[.slice Av (cutW a).length cv] 39))
                            have h3' : w2.ownsRow ws.heap.size 39 1 (.slice Ga k ca') ((d.words.take k).map cutW).length (rowC wdV ((d.words.take k).map cutW) vsa) := by rw [HLK.out]; exact own_next HOA.out.drew HB2.out
                            have h4' : w3.ownsRow ws.heap.size 39 1 (.slice (some ⟨gz, 0, none⟩) (k + 1) cap) (((d.words.take k).map cutW).length + 1) (rowC wdV ((d.words.take k).map cutW) vsa ++ [.slice Av (cutW a).length cv]) := by rw [HLK.out]; exact hown3
                            have HP := Lib.hid (SmB.pushW (c := ⟨(d.asg.take 36).map cutA, (d.words.take k).map cutW, cutW d.inn, cutW d.out, d.app⟩) (val := cutW a) (by decide) (by decide) (by decide) (by decide) (by decide) B2.out (HWA.out.imp (fun _ _ h => NWp.next (w := wr.drew) h HB2.out)) h3' (RowOwn.next (w := wr.drew) HRO1.out HB2.out (fun _ _ h => NAp.next (w := wr.drew) h HB2.out)) (NWp.next (w := wr.drew) HRI.out HB2.out) (NWp.next (w := wr.drew) HRO.out HB2.out) HN2.out hgrow3 h4' (Rd.next HVV.out HN2.out))
                            have HX3 := Lib.hid ((((X2.out.alloc (.cells #[.slice Av (cutW a).length cv] 39)).grown hgrow3 (Ne.symm (own_blk_ne HOA.out.drew HXR.out.drew (by decide)))).far (p := ⟨gg, 1, none⟩) (Ne.symm hq0) (.slice (some ⟨gz, 0, none⟩) (k + 1) cap)))
                            have HB4 := Lib.hid (HB3.out.setCell (p := ⟨gg, 1, none⟩) hbs (.slice (some ⟨gz, 0, none⟩) (k + 1) cap))
                            clear h3' h4' hown3 hgrow3 y0 y1 d0 df0 hgl3 z0 zf0 hgl2 hbr2 hs2 hat hlt3 e0 x0 g0 gf0 hgl hbr hne hxl hxl' hgl' hbr'
                            generalize (w3.setCell ⟨gg, 1, none⟩ (.slice (some ⟨gz, 0, none⟩) (k + 1) cap)) = wz at *
                            go_wp2
                            go_roundg (gk - 1)
                            case rel => exact ⟨k + 1, by go_num, by omega, by omega, by omega, HB4.out, HX3.out, by rw [HTK.out]; exact HP.out.1, hgg⟩
                            case measure => omega
                          · have t2 : decide ((k : Int) < 36) = false := decide_eq_false (by omega)
                            obtain rfl : k = 36 := by omega
                            have HS : Hid (ShS ws gg #[.slice sa d.asg.length na, .slice sb d.words.length nb, .slice si d.inn.length ni, .slice so d.out.length no, .bool d.app] (cutS d) wr) := HS
                            have x0 := HS.out.2.1.cell 1
                            simp only [List.getElem?_toArray, List.getElem?_cons_zero, List.getElem?_cons_succ] at x0
                            have hxl := HS.out.2.1.lt
                            obtain ⟨hbk, hXr, hS, hgg⟩ := HS.out
                            obtain ⟨u5, hG5, hN5⟩ := hS.cells
                            obtain ⟨ta, ua, tb, ub, ti, ui, tq, uq, hu⟩ := NSp.forms hN5
                            subst hu
                            have HN2 := Lib.hid hN5
                            have HPN := Lib.hid (HPJ.out.next hbk)
                            obtain ⟨gv, hB5, ⟨vsa, hwa, hoa⟩⟩ := HPN.out
                            simp only at hB5 hwa hoa
                            have hlk : ((q.stages.take j).map cutS).length = j := by rw [List.length_map, List.length_take]; omega
                            have HLK := Lib.hid hlk
                            rw [hlk] at hoa
                            obtain ⟨Ga, gc, rfl, _⟩ := own_len hoa
                            have g0 : wr.cell? ⟨wo.heap.size, 1, none⟩ = some (.slice Ga j gc) := hB5.cell 1
                            have gf0 := hB5.frozen 1
                            have hgl := hB5.lt
                            have b0 := hG5.cell 0
                            have b1 := hG5.cell 1
                            have b2 := hG5.cell 2
                            have b3 := hG5.cell 3
                            have b4 := hG5.cell 4
                            simp only [smV, List.getElem?_toArray, List.getElem?_cons_zero, List.getElem?_cons_succ] at b0 b1 b2 b3 b4
                            have hgl5 := hG5.lt
                            have HPB := Lib.hid hB5
                            have HWA := Lib.hid hwa
                            have HOA := Lib.hid hoa
                            have HBX := Lib.hid (HBW.out.trans (hbk.mono HBW.out.size))
                            have hsX : wo.heap.size ≤ wr.heap.size := HBX.out.size
                            clear hbk hXr hS hG5 hN5 hB5 hwa hoa hlk HS
                            go_wp2_with (at_builtin; refine wpList_append_lies _ rfl _ _ _ rfl wo.heap.size 109 js _ 5 104 Try.underlying97 hjs hjs0 hjs1 hjs2 rfl (by omega) (.slice Ga j gc) j (rowC smV ((q.stages.take j).map cutS) vsa) rfl (HOA.out.alloc _) ⟨wr.heap.size, 0, none⟩ 1 1 [.slice ta (cutS d).asg.length ua, .slice tb (cutS d).words.length ub, .slice ti (cutS d).inn.length ui, .slice tq (cutS d).out.length uq, .bool d.app] rfl rfl (World.news_of_block (cs := #[.slice ta (cutS d).asg.length ua, .slice tb (cutS d).words.length ub, .slice ti (cutS d).inn.length ui, .slice tq (cutS d).out.length uq, .bool d.app]) (t := 109) (fr := (0, 0)) (heap_alloc_new wr _)) (by simp [Value.oneCell']) (by omega) (by unfold maxLen; omega) (by omega) (by simp; omega) (wr.heap.size + 1) (by simp) ?_; intro gz cap w3 hown3 hgrow3 hat hlt3; have B3 := Lib.hid (Blk.grown (Blk.alloc HPB.out _) hgrow3 (Ne.symm (own_blk_ne HOA.out HPB.out (by decide)))); have d0 : w3.cell? ⟨wo.heap.size, 1, none⟩ = some (.slice Ga j gc) := B3.out.cell 1; have df0 := B3.out.frozen 1; have hgl3 : wo.heap.size < w3.heap.size := B3.out.lt; have HB3 := Lib.hid (below_own (B := wo.heap.size) (HBX.out.alloc hsX _) (HOA.out.alloc _) hgrow3 (Nat.le_refl _) (by simp; omega)); have HOW3 := Lib.hid hown3; have HGR3 := Lib.hid hgrow3; clear hown3 hgrow3)
                            have HN3 := Lib.hid ((Below.refl wr.heap.size wr).alloc (Nat.le_refl _) (.cells #[.slice ta (cutS d).asg.length ua, .slice tb (cutS d).words.length ub, .slice ti (cutS d).inn.length ui, .slice tq (cutS d).out.length uq, .bool d.app] 109))
                            have h3' : wr.ownsRow wo.heap.size 109 5 (.slice Ga j gc) ((q.stages.take j).map cutS).length (rowC smV ((q.stages.take j).map cutS) vsa) := by rw [HLK.out]; exact HOA.out
                            have h4' : w3.ownsRow wo.heap.size 109 5 (.slice (some ⟨gz, 0, none⟩) (j + 1) cap) (((q.stages.take j).map cutS).length + 1) (rowC smV ((q.stages.take j).map cutS) vsa ++ smV (cutS d) ⟨.slice ta (cutS d).asg.length ua, .slice tb (cutS d).words.length ub, .slice ti (cutS d).inn.length ui, .slice tq (cutS d).out.length uq⟩) := by rw [HLK.out]; exact HOW3.out
                            have HP := Lib.hid (PlB.push (q := ⟨q.wh, (q.stages.take j).map cutS⟩) (x := cutS d) (by decide) (by decide) (by decide) (by decide) (by decide) (by decide) (by decide) HPB.out HWA.out h3' HN3.out HGR3.out h4' (NSp.next HN2.out HN3.out)).1
                            have HB4 := Lib.hid (HB3.out.setCell (p := ⟨wo.heap.size, 1, none⟩) (Nat.le_refl _) (.slice (some ⟨gz, 0, none⟩) (j + 1) cap))
                            go_roundg (gj - 1)
                            case rel => exact ⟨j + 1, by go_num, by omega, by omega, by omega, HB4.out, by rw [HTJ.out]; exact HP.out⟩
                            case measure => omega
                        · have t1 : decide ((k : Int) < (d.words.length : Int)) = false := decide_eq_false (by omega)
                          have HTE := Lib.hid (show (d.words.take k).map cutW = (d.words.take 36).map cutW by rw [List.take_of_length_le (by omega), List.take_of_length_le (by omega)])
                          rw [HTE.out] at HS
                          have HS : Hid (ShS ws gg #[.slice sa d.asg.length na, .slice sb d.words.length nb, .slice si d.inn.length ni, .slice so d.out.length no, .bool d.app] (cutS d) wr) := HS
                          have x0 := HS.out.2.1.cell 1
                          simp only [List.getElem?_toArray, List.getElem?_cons_zero, List.getElem?_cons_succ] at x0
                          have hxl := HS.out.2.1.lt
                          obtain ⟨hbk, hXr, hS, hgg⟩ := HS.out
                          obtain ⟨u5, hG5, hN5⟩ := hS.cells
                          obtain ⟨ta, ua, tb, ub, ti, ui, tq, uq, hu⟩ := NSp.forms hN5
                          subst hu
                          have HN2 := Lib.hid hN5
                          have HPN := Lib.hid (HPJ.out.next hbk)
                          obtain ⟨gv, hB5, ⟨vsa, hwa, hoa⟩⟩ := HPN.out
                          simp only at hB5 hwa hoa
                          have hlk : ((q.stages.take j).map cutS).length = j := by rw [List.length_map, List.length_take]; omega
                          have HLK := Lib.hid hlk
                          rw [hlk] at hoa
                          obtain ⟨Ga, gc, rfl, _⟩ := own_len hoa
                          have g0 : wr.cell? ⟨wo.heap.size, 1, none⟩ = some (.slice Ga j gc) := hB5.cell 1
                          have gf0 := hB5.frozen 1
                          have hgl := hB5.lt
                          have b0 := hG5.cell 0
                          have b1 := hG5.cell 1
                          have b2 := hG5.cell 2
                          have b3 := hG5.cell 3
                          have b4 := hG5.cell 4
                          simp only [smV, List.getElem?_toArray, List.getElem?_cons_zero, List.getElem?_cons_succ] at b0 b1 b2 b3 b4
                          have hgl5 := hG5.lt
                          have HPB := Lib.hid hB5
                          have HWA := Lib.hid hwa
                          have HOA := Lib.hid hoa
                          have HBX := Lib.hid (HBW.out.trans (hbk.mono HBW.out.size))
                          have hsX : wo.heap.size ≤ wr.heap.size := HBX.out.size
                          clear hbk hXr hS hG5 hN5 hB5 hwa hoa hlk HS
                          go_wp2_with (at_builtin; refine wpList_append_lies _ rfl _ _ _ rfl wo.heap.size 109 js _ 5 104 Try.underlying97 hjs hjs0 hjs1 hjs2 rfl (by omega) (.slice Ga j gc) j (rowC smV ((q.stages.take j).map cutS) vsa) rfl (HOA.out.alloc _) ⟨wr.heap.size, 0, none⟩ 1 1 [.slice ta (cutS d).asg.length ua, .slice tb (cutS d).words.length ub, .slice ti (cutS d).inn.length ui, .slice tq (cutS d).out.length uq, .bool d.app] rfl rfl (World.news_of_block (cs := #[.slice ta (cutS d).asg.length ua, .slice tb (cutS d).words.length ub, .slice ti (cutS d).inn.length ui, .slice tq (cutS d).out.length uq, .bool d.app]) (t := 109) (fr := (0, 0)) (heap_alloc_new wr _)) (by simp [Value.oneCell']) (by omega) (by unfold maxLen; omega) (by omega) (by simp; omega) (wr.heap.size + 1) (by simp) ?_; intro gz cap w3 hown3 hgrow3 hat hlt3; have B3 := Lib.hid (Blk.grown (Blk.alloc HPB.out _) hgrow3 (Ne.symm (own_blk_ne HOA.out HPB.out (by decide)))); have d0 : w3.cell? ⟨wo.heap.size, 1, none⟩ = some (.slice Ga j gc) := B3.out.cell 1; have df0 := B3.out.frozen 1; have hgl3 : wo.heap.size < w3.heap.size := B3.out.lt; have HB3 := Lib.hid (below_own (B := wo.heap.size) (HBX.out.alloc hsX _) (HOA.out.alloc _) hgrow3 (Nat.le_refl _) (by simp; omega)); have HOW3 := Lib.hid hown3; have HGR3 := Lib.hid hgrow3; clear hown3 hgrow3)
                          have HN3 := Lib.hid ((Below.refl wr.heap.size wr).alloc (Nat.le_refl _) (.cells #[.slice ta (cutS d).asg.length ua, .slice tb (cutS d).words.length ub, .slice ti (cutS d).inn.length ui, .slice tq (cutS d).out.length uq, .bool d.app] 109))
                          have h3' : wr.ownsRow wo.heap.size 109 5 (.slice Ga j gc) ((q.stages.take j).map cutS).length (rowC smV ((q.stages.take j).map cutS) vsa) := by rw [HLK.out]; exact HOA.out
                          have h4' : w3.ownsRow wo.heap.size 109 5 (.slice (some ⟨gz, 0, none⟩) (j + 1) cap) (((q.stages.take j).map cutS).length + 1) (rowC smV ((q.stages.take j).map cutS) vsa ++ smV (cutS d) ⟨.slice ta (cutS d).asg.length ua, .slice tb (cutS d).words.length ub, .slice ti (cutS d).inn.length ui, .slice tq (cutS d).out.length uq⟩) := by rw [HLK.out]; exact HOW3.out
                          have HP := Lib.hid (PlB.push (q := ⟨q.wh, (q.stages.take j).map cutS⟩) (x := cutS d) (by decide) (by decide) (by decide) (by decide) (by decide) (by decide) (by decide) HPB.out HWA.out h3' HN3.out HGR3.out h4' (NSp.next HN2.out HN3.out)).1
                          have HB4 := Lib.hid (HB3.out.setCell (p := ⟨wo.heap.size, 1, none⟩) (Nat.le_refl _) (.slice (some ⟨gz, 0, none⟩) (j + 1) cap))
                          go_roundg (gj - 1)
                          case rel => exact ⟨j + 1, by go_num, by omega, by omega, by omega, HB4.out, by rw [HTJ.out]; exact HP.out⟩
                          case measure => omega
                  · have t1 : decide ((k : Int) < (d.asg.length : Int)) = false := decide_eq_false (by omega)
                    have HTE := Lib.hid (show (d.asg.take k).map cutA = (d.asg.take 36).map cutA by rw [List.take_of_length_le (by omega), List.take_of_length_le (by omega)])
                    rw [HTE.out] at HS
                    have x0 := HS.out.2.1.cell 0
                    simp only [List.getElem?_toArray, List.getElem?_cons_zero, List.getElem?_cons_succ] at x0
                    have hxl := HS.out.2.1.lt
                    go_wp2
                    clear t1 x0 hxl hk hk36 hgk hlt
                    go_loopg [10] (d.words.length + 1) (fun gk v wr => ShW ws gg #[.slice sa d.asg.length na, .slice sb d.words.length nb, .slice si d.inn.length ni, .slice so d.out.length no, .bool d.app] d gk v wr)
                    case atStart => exact ⟨0, rfl, Nat.zero_le _, by omega, by omega, HS.out⟩
                    case round =>
                      obtain ⟨k, rfl, hk, hk36, hgk, hcs⟩ := hrel
                      have HS := Lib.hid hcs
                      clear hcs
                      by_cases hlt : k < d.words.length
                      · have t1 : decide ((k : Int) < (d.words.length : Int)) = true := decide_eq_true (by omega)
                        by_cases h8 : k < 36
                        · have t2 : decide ((k : Int) < 36) = true := decide_eq_true (by omega)
                          obtain ⟨b3, o3, u3, rfl, hb3, hN, hx⟩ := HAW.out k hlt
                          have HTK := Lib.hid (map_next cutW d.words k hlt)
                          obtain ⟨a, ha⟩ : ∃ a, d.words[k] = a := ⟨_, rfl⟩
                          rw [ha] at hN hx HTK
                          clear ha
                          obtain ⟨Au, cu, rfl, hcu, hcm⟩ := RowRa.form (show RowRa pfc PN B w u3 a from hN)
                          unfold maxLen at hcm
                          have p0 := hx 0 _ rfl
                          obtain ⟨hbk, hXr, ⟨ga, gb, gi, go, hGb, ra, rb, ri, ro⟩, hgg⟩ := HS.out
                          simp only at hGb ra rb ri ro
                          obtain ⟨vsa, hwa, hoa⟩ := rb
                          have hlk : ((d.words.take k).map cutW).length = k := by rw [List.length_map, List.length_take]; omega
                          have HLK := Lib.hid hlk
                          rw [hlk] at hoa
                          obtain ⟨Ga, ca', rfl, _⟩ := own_len hoa
                          have hb3w : b3 < w.heap.size := Nat.lt_of_lt_of_le hb3 hB
                          have hb3s : b3 < ws.heap.size := Nat.lt_of_lt_of_le hb3w HWS.out.size
                          have hbr : b3 < wr.heap.size := Nat.lt_of_lt_of_le hb3s hbk.size
                          have E0 := Lib.hid (((bcell HWS.out).1 b3 _ hb3w).trans (show w.cell? ⟨b3, o3 + k, none⟩ = some (.slice Au a.length cu) by simpa using p0))
                          have e0 := ((bcell hbk).1 b3 _ hb3s).trans E0.out
                          have x0 : wr.cell? ⟨ws.heap.size, 1, none⟩ = some (.slice (some ⟨b3, o3, none⟩) d.words.length nb) := hXr.cell 1
                          have g0 : wr.cell? ⟨gg, 1, none⟩ = some (.slice Ga k ca') := hGb.cell 1
                          have gf0 := hGb.frozen 1
                          have hgl := hGb.lt
                          have hBs : B ≤ ws.heap.size := Nat.le_trans hB HWS.out.size
                          have hBr : B ≤ wr.drew.heap.size := Nat.le_trans hBs hbk.size
                          have HRD := Lib.hid (show AW B wr.drew (.slice Au a.length cu) a from AW.below (AW.below hN (HWS.out.mono hB)) (hbk.drew.mono hBs))
                          have HXR := Lib.hid hXr
                          have HGB := Lib.hid hGb
                          have HWA := Lib.hid hwa
                          have HOA := Lib.hid hoa
                          have HRO1 := Lib.hid ra
                          have HRI := Lib.hid ri
                          have HRO := Lib.hid ro
                          have HBK := Lib.hid hbk
                          have hxl := hXr.lt
                          have hxl' : ws.heap.size < wr.drew.heap.size := hXr.lt
                          have hgl' : gg < wr.drew.heap.size := hgl
                          have hbr' : b3 < wr.drew.heap.size := hbr
                          have hne := Lib.hid (own_blk_ne hoa hGb (by decide))
                          have hq0 : gg ≠ ws.heap.size := by omega
                          have hq1 : gg ≠ b3 := by omega
                          have i1 : (0 : Int) ≤ (k : Int) := by omega
                          have i2 : (k : Int) < (d.words.length : Int) := by omega
                          have hbs : ws.heap.size ≤ gg := by omega
                          clear hN hx p0 ra hXr hGb hwa hoa ri ro hbk hlk HS
                          go_upto_region 18 with (fail)
                          refine wp_region_noPanic ?_
                          refine wp_region_last (S := (fun w' => w'.cell? ⟨ws.heap.size, 1, none⟩ = some (.slice (some ⟨b3, o3, none⟩) d.words.length nb) ∧ w'.cell? ⟨b3, o3 + k, none⟩ = some (.slice Au a.length cu) ∧ w'.cell? ⟨gg, 1, none⟩ = some (.slice Ga k ca'))) 11 11 rfl (by kernel_rfl) (by kernel_rfl) ?_ (fun hHeld => ?_)
                          · exact ⟨x0, e0, g0⟩
                          refine wpAnyH_take (i := 0) (v := ?_) rfl (by kernel_rfl) (by kernel_rfl) (by kernel_rfl) (fun _ _ _ h => h) (Or.inl ⟨by rfl, ?_⟩) hHeld ?_
                          rotate_left
                          · (intro w hSw; (try dsimp only at hSw); go_simp; try with_reducible rfl)
                          try simp only [Act.put, List.setIfInBounds_toArray, List.set_cons_zero, List.set_cons_succ]
                          refine wpAnyH_take (i := 1) (v := ?_) rfl (by kernel_rfl) (by kernel_rfl) (by kernel_rfl) (fun _ _ _ h => h) (Or.inl ⟨by rfl, ?_⟩) hHeld ?_
                          rotate_left
                          · (intro w hSw; (try dsimp only at hSw); go_simp; try with_reducible rfl)
                          try simp only [Act.put, List.setIfInBounds_toArray, List.set_cons_zero, List.set_cons_succ]
                          refine wpAnyH_take (i := 2) (v := ?_) rfl (by kernel_rfl) (by kernel_rfl) (by kernel_rfl) (fun _ _ _ h => h) (Or.inl ⟨by rfl, ?_⟩) hHeld ?_
                          rotate_left
                          · (intro w hSw; (try dsimp only at hSw); go_simp; try with_reducible rfl)
                          try simp only [Act.put, List.setIfInBounds_toArray, List.set_cons_zero, List.set_cons_succ]
                          refine wpAnyH_take (i := 3) (v := ?_) rfl (by kernel_rfl) (by kernel_rfl) (by kernel_rfl) (fun _ _ _ h => h) (Or.inl ⟨by rfl, ?_⟩) hHeld ?_
                          rotate_left
                          · (intro w hSw; (try dsimp only at hSw); go_simp; try with_reducible rfl)
                          try simp only [Act.put, List.setIfInBounds_toArray, List.set_cons_zero, List.set_cons_succ]
                          refine wpAnyH_take (i := 4) (v := ?_) rfl (by kernel_rfl) (by kernel_rfl) (by kernel_rfl) (fun _ _ _ h => h) (Or.inl ⟨by rfl, ?_⟩) hHeld ?_
                          rotate_left
                          · (intro w hSw; (try dsimp only at hSw); go_simp; try with_reducible rfl)
                          try simp only [Act.put, List.setIfInBounds_toArray, List.set_cons_zero, List.set_cons_succ]
                          refine wpAnyH_take (i := 5) (v := ?_) rfl (by kernel_rfl) (by kernel_rfl) (by kernel_rfl) (fun _ _ _ h => h) (Or.inl ⟨by rfl, ?_⟩) hHeld ?_
                          rotate_left
                          · (intro w hSw; (try dsimp only at hSw); go_simp; try with_reducible rfl)
                          try simp only [Act.put, List.setIfInBounds_toArray, List.set_cons_zero, List.set_cons_succ]
                          refine wpAnyH_take (i := 6) (v := ?_) rfl (by kernel_rfl) (by kernel_rfl) (by kernel_rfl) (fun _ _ _ h => h) (Or.inl ⟨by rfl, ?_⟩) hHeld ?_
                          rotate_left
                          · (intro w hSw; (try dsimp only at hSw); go_simp; try with_reducible rfl)
                          try simp only [Act.put, List.setIfInBounds_toArray, List.set_cons_zero, List.set_cons_succ]
                          refine wpAnyH_ready (rs := [7]) (by kernel_rfl) (by simp) ?_
                          refine AllReadyH.cons rfl (fun K hK => ?_) AllReadyH.nil
                          go_simp
                          go_at_call 30; (with_reducible refine (shortWord_any B wr.drew _ a HRD.out hBr).mono ?_); rintro e w2 ⟨v2, rfl, ho2, hb2⟩; have HB2 := Lib.hid hb2; obtain ⟨Av, cv, rfl, _⟩ := own_len ho2; have HVV := Lib.hid (Rd.of_own ho2); have B2 := Lib.hid (HGB.out.drew.next hb2 hgl'); have X2 := Lib.hid (HXR.out.drew.next hb2 hxl'); have z0 : w2.cell? ⟨gg, 1, none⟩ = some (.slice Ga k ca') := B2.out.cell 1; have zf0 := B2.out.frozen 1; have hgl2 : gg < w2.heap.size := B2.out.lt; have HBW2 := Lib.hid (HBK.out.drew.trans (hb2.mono HBK.out.size)); have hs2 : ws.heap.size ≤ w2.heap.size := HBW2.out.size; have y0 := X2.out.cell 1; simp only [List.getElem?_toArray, List.getElem?_cons_zero, List.getElem?_cons_succ] at y0; have y1 := ((bcell hb2).1 b3 (o3 + k) hbr').trans e0; have hbr2 : b3 < w2.heap.size := Nat.lt_of_lt_of_le hbr' hb2.size; clear ho2 hb2
                          try (go_wp2_with fail)
                          refine hK.out _ _ ?_ (fun hNew => ?_)
                          · exact ⟨y0, y1, z0⟩
                          clear hK K hHeld
                          have hHeld := hNew
                          clear hNew
                          try simp only [Act.put, List.setIfInBounds_toArray, List.set_cons_zero, List.set_cons_succ]
                          refine wpAnyH_ready (rs := [8]) (by kernel_rfl) (by simp) ?_
                          refine AllReadyH.cons rfl (fun K hK => ?_) AllReadyH.nil
                          go_simp
                          refine hK.out _ _ ?_ (fun hNew => ?_)
                          · go_keep
                          clear hK K hHeld
                          have hHeld := hNew
                          clear hNew
                          try simp only [Act.put, List.setIfInBounds_toArray, List.set_cons_zero, List.set_cons_succ]
                          refine wpAnyH_ready (rs := [9]) (by kernel_rfl) (by simp) ?_
                          refine AllReadyH.cons rfl (fun K hK => ?_) AllReadyH.nil
                          refine step_append_lies _ (by rfl) _ _ _ (by rfl) ws.heap.size 39 jw _ 1 24 Try.underlying107 hjw hjw0 hjw1 hjw2 rfl (by omega) (.slice Ga k ca') k (rowC wdV ((d.words.take k).map cutW) vsa) (by rfl) ((own_next HOA.out.drew HB2.out).alloc _) ⟨w2.heap.size, 0, none⟩ 1 1 [.slice Av (cutW a).length cv] (by rfl) (by rfl) (World.news_of_block (cs := #[.slice Av (cutW a).length cv]) (t := 39) (fr := (0, 0)) (heap_alloc_new w2 _)) (by simp [Value.oneCell']) (by omega) (by unfold maxLen; omega) (by omega) (by simp; omega) (w2.heap.size + 1) (by simp) ?_; intro gz cap w3 hown3 hgrow3 hat hlt3; have B3 := Lib.hid (Blk.grown (Blk.alloc B2.out _) hgrow3 (Ne.symm hne.out)); have d0 : w3.cell? ⟨gg, 1, none⟩ = some (.slice Ga k ca') := B3.out.cell 1; have df0 := B3.out.frozen 1; have hgl3 : gg < w3.heap.size := B3.out.lt; have HB3 := Lib.hid (below_own (B := ws.heap.size) (HBW2.out.alloc hs2 _) ((own_next HOA.out.drew HB2.out).alloc _) hgrow3 (Nat.le_refl _) (by simp; omega)); have y0 := ((X2.out.alloc _).grown hgrow3 (Ne.symm (own_blk_ne HOA.out.drew HXR.out.drew (by decide)))).cell 1; simp only [List.getElem?_toArray, List.getElem?_cons_zero, List.getElem?_cons_succ] at y0; have y1 := ((bcell HB3.out).1 b3 (o3 + k) hb3s).trans E0.out
                          refine hK.out _ _ ?_ (fun hNew => ?_)
                          · exact ⟨y0, y1, d0⟩
                          clear hK K hHeld
                          have hHeld := hNew
                          clear hNew
                          try simp only [Act.put, List.setIfInBounds_toArray, List.set_cons_zero, List.set_cons_succ]
                          refine wpAnyH_take (i := 10) (v := ?_) rfl (by kernel_rfl) (by kernel_rfl) (by kernel_rfl) (fun _ _ _ h => h) (Or.inl ⟨by rfl, ?_⟩) hHeld ?_
                          rotate_left
                          · (intro w hSw; (try dsimp only at hSw); go_simp; try with_reducible rfl)
                          try simp only [Act.put, List.setIfInBounds_toArray, List.set_cons_zero, List.set_cons_succ]
                          refine wpAnyH_done (by kernel_rfl) ?_ _
                          refine lastQ_step rfl (fun K hK => ?_)
                          clear hHeld
                          go_simp
                          refine hK _ _ ?_
                          clear hK K
                          refine NoPanic.normal ?_
                          have HN2 := Lib.hid ((Below.refl w2.heap.size w2).alloc (Nat.le_refl _) (.cells #[.slice Av (cutW a).length cv] 39))
                          have h3' : w2.ownsRow ws.heap.size 39 1 (.slice Ga k ca') ((d.words.take k).map cutW).length (rowC wdV ((d.words.take k).map cutW) vsa) := by rw [HLK.out]; exact own_next HOA.out.drew HB2.out
                          have h4' : w3.ownsRow ws.heap.size 39 1 (.slice (some ⟨gz, 0, none⟩) (k + 1) cap) (((d.words.take k).map cutW).length + 1) (rowC wdV ((d.words.take k).map cutW) vsa ++ [.slice Av (cutW a).length cv]) := by rw [HLK.out]; exact hown3
                          have HP := Lib.hid (SmB.pushW (c := ⟨(d.asg.take 36).map cutA, (d.words.take k).map cutW, cutW d.inn, cutW d.out, d.app⟩) (val := cutW a) (by decide) (by decide) (by decide) (by decide) (by decide) B2.out (HWA.out.imp (fun _ _ h => NWp.next (w := wr.drew) h HB2.out)) h3' (RowOwn.next (w := wr.drew) HRO1.out HB2.out (fun _ _ h => NAp.next (w := wr.drew) h HB2.out)) (NWp.next (w := wr.drew) HRI.out HB2.out) (NWp.next (w := wr.drew) HRO.out HB2.out) HN2.out hgrow3 h4' (Rd.next HVV.out HN2.out))
                          have HX3 := Lib.hid ((((X2.out.alloc (.cells #[.slice Av (cutW a).length cv] 39)).grown hgrow3 (Ne.symm (own_blk_ne HOA.out.drew HXR.out.drew (by decide)))).far (p := ⟨gg, 1, none⟩) (Ne.symm hq0) (.slice (some ⟨gz, 0, none⟩) (k + 1) cap)))
                          have HB4 := Lib.hid (HB3.out.setCell (p := ⟨gg, 1, none⟩) hbs (.slice (some ⟨gz, 0, none⟩) (k + 1) cap))
                          clear h3' h4' hown3 hgrow3 y0 y1 d0 df0 hgl3 z0 zf0 hgl2 hbr2 hs2 hat hlt3 e0 x0 g0 gf0 hgl hbr hne hxl hxl' hgl' hbr'
                          generalize (w3.setCell ⟨gg, 1, none⟩ (.slice (some ⟨gz, 0, none⟩) (k + 1) cap)) = wz at *
                          go_wp2
                          go_roundg (gk - 1)
                          case rel => exact ⟨k + 1, by go_num, by omega, by omega, by omega, HB4.out, HX3.out, by rw [HTK.out]; exact HP.out.1, hgg⟩
                          case measure => omega
                        · have t2 : decide ((k : Int) < 36) = false := decide_eq_false (by omega)
                          obtain rfl : k = 36 := by omega
                          have HS : Hid (ShS ws gg #[.slice sa d.asg.length na, .slice sb d.words.length nb, .slice si d.inn.length ni, .slice so d.out.length no, .bool d.app] (cutS d) wr) := HS
                          have x0 := HS.out.2.1.cell 1
                          simp only [List.getElem?_toArray, List.getElem?_cons_zero, List.getElem?_cons_succ] at x0
                          have hxl := HS.out.2.1.lt
                          obtain ⟨hbk, hXr, hS, hgg⟩ := HS.out
                          obtain ⟨u5, hG5, hN5⟩ := hS.cells
                          obtain ⟨ta, ua, tb, ub, ti, ui, tq, uq, hu⟩ := NSp.forms hN5
                          subst hu
                          have HN2 := Lib.hid hN5
                          have HPN := Lib.hid (HPJ.out.next hbk)
                          obtain ⟨gv, hB5, ⟨vsa, hwa, hoa⟩⟩ := HPN.out
                          simp only at hB5 hwa hoa
                          have hlk : ((q.stages.take j).map cutS).length = j := by rw [List.length_map, List.length_take]; omega
                          have HLK := Lib.hid hlk
                          rw [hlk] at hoa
                          obtain ⟨Ga, gc, rfl, _⟩ := own_len hoa
                          have g0 : wr.cell? ⟨wo.heap.size, 1, none⟩ = some (.slice Ga j gc) := hB5.cell 1
                          have gf0 := hB5.frozen 1
                          have hgl := hB5.lt
                          have b0 := hG5.cell 0
                          have b1 := hG5.cell 1
                          have b2 := hG5.cell 2
                          have b3 := hG5.cell 3
                          have b4 := hG5.cell 4
                          simp only [smV, List.getElem?_toArray, List.getElem?_cons_zero, List.getElem?_cons_succ] at b0 b1 b2 b3 b4
                          have hgl5 := hG5.lt
                          have HPB := Lib.hid hB5
                          have HWA := Lib.hid hwa
                          have HOA := Lib.hid hoa
                          have HBX := Lib.hid (HBW.out.trans (hbk.mono HBW.out.size))
                          have hsX : wo.heap.size ≤ wr.heap.size := HBX.out.size
                          clear hbk hXr hS hG5 hN5 hB5 hwa hoa hlk HS
                          go_wp2_with (at_builtin; refine wpList_append_lies _ rfl _ _ _ rfl wo.heap.size 109 js _ 5 104 Try.underlying97 hjs hjs0 hjs1 hjs2 rfl (by omega) (.slice Ga j gc) j (rowC smV ((q.stages.take j).map cutS) vsa) rfl (HOA.out.alloc _) ⟨wr.heap.size, 0, none⟩ 1 1 [.slice ta (cutS d).asg.length ua, .slice tb (cutS d).words.length ub, .slice ti (cutS d).inn.length ui, .slice tq (cutS d).out.length uq, .bool d.app] rfl rfl (World.news_of_block (cs := #[.slice ta (cutS d).asg.length ua, .slice tb (cutS d).words.length ub, .slice ti (cutS d).inn.length ui, .slice tq (cutS d).out.length uq, .bool d.app]) (t := 109) (fr := (0, 0)) (heap_alloc_new wr _)) (by simp [Value.oneCell']) (by omega) (by unfold maxLen; omega) (by omega) (by simp; omega) (wr.heap.size + 1) (by simp) ?_; intro gz cap w3 hown3 hgrow3 hat hlt3; have B3 := Lib.hid (Blk.grown (Blk.alloc HPB.out _) hgrow3 (Ne.symm (own_blk_ne HOA.out HPB.out (by decide)))); have d0 : w3.cell? ⟨wo.heap.size, 1, none⟩ = some (.slice Ga j gc) := B3.out.cell 1; have df0 := B3.out.frozen 1; have hgl3 : wo.heap.size < w3.heap.size := B3.out.lt; have HB3 := Lib.hid (below_own (B := wo.heap.size) (HBX.out.alloc hsX _) (HOA.out.alloc _) hgrow3 (Nat.le_refl _) (by simp; omega)); have HOW3 := Lib.hid hown3; have HGR3 := Lib.hid hgrow3; clear hown3 hgrow3)
                          have HN3 := Lib.hid ((Below.refl wr.heap.size wr).alloc (Nat.le_refl _) (.cells #[.slice ta (cutS d).asg.length ua, .slice tb (cutS d).words.length ub, .slice ti (cutS d).inn.length ui, .slice tq (cutS d).out.length uq, .bool d.app] 109))
                          have h3' : wr.ownsRow wo.heap.size 109 5 (.slice Ga j gc) ((q.stages.take j).map cutS).length (rowC smV ((q.stages.take j).map cutS) vsa) := by rw [HLK.out]; exact HOA.out
                          have h4' : w3.ownsRow wo.heap.size 109 5 (.slice (some ⟨gz, 0, none⟩) (j + 1) cap) (((q.stages.take j).map cutS).length + 1) (rowC smV ((q.stages.take j).map cutS) vsa ++ smV (cutS d) ⟨.slice ta (cutS d).asg.length ua, .slice tb (cutS d).words.length ub, .slice ti (cutS d).inn.length ui, .slice tq (cutS d).out.length uq⟩) := by rw [HLK.out]; exact HOW3.out
                          have HP := Lib.hid (PlB.push (q := ⟨q.wh, (q.stages.take j).map cutS⟩) (x := cutS d) (by decide) (by decide) (by decide) (by decide) (by decide) (by decide) (by decide) HPB.out HWA.out h3' HN3.out HGR3.out h4' (NSp.next HN2.out HN3.out)).1
                          have HB4 := Lib.hid (HB3.out.setCell (p := ⟨wo.heap.size, 1, none⟩) (Nat.le_refl _) (.slice (some ⟨gz, 0, none⟩) (j + 1) cap))
                          go_roundg (gj - 1)
                          case rel => exact ⟨j + 1, by go_num, by omega, by omega, by omega, HB4.out, by rw [HTJ.out]; exact HP.out⟩
                          case measure => omega
                      · have t1 : decide ((k : Int) < (d.words.length : Int)) = false := decide_eq_false (by omega)
                        have HTE := Lib.hid (show (d.words.take k).map cutW = (d.words.take 36).map cutW by rw [List.take_of_length_le (by omega), List.take_of_length_le (by omega)])
                        rw [HTE.out] at HS
                        have HS : Hid (ShS ws gg #[.slice sa d.asg.length na, .slice sb d.words.length nb, .slice si d.inn.length ni, .slice so d.out.length no, .bool d.app] (cutS d) wr) := HS
                        have x0 := HS.out.2.1.cell 1
                        simp only [List.getElem?_toArray, List.getElem?_cons_zero, List.getElem?_cons_succ] at x0
                        have hxl := HS.out.2.1.lt
                        obtain ⟨hbk, hXr, hS, hgg⟩ := HS.out
                        obtain ⟨u5, hG5, hN5⟩ := hS.cells
                        obtain ⟨ta, ua, tb, ub, ti, ui, tq, uq, hu⟩ := NSp.forms hN5
                        subst hu
                        have HN2 := Lib.hid hN5
                        have HPN := Lib.hid (HPJ.out.next hbk)
                        obtain ⟨gv, hB5, ⟨vsa, hwa, hoa⟩⟩ := HPN.out
                        simp only at hB5 hwa hoa
                        have hlk : ((q.stages.take j).map cutS).length = j := by rw [List.length_map, List.length_take]; omega
                        have HLK := Lib.hid hlk
                        rw [hlk] at hoa
                        obtain ⟨Ga, gc, rfl, _⟩ := own_len hoa
                        have g0 : wr.cell? ⟨wo.heap.size, 1, none⟩ = some (.slice Ga j gc) := hB5.cell 1
                        have gf0 := hB5.frozen 1
                        have hgl := hB5.lt
                        have b0 := hG5.cell 0
                        have b1 := hG5.cell 1
                        have b2 := hG5.cell 2
                        have b3 := hG5.cell 3
                        have b4 := hG5.cell 4
                        simp only [smV, List.getElem?_toArray, List.getElem?_cons_zero, List.getElem?_cons_succ] at b0 b1 b2 b3 b4
                        have hgl5 := hG5.lt
                        have HPB := Lib.hid hB5
                        have HWA := Lib.hid hwa
                        have HOA := Lib.hid hoa
                        have HBX := Lib.hid (HBW.out.trans (hbk.mono HBW.out.size))
                        have hsX : wo.heap.size ≤ wr.heap.size := HBX.out.size
                        clear hbk hXr hS hG5 hN5 hB5 hwa hoa hlk HS
                        go_wp2_with (at_builtin; refine wpList_append_lies _ rfl _ _ _ rfl wo.heap.size 109 js _ 5 104 Try.underlying97 hjs hjs0 hjs1 hjs2 rfl (by omega) (.slice Ga j gc) j (rowC smV ((q.stages.take j).map cutS) vsa) rfl (HOA.out.alloc _) ⟨wr.heap.size, 0, none⟩ 1 1 [.slice ta (cutS d).asg.length ua, .slice tb (cutS d).words.length ub, .slice ti (cutS d).inn.length ui, .slice tq (cutS d).out.length uq, .bool d.app] rfl rfl (World.news_of_block (cs := #[.slice ta (cutS d).asg.length ua, .slice tb (cutS d).words.length ub, .slice ti (cutS d).inn.length ui, .slice tq (cutS d).out.length uq, .bool d.app]) (t := 109) (fr := (0, 0)) (heap_alloc_new wr _)) (by simp [Value.oneCell']) (by omega) (by unfold maxLen; omega) (by omega) (by simp; omega) (wr.heap.size + 1) (by simp) ?_; intro gz cap w3 hown3 hgrow3 hat hlt3; have B3 := Lib.hid (Blk.grown (Blk.alloc HPB.out _) hgrow3 (Ne.symm (own_blk_ne HOA.out HPB.out (by decide)))); have d0 : w3.cell? ⟨wo.heap.size, 1, none⟩ = some (.slice Ga j gc) := B3.out.cell 1; have df0 := B3.out.frozen 1; have hgl3 : wo.heap.size < w3.heap.size := B3.out.lt; have HB3 := Lib.hid (below_own (B := wo.heap.size) (HBX.out.alloc hsX _) (HOA.out.alloc _) hgrow3 (Nat.le_refl _) (by simp; omega)); have HOW3 := Lib.hid hown3; have HGR3 := Lib.hid hgrow3; clear hown3 hgrow3)
                        have HN3 := Lib.hid ((Below.refl wr.heap.size wr).alloc (Nat.le_refl _) (.cells #[.slice ta (cutS d).asg.length ua, .slice tb (cutS d).words.length ub, .slice ti (cutS d).inn.length ui, .slice tq (cutS d).out.length uq, .bool d.app] 109))
                        have h3' : wr.ownsRow wo.heap.size 109 5 (.slice Ga j gc) ((q.stages.take j).map cutS).length (rowC smV ((q.stages.take j).map cutS) vsa) := by rw [HLK.out]; exact HOA.out
                        have h4' : w3.ownsRow wo.heap.size 109 5 (.slice (some ⟨gz, 0, none⟩) (j + 1) cap) (((q.stages.take j).map cutS).length + 1) (rowC smV ((q.stages.take j).map cutS) vsa ++ smV (cutS d) ⟨.slice ta (cutS d).asg.length ua, .slice tb (cutS d).words.length ub, .slice ti (cutS d).inn.length ui, .slice tq (cutS d).out.length uq⟩) := by rw [HLK.out]; exact HOW3.out
                        have HP := Lib.hid (PlB.push (q := ⟨q.wh, (q.stages.take j).map cutS⟩) (x := cutS d) (by decide) (by decide) (by decide) (by decide) (by decide) (by decide) (by decide) HPB.out HWA.out h3' HN3.out HGR3.out h4' (NSp.next HN2.out HN3.out)).1
                        have HB4 := Lib.hid (HB3.out.setCell (p := ⟨wo.heap.size, 1, none⟩) (Nat.le_refl _) (.slice (some ⟨gz, 0, none⟩) (j + 1) cap))
                        go_roundg (gj - 1)
                        case rel => exact ⟨j + 1, by go_num, by omega, by omega, by omega, HB4.out, by rw [HTJ.out]; exact HP.out⟩
                        case measure => omega
            · have t2 : decide ((j : Int) < 10) = false := decide_eq_false (by omega)
              obtain rfl : j = 10 := by omega
              have HGJ := Lib.hid (HG.out.next HBW.out)
              have HXJ := Lib.hid (HX.out.next HBW.out HX.out.lt)
              have HZJ := Lib.hid (HZ.out.next HBW.out HZ.out.lt)
              have HBJ := Lib.hid (HB.out.trans (HBW.out.mono HB.out.size))
              have HPJ : Hid (PlB 51 39 112 109 101 wo.heap.size wo.heap.size (cutQ q) wr) := HPJ
              obtain ⟨u, hB6, hNq⟩ := HPJ.out.cells
              obtain ⟨Av, cv, rfl, _⟩ := RowRd.form hNq
              try simp only at hB6
              have HNQ := Lib.hid hNq
              obtain ⟨lv, hL, ⟨vsp, hwp, hop⟩⟩ := HGJ.out
              simp only at hL hwp hop
              have hlk : ((l.parts.take k).map cutQ).length = k := by rw [List.length_map, List.length_take]; omega
              have HLK := Lib.hid hlk
              rw [hlk] at hop
              obtain ⟨Ga, gc, rfl, _⟩ := own_len hop
              have g0 : wr.cell? ⟨gg, 0, none⟩ = some (.slice Ga k gc) := hL.cell 0
              have gf0 := hL.frozen 0
              have hgl := hL.lt
              have t0 : wr.cell? ⟨wo.heap.size, 0, none⟩ = some (.int .i64 (cutQ q).wh) := hB6.cell 0
              have t5 : wr.cell? ⟨wo.heap.size, 1, none⟩ = some (.slice Av (cutQ q).stages.length cv) := hB6.cell 1
              have htl := hB6.lt
              have HLB := Lib.hid hL
              have HWP := Lib.hid hwp
              have HOP := Lib.hid hop
              have hs0 : w.heap.size ≤ wr.heap.size := HBJ.out.size
              clear hB6 hNq hL hwp hop hlk
              go_wp2_with (at_builtin; refine wpList_append_lies _ rfl _ _ _ rfl w.heap.size 101 jq _ 2 32 Try.underlying28 hjq hjq0 hjq1 hjq2 rfl (by omega) (.slice Ga k gc) k (rowC plV ((l.parts.take k).map cutQ) vsp) rfl (HOP.out.alloc _) ⟨wr.heap.size, 0, none⟩ 1 1 [.int .i64 (cutQ q).wh, .slice Av (cutQ q).stages.length cv] rfl rfl (World.news_of_block (cs := #[.int .i64 (cutQ q).wh, .slice Av (cutQ q).stages.length cv]) (t := 101) (fr := (0, 0)) (heap_alloc_new wr _)) (by simp [Value.oneCell']) (by omega) (by unfold maxLen; omega) (by omega) (by simp; omega) (wr.heap.size + 1) (by simp) ?_; intro gz cap w3 hown3 hgrow3 hat hlt3; have B3 := Lib.hid (Blk.grown (Blk.alloc HLB.out _) hgrow3 (Ne.symm (own_blk_ne HOP.out HLB.out (by decide)))); have d0 : w3.cell? ⟨gg, 0, none⟩ = some (.slice Ga k gc) := B3.out.cell 0; have df0 := B3.out.frozen 0; have hgl3 : gg < w3.heap.size := B3.out.lt; have HB3 := Lib.hid (below_own (B := w.heap.size) (HBJ.out.alloc hs0 _) (HOP.out.alloc _) hgrow3 (Nat.le_refl _) (by simp; omega)); have HX3 := Lib.hid ((HXJ.out.alloc _).grown hgrow3 (Ne.symm (own_blk_ne HOP.out HXJ.out (by decide)))); have HZ3 := Lib.hid ((HZJ.out.alloc _).grown hgrow3 (Ne.symm (own_blk_ne HOP.out HZJ.out (by decide)))); have HOW3 := Lib.hid hown3; have HGR3 := Lib.hid hgrow3; clear hown3 hgrow3)
              have HN3 := Lib.hid ((Below.refl wr.heap.size wr).alloc (Nat.le_refl _) (.cells #[.int .i64 (cutQ q).wh, .slice Av (cutQ q).stages.length cv] 101))
              have h3' : wr.ownsRow w.heap.size 101 2 (.slice Ga k gc) ((l.parts.take k).map cutQ).length (rowC plV ((l.parts.take k).map cutQ) vsp) := by rw [HLK.out]; exact HOP.out
              have h4' : w3.ownsRow w.heap.size 101 2 (.slice (some ⟨gz, 0, none⟩) (k + 1) cap) (((l.parts.take k).map cutQ).length + 1) (rowC plV ((l.parts.take k).map cutQ) vsp ++ [.int .i64 (cutQ q).wh, .slice Av (cutQ q).stages.length cv]) := by rw [HLK.out]; exact HOW3.out
              have HP := Lib.hid (LnB.push (l := ⟨(l.parts.take k).map cutQ, l.bg⟩) (x := cutQ q) (by decide) (by decide) (by decide) (by decide) (by decide) (by decide) (by decide) (by decide) (by decide) HLB.out HWP.out h3' HN3.out HGR3.out h4' (NPp.next HNQ.out HN3.out)).1
              have HX4 := Lib.hid (HX3.out.far (p := ⟨gg, 0, none⟩) (show w.heap.size ≠ gg by omega) (.slice (some ⟨gz, 0, none⟩) (k + 1) cap))
              have HZ4 := Lib.hid (HZ3.out.far (p := ⟨gg, 0, none⟩) (show w.heap.size + 1 ≠ gg by omega) (.slice (some ⟨gz, 0, none⟩) (k + 1) cap))
              have HB4 := Lib.hid (HB3.out.setCell (p := ⟨gg, 0, none⟩) (show w.heap.size ≤ gg by omega) (.slice (some ⟨gz, 0, none⟩) (k + 1) cap))
              go_roundg (gk0 - 1)
              case rel => exact ⟨k + 1, by go_num, by omega, by omega, by omega, HB4.out, HX4.out, HZ4.out, by rw [HTK.out]; exact HP.out⟩
              case measure => omega
          · have t1 : decide ((j : Int) < (q.stages.length : Int)) = false := decide_eq_false (by omega)
            have HTE := Lib.hid (show (q.stages.take j).map cutS = (q.stages.take 10).map cutS by rw [List.take_of_length_le (by omega), List.take_of_length_le (by omega)])
            rw [HTE.out] at HPJ
            have HGJ := Lib.hid (HG.out.next HBW.out)
            have HXJ := Lib.hid (HX.out.next HBW.out HX.out.lt)
            have HZJ := Lib.hid (HZ.out.next HBW.out HZ.out.lt)
            have HBJ := Lib.hid (HB.out.trans (HBW.out.mono HB.out.size))
            have HPJ : Hid (PlB 51 39 112 109 101 wo.heap.size wo.heap.size (cutQ q) wr) := HPJ
            obtain ⟨u, hB6, hNq⟩ := HPJ.out.cells
            obtain ⟨Av, cv, rfl, _⟩ := RowRd.form hNq
            try simp only at hB6
            have HNQ := Lib.hid hNq
            obtain ⟨lv, hL, ⟨vsp, hwp, hop⟩⟩ := HGJ.out
            simp only at hL hwp hop
            have hlk : ((l.parts.take k).map cutQ).length = k := by rw [List.length_map, List.length_take]; omega
            have HLK := Lib.hid hlk
            rw [hlk] at hop
            obtain ⟨Ga, gc, rfl, _⟩ := own_len hop
            have g0 : wr.cell? ⟨gg, 0, none⟩ = some (.slice Ga k gc) := hL.cell 0
            have gf0 := hL.frozen 0
            have hgl := hL.lt
            have t0 : wr.cell? ⟨wo.heap.size, 0, none⟩ = some (.int .i64 (cutQ q).wh) := hB6.cell 0
            have t5 : wr.cell? ⟨wo.heap.size, 1, none⟩ = some (.slice Av (cutQ q).stages.length cv) := hB6.cell 1
            have htl := hB6.lt
            have HLB := Lib.hid hL
            have HWP := Lib.hid hwp
            have HOP := Lib.hid hop
            have hs0 : w.heap.size ≤ wr.heap.size := HBJ.out.size
            clear hB6 hNq hL hwp hop hlk
            go_wp2_with (at_builtin; refine wpList_append_lies _ rfl _ _ _ rfl w.heap.size 101 jq _ 2 32 Try.underlying28 hjq hjq0 hjq1 hjq2 rfl (by omega) (.slice Ga k gc) k (rowC plV ((l.parts.take k).map cutQ) vsp) rfl (HOP.out.alloc _) ⟨wr.heap.size, 0, none⟩ 1 1 [.int .i64 (cutQ q).wh, .slice Av (cutQ q).stages.length cv] rfl rfl (World.news_of_block (cs := #[.int .i64 (cutQ q).wh, .slice Av (cutQ q).stages.length cv]) (t := 101) (fr := (0, 0)) (heap_alloc_new wr _)) (by simp [Value.oneCell']) (by omega) (by unfold maxLen; omega) (by omega) (by simp; omega) (wr.heap.size + 1) (by simp) ?_; intro gz cap w3 hown3 hgrow3 hat hlt3; have B3 := Lib.hid (Blk.grown (Blk.alloc HLB.out _) hgrow3 (Ne.symm (own_blk_ne HOP.out HLB.out (by decide)))); have d0 : w3.cell? ⟨gg, 0, none⟩ = some (.slice Ga k gc) := B3.out.cell 0; have df0 := B3.out.frozen 0; have hgl3 : gg < w3.heap.size := B3.out.lt; have HB3 := Lib.hid (below_own (B := w.heap.size) (HBJ.out.alloc hs0 _) (HOP.out.alloc _) hgrow3 (Nat.le_refl _) (by simp; omega)); have HX3 := Lib.hid ((HXJ.out.alloc _).grown hgrow3 (Ne.symm (own_blk_ne HOP.out HXJ.out (by decide)))); have HZ3 := Lib.hid ((HZJ.out.alloc _).grown hgrow3 (Ne.symm (own_blk_ne HOP.out HZJ.out (by decide)))); have HOW3 := Lib.hid hown3; have HGR3 := Lib.hid hgrow3; clear hown3 hgrow3)
            have HN3 := Lib.hid ((Below.refl wr.heap.size wr).alloc (Nat.le_refl _) (.cells #[.int .i64 (cutQ q).wh, .slice Av (cutQ q).stages.length cv] 101))
            have h3' : wr.ownsRow w.heap.size 101 2 (.slice Ga k gc) ((l.parts.take k).map cutQ).length (rowC plV ((l.parts.take k).map cutQ) vsp) := by rw [HLK.out]; exact HOP.out
            have h4' : w3.ownsRow w.heap.size 101 2 (.slice (some ⟨gz, 0, none⟩) (k + 1) cap) (((l.parts.take k).map cutQ).length + 1) (rowC plV ((l.parts.take k).map cutQ) vsp ++ [.int .i64 (cutQ q).wh, .slice Av (cutQ q).stages.length cv]) := by rw [HLK.out]; exact HOW3.out
            have HP := Lib.hid (LnB.push (l := ⟨(l.parts.take k).map cutQ, l.bg⟩) (x := cutQ q) (by decide) (by decide) (by decide) (by decide) (by decide) (by decide) (by decide) (by decide) (by decide) HLB.out HWP.out h3' HN3.out HGR3.out h4' (NPp.next HNQ.out HN3.out)).1
            have HX4 := Lib.hid (HX3.out.far (p := ⟨gg, 0, none⟩) (show w.heap.size ≠ gg by omega) (.slice (some ⟨gz, 0, none⟩) (k + 1) cap))
            have HZ4 := Lib.hid (HZ3.out.far (p := ⟨gg, 0, none⟩) (show w.heap.size + 1 ≠ gg by omega) (.slice (some ⟨gz, 0, none⟩) (k + 1) cap))
            have HB4 := Lib.hid (HB3.out.setCell (p := ⟨gg, 0, none⟩) (show w.heap.size ≤ gg by omega) (.slice (some ⟨gz, 0, none⟩) (k + 1) cap))
            go_roundg (gk0 - 1)
            case rel => exact ⟨k + 1, by go_num, by omega, by omega, by omega, HB4.out, HX4.out, HZ4.out, by rw [HTK.out]; exact HP.out⟩
            case measure => omega
      · have t2 : decide ((k : Int) < 18) = false := decide_eq_false (by omega)
        obtain rfl : k = 18 := by omega
        have HG : Hid (LnB 51 39 112 109 101 30 w.heap.size gg (cutL l) wr) := HG
        obtain ⟨lv, hL, hrow⟩ := HG.out
        have hRD := hrow.rd
        obtain ⟨Av, cv, rfl, _⟩ := RowRd.form hRD
        try simp only at hL hRD
        have HRD := Lib.hid hRD
        have x0 : wr.cell? ⟨w.heap.size, 0, none⟩ = some (.slice A l.parts.length c) := HX.out.cell 0
        have hxl := HX.out.lt
        have g0 : wr.cell? ⟨gg, 0, none⟩ = some (.slice Av (cutL l).parts.length cv) := hL.cell 0
        have g1 : wr.cell? ⟨gg, 1, none⟩ = some (.bool l.bg) := hL.cell 1
        have hgl := hL.lt
        have r0 : wr.cell? ⟨w.heap.size + 1, 0, none⟩ = some (.slice none 0 0) := HZ.out.cell 0
        have r1 : wr.cell? ⟨w.heap.size + 1, 1, none⟩ = some (.bool false) := HZ.out.cell 1
        have rf0 := HZ.out.frozen 0
        have rf1 := HZ.out.frozen 1
        have hrb := HZ.out.lt
        have G2 : wr.grownBy ((wr.setCell ⟨w.heap.size + 1, 0, none⟩ (.slice Av (cutL l).parts.length cv)).setCell ⟨w.heap.size + 1, 1, none⟩ (.bool l.bg)) (some (w.heap.size + 1)) := only_setCell (p := ⟨w.heap.size + 1, 1, none⟩) (only_setCell (p := ⟨w.heap.size + 1, 0, none⟩) (World.grownBy.refl _ _) (.inl rfl) _) (.inl rfl) _
        have K := Lib.hid (Kept.of_blk [30] HZ.out G2 rfl)
        have HGB := Lib.hid (below_of_grown' HB.out G2 (by omega))
        clear G2 hL hrow hRD
        go_wp2
        refine bodyPost_ret (v := .agg #[.slice Av (cutL l).parts.length cv, .bool l.bg]) (by simp [results, Try.results22, go_sem, hrb, r0, r1]) rfl ?_
        exact ⟨_, rfl, HRD.out.keep K.out rfl (fun _ _ h => NPp.keep h K.out rfl rfl rfl rfl), HGB.out⟩
    · have t1 : decide ((k : Int) < (l.parts.length : Int)) = false := decide_eq_false (by omega)
      have HTE := Lib.hid (show (l.parts.take k).map cutQ = (l.parts.take 18).map cutQ by rw [List.take_of_length_le (by omega), List.take_of_length_le (by omega)])
      rw [HTE.out] at HG
      have HG : Hid (LnB 51 39 112 109 101 30 w.heap.size gg (cutL l) wr) := HG
      obtain ⟨lv, hL, hrow⟩ := HG.out
      have hRD := hrow.rd
      obtain ⟨Av, cv, rfl, _⟩ := RowRd.form hRD
      try simp only at hL hRD
      have HRD := Lib.hid hRD
      have x0 : wr.cell? ⟨w.heap.size, 0, none⟩ = some (.slice A l.parts.length c) := HX.out.cell 0
      have hxl := HX.out.lt
      have g0 : wr.cell? ⟨gg, 0, none⟩ = some (.slice Av (cutL l).parts.length cv) := hL.cell 0
      have g1 : wr.cell? ⟨gg, 1, none⟩ = some (.bool l.bg) := hL.cell 1
      have hgl := hL.lt
      have r0 : wr.cell? ⟨w.heap.size + 1, 0, none⟩ = some (.slice none 0 0) := HZ.out.cell 0
      have r1 : wr.cell? ⟨w.heap.size + 1, 1, none⟩ = some (.bool false) := HZ.out.cell 1
      have rf0 := HZ.out.frozen 0
      have rf1 := HZ.out.frozen 1
      have hrb := HZ.out.lt
      have G2 : wr.grownBy ((wr.setCell ⟨w.heap.size + 1, 0, none⟩ (.slice Av (cutL l).parts.length cv)).setCell ⟨w.heap.size + 1, 1, none⟩ (.bool l.bg)) (some (w.heap.size + 1)) := only_setCell (p := ⟨w.heap.size + 1, 1, none⟩) (only_setCell (p := ⟨w.heap.size + 1, 0, none⟩) (World.grownBy.refl _ _) (.inl rfl) _) (.inl rfl) _
      have K := Lib.hid (Kept.of_blk [30] HZ.out G2 rfl)
      have HGB := Lib.hid (below_of_grown' HB.out G2 (by omega))
      clear G2 hL hrow hRD
      go_wp2
      refine bodyPost_ret (v := .agg #[.slice Av (cutL l).parts.length cv, .bool l.bg]) (by simp [results, Try.results22, go_sem, hrb, r0, r1]) rfl ?_
      exact ⟨_, rfl, HRD.out.keep K.out rfl (fun _ _ h => NPp.keep h K.out rfl rfl rfl rfl), HGB.out⟩
end Go.Proofs.Ytiddchpkmcncdaa
