/-
Several texts as one: Dhd Dln Scr.
-/
import Derived.Test.YthhnhbpmpdminaaGreatDoorDnb
/-
dimacs' reader: the head. Conditions: the lists' lengths.
-/
namespace Go.Proofs.YthhnhbpmpdminaaGreatDoor
set_option maxRecDepth 4096
open Go.RowKit Go.Proofs.YthhnhbpmpdminaaGreatDoorW.PrintWords

/-- A row of words. -/
def WR (w : World) (b : Nat) (ws : List ByteArray) : Prop := ∃ l, Cells w b 9 l ∧ l.take ws.length = ws.map Value.string
theorem WR.keep {w w' : World} {b : Nat} {ws : List ByteArray} (h : WR w b ws) (k : KS w w') : WR w' b ws := by
  obtain ⟨l, h1, h2⟩ := h
  exact ⟨l, k _ _ h1, h2⟩
theorem WR.cell {w : World} {b : Nat} {ws : List ByteArray} (h : WR w b ws) {i : Nat} {s : ByteArray} (hi : ws[i]? = some s) : w.cell? ⟨b, i, none⟩ = some (.string s) := by
  obtain ⟨l, h1, h2⟩ := h
  refine h1.cell i _ ?_
  have hl := (List.getElem?_eq_some_iff.1 hi).1
  have : (l.take ws.length)[i]? = (ws.map Value.string)[i]? := by rw [h2]
  rw [List.getElem?_take, if_pos hl, List.getElem?_map, hi] at this
  exact this
def headS (st : PS) (ws : List (List UInt8)) : Option PS :=
  match ws with
  | [a, b, x, y] => if a = [112] then if b = [99, 110, 102] then match numD x, numD y with
      | some v, some c => if v ≤ 65536 then some { st with begun := true, v := v, c := c } else none
      | _, _ => none
    else none else none
  | _ => none
theorem not_four {ws : List (List UInt8)} (h : ws.length ≠ 4) (st : PS) : headS st ws = none := by
  unfold headS
  split
  · exact absurd rfl h
  · rfl
def datas (ws : List ByteArray) : List (List UInt8) := ws.map fun s => s.data.toList
theorem numW_is (o : Option Nat) : ∃ (n : Nat) (b : Bool), numW o = .tuple #[.int .i64 (n : Int), .bool b] ∧ ((b = true ∧ o = some n) ∨ (b = false ∧ o = none)) := by
  cases o with
  | none => exact ⟨0, false, rfl, .inr ⟨rfl, rfl⟩⟩
  | some n => exact ⟨n, true, rfl, .inl ⟨rfl, rfl⟩⟩
set_option maxHeartbeats 4000000 in
theorem head_any (B g : Nat) (st : PS) (vc vo : Value) (hs : List Value) (b : Nat) (ws : List ByteArray) (w : World) (h : PI w B g st vc vo hs) (hB : B ≤ w.heap.size) (hw : WR w b ws) (hl : ∀ s ∈ ws, s.size ≤ 1000000) (hwl : ws.length ≤ 1000000) :
    Calls Tryz.prog 106 #[.pointer (some ⟨g, 0, none⟩), .slice (some ⟨b, 0, none⟩) ws.length ws.length] w fun e w' => NumPost B g w (headS st (datas ws)) e w' := by
  by_cases h4 : ws.length = 4
  · obtain ⟨s0, s1, s2, s3, rfl⟩ : ∃ s0 s1 s2 s3, ws = [s0, s1, s2, s3] := by
      match ws, h4 with
      | [a, b, c, d], _ => exact ⟨_, _, _, _, rfl⟩
    have c0 := hw.cell (i := 0) rfl
    have c1 := hw.cell (i := 1) rfl
    have H := Aside0.mk h
    have HW := Aside0.mk hw
    have l2 := hl s2 (by simp)
    have l3 := hl s3 (by simp)
    clear h hw hl hwl h4
    obtain ⟨R, hR⟩ : ∃ R, headS st (datas [s0, s1, s2, s3]) = R := ⟨_, rfl⟩
    rw [hR]
    simp only [List.length_cons, List.length_nil]
    simp only [datas, List.map_cons, List.map_nil, headS] at hR
    by_cases e0 : s0.data.toList = [112]
    · rw [if_pos e0] at hR
      by_cases e1 : s1.data.toList = [99, 110, 102]
      · rw [if_pos e1] at hR
        have HR := Aside0.mk hR
        clear hR
        have t0 : s0.toList = [112] := by rw [Lib.toList_data]; exact e0
        have t1 : s1.toList = [99, 110, 102] := by rw [Lib.toList_data]; exact e1
        clear e0 e1
        have c2 := HW.out.cell (i := 2) rfl
        go_enter Tryz.func106, Tryz.ntmps106
        go_wp2_with fail
        refine (digits_any s2 _ (by omega)).mono ?_
        rintro e w1 ⟨rfl, hB1⟩
        obtain ⟨n0, b0, hn0, hx⟩ := numW_is (numD s2.data.toList)
        rw [hn0]
        have HX := Aside0.mk hx
        have HB1 := Aside0.mk (hB1.mono hB)
        have HK1 := Aside0.mk (KS.of_below hB1)
        have H1 := Aside0.mk (H.out.below hB1)
        have c3 := (HW.out.keep HK1.out).cell (i := 3) rfl
        have hz1 := Nat.le_trans hB hB1.size
        clear hB1 hn0 hx c0 c1 c2
        go_wp2_with fail
        refine (digits_any s3 _ (by omega)).mono ?_
        rintro e w2 ⟨rfl, hB2⟩
        obtain ⟨n1, b1, hn1, hy⟩ := numW_is (numD s3.data.toList)
        rw [hn1]
        have HY := Aside0.mk hy
        have HB2 := Aside0.mk (HB1.out.trans (hB2.mono hz1))
        have HK2 := Aside0.mk (HK1.out.trans (KS.of_below hB2))
        have H2 := Aside0.mk (H1.out.below hB2)
        have hc2 := H2.out.cells
        unfold PS.cells at hc2
        have AG := Aside0.mk hc2
        have p0 := hc2.cell 0 _ rfl
        have p1 := hc2.cell 1 _ rfl
        have p2 := hc2.cell 2 _ rfl
        have f0 := hc2.frozen 0
        have f1 := hc2.frozen 1
        have f2 := hc2.frozen 2
        clear hB2 hn1 hy c3 hc2
        have hBW : Below B w (((w2.setCell ⟨g, 0, none⟩ (.bool true)).setCell ⟨g, 1, none⟩ (.int .i64 (n0 : Int))).setCell ⟨g, 2, none⟩ (.int .i64 (n1 : Int))) := ((HB2.out.setCell H2.out.base _).setCell H2.out.base _).setCell H2.out.base _
        have hKW : KS w (((w2.setCell ⟨g, 0, none⟩ (.bool true)).setCell ⟨g, 1, none⟩ (.int .i64 (n0 : Int))).setCell ⟨g, 2, none⟩ (.int .i64 (n1 : Int))) := ((HK2.out.trans (KS.set AG.out (by decide) _ _)).trans (KS.set (AG.out.set _ _) (by decide) _ _)).trans (KS.set ((AG.out.set _ _).set _ _) (by decide) _ _)
        have hm : Mod (fun k => k = g) w2 (((w2.setCell ⟨g, 0, none⟩ (.bool true)).setCell ⟨g, 1, none⟩ (.int .i64 (n0 : Int))).setCell ⟨g, 2, none⟩ (.int .i64 (n1 : Int))) :=
          (((Mod.refl (fun k => k = g) w2).setCell (p := ⟨g, 0, none⟩) (.inl rfl) (.bool true)).setCell (p := ⟨g, 1, none⟩) (.inl rfl) (.int .i64 (n0 : Int))).setCell (p := ⟨g, 2, none⟩) (.inl rfl) _
        have hPI := H2.out.written hm (st' := { st with begun := true, v := n0, c := n1 }) (by simpa [PS.cells] using ((AG.out.set 0 (.bool true)).set 1 (.int .i64 (n0 : Int))).set 2 (.int .i64 (n1 : Int))) rfl rfl
        have FIN := Aside0.mk (And.intro hBW (And.intro hKW hPI))
        clear hBW hKW hm hPI
        rcases HX.out with ⟨rfl, hx⟩ | ⟨rfl, hx⟩
        · rcases HY.out with ⟨rfl, hy⟩ | ⟨rfl, hy⟩
          · have EX := Aside0.mk hx
            have EY := Aside0.mk hy
            clear hx hy HX HY
            by_cases hv : n0 ≤ 65536
            · have hv' : (n0 : Int) ≤ 65536 := by omega
              go_wp2_with fail
              go_returns
              have hR := HR.out
              rw [EX.out, EY.out] at hR
              simp only [if_pos hv] at hR
              rw [← hR]
              exact ⟨⟨by simp, _, _, _, FIN.out.2.2⟩, FIN.out.1, FIN.out.2.1⟩
            · have hv' : ¬ (n0 : Int) ≤ 65536 := by omega
              go_wp2_with fail
              go_returns
              have hR := HR.out
              rw [EX.out, EY.out] at hR
              simp only [if_neg hv] at hR
              rw [← hR]
              exact ⟨by simp; omega, FIN.out.1, FIN.out.2.1⟩
          · have EX := Aside0.mk hx
            have EY := Aside0.mk hy
            clear hx hy HX HY
            go_wp2_with fail
            go_returns
            have hR := HR.out
            rw [EX.out, EY.out] at hR
            simp only at hR
            rw [← hR]
            exact ⟨by simp, FIN.out.1, FIN.out.2.1⟩
        · have EX := Aside0.mk hx
          clear hx HX HY
          go_wp2_with fail
          go_returns
          have hR := HR.out
          rw [EX.out] at hR
          simp only at hR
          rw [← hR]
          exact ⟨by simp, FIN.out.1, FIN.out.2.1⟩
      · rw [if_neg e1] at hR
        subst hR
        have t0 : s0.toList = [112] := by rw [Lib.toList_data]; exact e0
        have t1 : (s1.toList == [99, 110, 102]) = false := by rw [Lib.toList_data]; simpa using e1
        clear e0 e1
        go_enter Tryz.func106, Tryz.ntmps106
        go_wp2_with fail
        go_returns
        exact ⟨by simp, Below.refl _ _, KS.refl _⟩
    · rw [if_neg e0] at hR
      subst hR
      have t0 : ¬ s0.toList = [112] := by rw [Lib.toList_data]; exact e0
      clear e0
      go_enter Tryz.func106, Tryz.ntmps106
      go_wp2_with fail
      go_returns
      exact ⟨by simp, Below.refl _ _, KS.refl _⟩
  · rw [not_four (by simpa [datas] using h4)]
    have hne : ¬ (ws.length : Int) = 4 := by omega
    go_enter Tryz.func106, Tryz.ntmps106
    go_wp2_with fail
    go_returns
    exact ⟨rfl, Below.refl _ _, KS.refl _⟩
end Go.Proofs.YthhnhbpmpdminaaGreatDoor
/-
dimacs' reader: a line. Conditions: the lists' lengths.
-/
namespace Go.Proofs.YthhnhbpmpdminaaGreatDoor
set_option maxRecDepth 4096
open Go.RowKit Go.Proofs.YthhnhbpmpdminaaGreatDoorW.PrintWords

def numsS (st : PS) : List (List UInt8) → Option PS
  | [] => some st
  | w :: r => match numberS st w with
    | some st' => numsS st' r
    | none => none
def lineS (st : PS) (ws : List (List UInt8)) : Option PS :=
  match ws with
  | [] => some st
  | w :: _ => if w = [99] then some st else if st.begun = true then numsS st ws else headS st ws
theorem numsS_append (a b : List (List UInt8)) : ∀ st, numsS st (a ++ b) = (numsS st a).bind fun st' => numsS st' b := by
  induction a with
  | nil => intro st; rfl
  | cons w a ih =>
    intro st
    show (match numberS st w with | some st' => numsS st' (a ++ b) | none => none) = (match numberS st w with | some st' => numsS st' a | none => none).bind _
    cases numberS st w with
    | none => rfl
    | some st' => exact ih st'
theorem numberS_grows {st st' : PS} {w : List UInt8} (h : numberS st w = some st') : st'.out.length ≤ st.out.length + 1 ∧ st'.now.length ≤ st.now.length + 1 := by
  unfold numberS at h
  split at h
  · cases h
  · split at h
    · cases h
    · split at h
      · cases h
      · split at h
        · cases h; exact ⟨by simp, by simp⟩
        · cases h; exact ⟨by simp, by simp⟩
theorem numsS_grows : ∀ (ws : List (List UInt8)) {st st' : PS}, numsS st ws = some st' → st'.out.length ≤ st.out.length + ws.length ∧ st'.now.length ≤ st.now.length + ws.length
  | [], st, st', h => by cases h; exact ⟨by simp, by simp⟩
  | w :: r, st, st', h => by
    have h : (match numberS st w with | some st' => numsS st' r | none => none) = some st' := h
    cases hn : numberS st w with
    | none => rw [hn] at h; cases h
    | some s1 =>
      rw [hn] at h
      have h1 := numberS_grows hn
      have h2 := numsS_grows r h
      simp only [List.length_cons]
      omega
theorem headS_grows {ws : List (List UInt8)} {st st' : PS} (h : headS st ws = some st') : st'.out = st.out ∧ st'.now = st.now := by
  unfold headS at h
  split at h
  · split at h
    · split at h
      · split at h
        · split at h
          · cases h; exact ⟨rfl, rfl⟩
          · cases h
        · cases h
      · cases h
    · cases h
  · cases h
theorem lineS_grows {ws : List (List UInt8)} {st st' : PS} (h : lineS st ws = some st') : st'.out.length ≤ st.out.length + ws.length ∧ st'.now.length ≤ st.now.length + ws.length := by
  unfold lineS at h
  split at h
  · cases h; exact ⟨by simp, by simp⟩
  · split at h
    · cases h; exact ⟨by omega, by omega⟩
    · split at h
      · exact numsS_grows _ h
      · have := headS_grows h
        rw [this.1, this.2]; exact ⟨by omega, by omega⟩
/-- A line's numbers. -/
structure LI (B g b : Nat) (st : PS) (ws : List ByteArray) (w : World) (i : Nat) (wr : World) : Prop where
  got : ∃ st' vc vo hs, numsS st ((datas ws).take i) = some st' ∧ PI wr B g st' vc vo hs
  below : Below B w wr
  keep : KS w wr
  words : WR wr b ws
set_option maxHeartbeats 4000000 in
theorem line_any (B g : Nat) (st : PS) (vc vo : Value) (hs : List Value) (b : Nat) (ws : List ByteArray) (w : World) (h : PI w B g st vc vo hs) (hB : B ≤ w.heap.size) (hw : WR w b ws) (hl : ∀ s ∈ ws, s.size ≤ 1000000) (hwl : ws.length ≤ 1000000)
    (ho : st.out.length ≤ 900000000000) (hn : st.now.length ≤ 900000000000) :
    Calls Tryz.prog 79 #[.pointer (some ⟨g, 0, none⟩), .slice (some ⟨b, 0, none⟩) ws.length ws.length] w fun e w' => NumPost B g w (lineS st (datas ws)) e w' := by
  have hc := h.cells
  unfold PS.cells at hc
  obtain ⟨R, hR⟩ : ∃ R, lineS st (datas ws) = R := ⟨_, rfl⟩
  rw [hR]
  have H := Aside0.mk h
  have HW := Aside0.mk hw
  clear h hw
  by_cases hnil : ws = []
  · subst hnil
    have hR : some st = R := hR
    subst hR
    go_enter Tryz.func79, Tryz.ntmps79
    go_wp2_with fail
    go_returns
    exact ⟨⟨rfl, _, _, _, H.out⟩, Below.refl _ _, KS.refl _⟩
  · obtain ⟨s0, hs0⟩ : ∃ s0, ws[0]? = some s0 := by
      cases ws with
      | nil => exact absurd rfl hnil
      | cons a r => exact ⟨a, rfl⟩
    have hR : (if s0.data.toList = [99] then some st else if st.begun = true then numsS st (datas ws) else headS st (datas ws)) = R := by
      cases ws with
      | nil => exact absurd rfl hnil
      | cons a r => cases hs0; exact hR
    have hn0 : 0 < ws.length := (List.getElem?_eq_some_iff.1 hs0).1
    have c0 := HW.out.cell hs0
    have p0 := hc.cell 0 _ rfl
    have hlen : ((ws.length : Int) == 0) = false := by rw [beq_eq_false_iff_ne]; omega
    have hlen2 : (0 : Int) < (ws.length : Int) := by omega
    clear hnil hs0
    by_cases e0 : s0.data.toList = [99]
    · rw [if_pos e0] at hR
      subst hR
      have t0 : s0.toList = [99] := by rw [Lib.toList_data]; exact e0
      clear e0
      go_enter Tryz.func79, Tryz.ntmps79
      go_wp2_with fail
      go_returns
      exact ⟨⟨rfl, _, _, _, H.out⟩, Below.refl _ _, KS.refl _⟩
    · rw [if_neg e0] at hR
      have t0 : (s0.toList == [99]) = false := by rw [Lib.toList_data]; simpa using e0
      clear e0
      cases hb : st.begun with
      | false =>
        rw [hb, if_neg (by simp)] at hR
        rw [hb] at p0
        have HR := Aside0.mk hR
        have HL := Aside0.mk hl
        clear hR hl hc hb
        go_enter Tryz.func79, Tryz.ntmps79
        go_wp2_with fail
        refine (head_any B g st vc vo hs b ws _ H.out hB HW.out HL.out hwl).mono ?_
        rintro e w1 hp
        rw [HR.out] at hp
        obtain ⟨h1, h2, h3⟩ := hp
        have AF := Aside0.mk (And.intro h2 h3)
        clear h2 h3 HR
        cases R with
        | none =>
          have h1 : e = .returned (.bool false) := h1
          subst h1
          go_wp2_with fail
          go_returns
          exact ⟨rfl, AF.out.1, AF.out.2⟩
        | some st' =>
          have h1 : e = .returned (.bool true) ∧ ∃ vc vo hs, PI w1 B g st' vc vo hs := h1
          obtain ⟨rfl, h1⟩ := h1
          have AP := Aside0.mk h1
          clear h1
          go_wp2_with fail
          go_returns
          exact ⟨⟨rfl, AP.out.2⟩, AF.out.1, AF.out.2⟩
      | true =>
        rw [hb, if_pos rfl] at hR
        rw [hb] at p0
        have HR := Aside0.mk hR
        have HL := Aside0.mk hl
        clear hR hl hc hb
        go_enter Tryz.func79, Tryz.ntmps79
        go_wp2_with fail
        go_loopw [26] (fun v wr => ∃ i : Nat, i ≤ ws.length ∧ v = .int .i64 (i : Int) ∧ LI B g b st ws w i wr) (fun v _ => ws.length - (intOf v).toNat)
        case atStart => exact ⟨0, by omega, rfl, ⟨st, vc, vo, hs, rfl, H.out⟩, Below.refl _ _, KS.refl _, HW.out⟩
        case round =>
          obtain ⟨i, hi, rfl, hI⟩ := hrel
          obtain ⟨⟨st', vc', vo', hs', hnum, hPI⟩, hBw, hKw, hWw⟩ := hI
          have hgr := numsS_grows _ hnum
          have hti : ((datas ws).take i).length ≤ 1000000 := by simp [datas]; omega
          have HN := Aside0.mk hnum
          have HP := Aside0.mk hPI
          have HBw := Aside0.mk hBw
          have HKw := Aside0.mk hKw
          have hzr : B ≤ wr.heap.size := Nat.le_trans hB hBw.size
          by_cases hlt : i < ws.length
          · obtain ⟨si, hsi⟩ : ∃ si, ws[i]? = some si := ⟨_, List.getElem?_eq_getElem hlt⟩
            have ci := hWw.cell hsi
            have hlt' : (i : Int) < (ws.length : Int) := by omega
            have hsl := HL.out si (List.mem_of_getElem? hsi)
            have HWw := Aside0.mk hWw
            have hdi : (datas ws).take (i + 1) = (datas ws).take i ++ [si.data.toList] := by
              have hl : i < (datas ws).length := by simp [datas]; exact hlt
              rw [List.take_succ_eq_append_getElem hl]
              congr 2
              have := (List.getElem?_eq_some_iff.1 hsi).2
              simp [datas, this]
            have HD := Aside0.mk hdi
            clear hnum hPI hBw hKw hWw hsi hdi
            go_wp2_with fail
            refine (number_any B g st' vc' vo' hs' si _ HP.out hzr hsl (by omega) (by omega)).mono ?_
            rintro e w1 ⟨h1, h2, h3⟩
            have AB := Aside0.mk (HBw.out.trans (h2.mono (Nat.le_refl _)))
            have AK := Aside0.mk (HKw.out.trans h3)
            have AW := Aside0.mk (HWw.out.keep h3)
            clear h2 h3
            cases hq : numberS st' si.data.toList with
            | none =>
              rw [hq] at h1
              have h1 : e = .returned (.bool false) := h1
              subst h1
              have HF : Aside0 (R = none) := ⟨by
                rw [← HR.out]
                have e1 := List.take_append_drop (i + 1) (datas ws)
                rw [← e1, HD.out, List.append_assoc, numsS_append, HN.out]
                show (match numberS st' si.data.toList with | some st' => _ | none => none) = none
                rw [hq]⟩
              go_wp2_with fail
              go_returns
              rw [HF.out]
              exact ⟨rfl, AB.out, AK.out⟩
            | some st2 =>
              rw [hq] at h1
              have h1 : e = .returned (.bool true) ∧ ∃ vc vo hs, PI w1 B g st2 vc vo hs := h1
              obtain ⟨rfl, h1⟩ := h1
              have AP := Aside0.mk h1
              have AN : Aside0 (numsS st ((datas ws).take (i + 1)) = some st2) := ⟨by
                rw [HD.out, numsS_append, HN.out]
                show (match numberS st' si.data.toList with | some st' => numsS st' [] | none => none) = _
                rw [hq]; rfl⟩
              clear h1 hq
              go_wp2_with fail
              obtain ⟨vc2, vo2, hs2, hP2⟩ := AP.out.2
              exact ⟨⟨i + 1, by omega, by simp, ⟨⟨st2, vc2, vo2, hs2, AN.out, hP2⟩, AB.out, AK.out, AW.out⟩⟩, by simp [intOf]; omega⟩
          · have hie : i = ws.length := by omega
            subst hie
            have hRs : R = some st' := by
              rw [← HR.out]
              have : (datas ws).take ws.length = datas ws := List.take_of_length_le (by simp [datas])
              rw [this] at hnum
              exact hnum
            subst hRs
            clear hnum hPI hBw hKw hWw
            go_wp2_with fail
            go_returns
            exact ⟨⟨rfl, _, _, _, HP.out⟩, HBw.out, HKw.out⟩
end Go.Proofs.YthhnhbpmpdminaaGreatDoor
/-
Lines and words by Go's library, as the reader calls them. Conditions: the texts' lengths; bytealg.MaxLen holds a number.
-/
namespace Go.Proofs.YthhnhbpmpdminaaGreatDoor
set_option maxRecDepth 4096
open Go.RowKit Go.Proofs.YthhnhbpmpdminaaGreatDoorW.PrintWords Go.Lib

def wordsP (s : ByteArray) : List ByteArray := Lib.goFieldsP (fun r => r == 32) s
def linesP (s : ByteArray) : List ByteArray := Lib.splitB ⟨#[10]⟩ 0 (Lib.countB s ⟨#[10]⟩) s
def ML (w : World) : Prop := ∃ m, w.cell? ⟨4, 0, none⟩ = some (.int .i64 m)
theorem blank_is (x : Int) (w : World) : Calls Tryz.prog 81 #[.int .i32 x] w fun e w' => e = .returned (.bool (x == 32)) ∧ w' = w := by
  go_enter Tryz.func81, Tryz.ntmps81
  go_wp2_with fail
  go_returns
  exact ⟨rfl, rfl⟩
theorem fields_any (s : ByteArray) (w : World) (hs : s.size ≤ 1000000) : Calls Tryz.prog 80 #[.string s, .func (.func 81) #[] #[]] w fun e w' =>
    ∃ A, e = .returned (.slice (some ⟨A, 0, none⟩) (wordsP s).length (wordsP s).length) ∧ WR w' A (wordsP s) ∧ Below w.heap.size w w' := by
  refine (Any.strings_FieldsFunc Tryz.lays229 81 #[] (fun args w => enters Tryz.func81 (by kernel_rfl) (by kernel_rfl) _ _) (fun r => r == 32) s w (by omega) (fun W x hb => ?_) (by kernel_rfl) (by kernel_rfl)).mono ?_
  · refine (blank_is (x : Int) W).mono fun e w' ⟨he, hw⟩ => ⟨?_, 0, hw⟩
    subst he
    have : ((x : Int) == 32) = (x == 32) := by
      by_cases h : x = 32
      · subst h; rfl
      · rw [beq_eq_false_iff_ne.2 h, beq_eq_false_iff_ne.2 (by omega : (x : Int) ≠ 32)]
    rw [this]
  · rintro e w' ⟨A, he, hA, hown, hB⟩
    refine ⟨A, he, ?_, hB⟩
    rcases hown.2 with ⟨q, _⟩ | ⟨g, cap, cur, q, _, hh, _, _, _, ht⟩
    · cases q
    · cases q
      refine ⟨cur.toList, ?_, ?_⟩
      · show w'.heap[A]? = some (.cells cur.toList.toArray 9 (0, 0))
        rw [Array.toArray_toList]; exact hh
      · rw [Nat.mul_one] at ht; exact ht
theorem split_any (s : ByteArray) (w : World) (hs : s.size ≤ 1000000) (hm : ML w) : Calls Tryz.prog 78 #[.string s, .string ⟨#[10]⟩] w fun e w' =>
    e = .returned (.slice (some ⟨w.heap.size, 0, none⟩) (Lib.countB s ⟨#[10]⟩ + 1) (Lib.countB s ⟨#[10]⟩ + 1)) ∧ Cells w' w.heap.size 9 ((linesP s).map Value.string) ∧ Below w.heap.size w w' := by
  obtain ⟨m, hm⟩ := hm
  refine (Any.strings_Split Tryz.lays146 (by kernel_rfl) s ⟨#[10]⟩ m w (by omega) hm (by decide)).mono ?_
  rintro e w' ⟨he, hw⟩
  subst hw
  exact ⟨he, Cells.new w _ _, (Below.refl _ _).alloc (Nat.le_refl _) _⟩
theorem refuse_any (i e : Int) (w : World) : Calls Tryz.prog 77 #[.int .i64 i, .int .i64 e] w fun r w' => ∃ k, r = .returned (.iface 87 (.pointer (some ⟨k, 0, none⟩))) ∧ Cells w' k 176 [.int .i64 i, .int .i64 e] ∧ Below w.heap.size w w' := by
  go_enter Tryz.func77, Tryz.ntmps77
  go_wp2_with fail
  go_returns
  exact ⟨w.heap.size, rfl, Cells.new w _ _, (Below.refl _ _).alloc (Nat.le_refl _) _⟩
end Go.Proofs.YthhnhbpmpdminaaGreatDoor
