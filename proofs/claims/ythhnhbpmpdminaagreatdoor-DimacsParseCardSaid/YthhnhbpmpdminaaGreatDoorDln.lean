/-
dimacs' reader: a line. Conditions: the lists' lengths.
-/
import Derived.Test.YthhnhbpmpdminaaGreatDoorDhd
namespace Go.Proofs.YthhnhbpmpdminaaGreatDoor
set_option maxRecDepth 4096
open Go.RowKit Go.Proofs.YthhnhbpmpdminaaGreatDoorW.PrintWords

def numsS (st : PS) : List (List UInt8) → Option PS
  | [] => some st
  | w :: r => match numberS st w with
    | some st' => numsS st' r
    | none => none
def lineS (st : PS) (ws : List (List UInt8)) : Option PS :=
  match ws with
  | [] => some st
  | w :: _ => if w = [99] then some st else if st.begun = true then numsS st ws else headS st ws
theorem numsS_append (a b : List (List UInt8)) : ∀ st, numsS st (a ++ b) = (numsS st a).bind fun st' => numsS st' b := by
  induction a with
  | nil => intro st; rfl
  | cons w a ih =>
    intro st
    show (match numberS st w with | some st' => numsS st' (a ++ b) | none => none) = (match numberS st w with | some st' => numsS st' a | none => none).bind _
    cases numberS st w with
    | none => rfl
    | some st' => exact ih st'
theorem numberS_grows {st st' : PS} {w : List UInt8} (h : numberS st w = some st') : st'.out.length ≤ st.out.length + 1 ∧ st'.now.length ≤ st.now.length + 1 := by
  unfold numberS at h
  split at h
  · cases h
  · split at h
    · cases h
    · split at h
      · cases h
      · split at h
        · cases h; exact ⟨by simp, by simp⟩
        · cases h; exact ⟨by simp, by simp⟩
theorem numsS_grows : ∀ (ws : List (List UInt8)) {st st' : PS}, numsS st ws = some st' → st'.out.length ≤ st.out.length + ws.length ∧ st'.now.length ≤ st.now.length + ws.length
  | [], st, st', h => by cases h; exact ⟨by simp, by simp⟩
  | w :: r, st, st', h => by
    have h : (match numberS st w with | some st' => numsS st' r | none => none) = some st' := h
    cases hn : numberS st w with
    | none => rw [hn] at h; cases h
    | some s1 =>
      rw [hn] at h
      have h1 := numberS_grows hn
      have h2 := numsS_grows r h
      simp only [List.length_cons]
      omega
theorem headS_grows {ws : List (List UInt8)} {st st' : PS} (h : headS st ws = some st') : st'.out = st.out ∧ st'.now = st.now := by
  unfold headS at h
  split at h
  · split at h
    · split at h
      · split at h
        · split at h
          · cases h; exact ⟨rfl, rfl⟩
          · cases h
        · cases h
      · cases h
    · cases h
  · cases h
theorem lineS_grows {ws : List (List UInt8)} {st st' : PS} (h : lineS st ws = some st') : st'.out.length ≤ st.out.length + ws.length ∧ st'.now.length ≤ st.now.length + ws.length := by
  unfold lineS at h
  split at h
  · cases h; exact ⟨by simp, by simp⟩
  · split at h
    · cases h; exact ⟨by omega, by omega⟩
    · split at h
      · exact numsS_grows _ h
      · have := headS_grows h
        rw [this.1, this.2]; exact ⟨by omega, by omega⟩
/-- A line's numbers. -/
structure LI (B g b : Nat) (st : PS) (ws : List ByteArray) (w : World) (i : Nat) (wr : World) : Prop where
  got : ∃ st' vc vo hs, numsS st ((datas ws).take i) = some st' ∧ PI wr B g st' vc vo hs
  below : Below B w wr
  keep : KS w wr
  words : WR wr b ws
set_option maxHeartbeats 4000000 in
theorem line_any (B g : Nat) (st : PS) (vc vo : Value) (hs : List Value) (b : Nat) (ws : List ByteArray) (w : World) (h : PI w B g st vc vo hs) (hB : B ≤ w.heap.size) (hw : WR w b ws) (hl : ∀ s ∈ ws, s.size ≤ 1000000) (hwl : ws.length ≤ 1000000)
    (ho : st.out.length ≤ 900000000000) (hn : st.now.length ≤ 900000000000) :
    Calls Tryz.prog 79 #[.pointer (some ⟨g, 0, none⟩), .slice (some ⟨b, 0, none⟩) ws.length ws.length] w fun e w' => NumPost B g w (lineS st (datas ws)) e w' := by
  have hc := h.cells
  unfold PS.cells at hc
  obtain ⟨R, hR⟩ : ∃ R, lineS st (datas ws) = R := ⟨_, rfl⟩
  rw [hR]
  have H := Aside0.mk h
  have HW := Aside0.mk hw
  clear h hw
  by_cases hnil : ws = []
  · subst hnil
    have hR : some st = R := hR
    subst hR
    go_enter Tryz.func79, Tryz.ntmps79
    go_wp2_with fail
    go_returns
    exact ⟨⟨rfl, _, _, _, H.out⟩, Below.refl _ _, KS.refl _⟩
  · obtain ⟨s0, hs0⟩ : ∃ s0, ws[0]? = some s0 := by
      cases ws with
      | nil => exact absurd rfl hnil
      | cons a r => exact ⟨a, rfl⟩
    have hR : (if s0.data.toList = [99] then some st else if st.begun = true then numsS st (datas ws) else headS st (datas ws)) = R := by
      cases ws with
      | nil => exact absurd rfl hnil
      | cons a r => cases hs0; exact hR
    have hn0 : 0 < ws.length := (List.getElem?_eq_some_iff.1 hs0).1
    have c0 := HW.out.cell hs0
    have p0 := hc.cell 0 _ rfl
    have hlen : ((ws.length : Int) == 0) = false := by rw [beq_eq_false_iff_ne]; omega
    have hlen2 : (0 : Int) < (ws.length : Int) := by omega
    clear hnil hs0
    by_cases e0 : s0.data.toList = [99]
    · rw [if_pos e0] at hR
      subst hR
      have t0 : s0.toList = [99] := by rw [Lib.toList_data]; exact e0
      clear e0
      go_enter Tryz.func79, Tryz.ntmps79
      go_wp2_with fail
      go_returns
      exact ⟨⟨rfl, _, _, _, H.out⟩, Below.refl _ _, KS.refl _⟩
    · rw [if_neg e0] at hR
      have t0 : (s0.toList == [99]) = false := by rw [Lib.toList_data]; simpa using e0
      clear e0
      cases hb : st.begun with
      | false =>
        rw [hb, if_neg (by simp)] at hR
        rw [hb] at p0
        have HR := Aside0.mk hR
        have HL := Aside0.mk hl
        clear hR hl hc hb
        go_enter Tryz.func79, Tryz.ntmps79
        go_wp2_with fail
        refine (head_any B g st vc vo hs b ws _ H.out hB HW.out HL.out hwl).mono ?_
        rintro e w1 hp
        rw [HR.out] at hp
        obtain ⟨h1, h2, h3⟩ := hp
        have AF := Aside0.mk (And.intro h2 h3)
        clear h2 h3 HR
        cases R with
        | none =>
          have h1 : e = .returned (.bool false) := h1
          subst h1
          go_wp2_with fail
          go_returns
          exact ⟨rfl, AF.out.1, AF.out.2⟩
        | some st' =>
          have h1 : e = .returned (.bool true) ∧ ∃ vc vo hs, PI w1 B g st' vc vo hs := h1
          obtain ⟨rfl, h1⟩ := h1
          have AP := Aside0.mk h1
          clear h1
          go_wp2_with fail
          go_returns
          exact ⟨⟨rfl, AP.out.2⟩, AF.out.1, AF.out.2⟩
      | true =>
        rw [hb, if_pos rfl] at hR
        rw [hb] at p0
        have HR := Aside0.mk hR
        have HL := Aside0.mk hl
        clear hR hl hc hb
        go_enter Tryz.func79, Tryz.ntmps79
        go_wp2_with fail
        go_loopw [26] (fun v wr => ∃ i : Nat, i ≤ ws.length ∧ v = .int .i64 (i : Int) ∧ LI B g b st ws w i wr) (fun v _ => ws.length - (intOf v).toNat)
        case atStart => exact ⟨0, by omega, rfl, ⟨st, vc, vo, hs, rfl, H.out⟩, Below.refl _ _, KS.refl _, HW.out⟩
        case round =>
          obtain ⟨i, hi, rfl, hI⟩ := hrel
          obtain ⟨⟨st', vc', vo', hs', hnum, hPI⟩, hBw, hKw, hWw⟩ := hI
          have hgr := numsS_grows _ hnum
          have hti : ((datas ws).take i).length ≤ 1000000 := by simp [datas]; omega
          have HN := Aside0.mk hnum
          have HP := Aside0.mk hPI
          have HBw := Aside0.mk hBw
          have HKw := Aside0.mk hKw
          have hzr : B ≤ wr.heap.size := Nat.le_trans hB hBw.size
          by_cases hlt : i < ws.length
          · obtain ⟨si, hsi⟩ : ∃ si, ws[i]? = some si := ⟨_, List.getElem?_eq_getElem hlt⟩
            have ci := hWw.cell hsi
            have hlt' : (i : Int) < (ws.length : Int) := by omega
            have hsl := HL.out si (List.mem_of_getElem? hsi)
            have HWw := Aside0.mk hWw
            have hdi : (datas ws).take (i + 1) = (datas ws).take i ++ [si.data.toList] := by
              have hl : i < (datas ws).length := by simp [datas]; exact hlt
              rw [List.take_succ_eq_append_getElem hl]
              congr 2
              have := (List.getElem?_eq_some_iff.1 hsi).2
              simp [datas, this]
            have HD := Aside0.mk hdi
            clear hnum hPI hBw hKw hWw hsi hdi
            go_wp2_with fail
            refine (number_any B g st' vc' vo' hs' si _ HP.out hzr hsl (by omega) (by omega)).mono ?_
            rintro e w1 ⟨h1, h2, h3⟩
            have AB := Aside0.mk (HBw.out.trans (h2.mono (Nat.le_refl _)))
            have AK := Aside0.mk (HKw.out.trans h3)
            have AW := Aside0.mk (HWw.out.keep h3)
            clear h2 h3
            cases hq : numberS st' si.data.toList with
            | none =>
              rw [hq] at h1
              have h1 : e = .returned (.bool false) := h1
              subst h1
              have HF : Aside0 (R = none) := ⟨by
                rw [← HR.out]
                have e1 := List.take_append_drop (i + 1) (datas ws)
                rw [← e1, HD.out, List.append_assoc, numsS_append, HN.out]
                show (match numberS st' si.data.toList with | some st' => _ | none => none) = none
                rw [hq]⟩
              go_wp2_with fail
              go_returns
              rw [HF.out]
              exact ⟨rfl, AB.out, AK.out⟩
            | some st2 =>
              rw [hq] at h1
              have h1 : e = .returned (.bool true) ∧ ∃ vc vo hs, PI w1 B g st2 vc vo hs := h1
              obtain ⟨rfl, h1⟩ := h1
              have AP := Aside0.mk h1
              have AN : Aside0 (numsS st ((datas ws).take (i + 1)) = some st2) := ⟨by
                rw [HD.out, numsS_append, HN.out]
                show (match numberS st' si.data.toList with | some st' => numsS st' [] | none => none) = _
                rw [hq]; rfl⟩
              clear h1 hq
              go_wp2_with fail
              obtain ⟨vc2, vo2, hs2, hP2⟩ := AP.out.2
              exact ⟨⟨i + 1, by omega, by simp, ⟨⟨st2, vc2, vo2, hs2, AN.out, hP2⟩, AB.out, AK.out, AW.out⟩⟩, by simp [intOf]; omega⟩
          · have hie : i = ws.length := by omega
            subst hie
            have hRs : R = some st' := by
              rw [← HR.out]
              have : (datas ws).take ws.length = datas ws := List.take_of_length_le (by simp [datas])
              rw [this] at hnum
              exact hnum
            subst hRs
            clear hnum hPI hBw hKw hWw
            go_wp2_with fail
            go_returns
            exact ⟨⟨rfl, _, _, _, HP.out⟩, HBw.out, HKw.out⟩
end Go.Proofs.YthhnhbpmpdminaaGreatDoor
