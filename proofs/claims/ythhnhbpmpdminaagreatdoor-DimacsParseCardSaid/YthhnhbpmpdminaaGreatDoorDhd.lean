/-
dimacs' reader: the head. Conditions: the lists' lengths.
-/
import Derived.Test.YthhnhbpmpdminaaGreatDoorDnb
namespace Go.Proofs.YthhnhbpmpdminaaGreatDoor
set_option maxRecDepth 4096
open Go.RowKit Go.Proofs.YthhnhbpmpdminaaGreatDoorW.PrintWords

/-- A row of words. -/
def WR (w : World) (b : Nat) (ws : List ByteArray) : Prop := ∃ l, Cells w b 9 l ∧ l.take ws.length = ws.map Value.string
theorem WR.keep {w w' : World} {b : Nat} {ws : List ByteArray} (h : WR w b ws) (k : KS w w') : WR w' b ws := by
  obtain ⟨l, h1, h2⟩ := h
  exact ⟨l, k _ _ h1, h2⟩
theorem WR.cell {w : World} {b : Nat} {ws : List ByteArray} (h : WR w b ws) {i : Nat} {s : ByteArray} (hi : ws[i]? = some s) : w.cell? ⟨b, i, none⟩ = some (.string s) := by
  obtain ⟨l, h1, h2⟩ := h
  refine h1.cell i _ ?_
  have hl := (List.getElem?_eq_some_iff.1 hi).1
  have : (l.take ws.length)[i]? = (ws.map Value.string)[i]? := by rw [h2]
  rw [List.getElem?_take, if_pos hl, List.getElem?_map, hi] at this
  exact this
def headS (st : PS) (ws : List (List UInt8)) : Option PS :=
  match ws with
  | [a, b, x, y] => if a = [112] then if b = [99, 110, 102] then match numD x, numD y with
      | some v, some c => if v ≤ 65536 then some { st with begun := true, v := v, c := c } else none
      | _, _ => none
    else none else none
  | _ => none
theorem not_four {ws : List (List UInt8)} (h : ws.length ≠ 4) (st : PS) : headS st ws = none := by
  unfold headS
  split
  · exact absurd rfl h
  · rfl
def datas (ws : List ByteArray) : List (List UInt8) := ws.map fun s => s.data.toList
theorem numW_is (o : Option Nat) : ∃ (n : Nat) (b : Bool), numW o = .tuple #[.int .i64 (n : Int), .bool b] ∧ ((b = true ∧ o = some n) ∨ (b = false ∧ o = none)) := by
  cases o with
  | none => exact ⟨0, false, rfl, .inr ⟨rfl, rfl⟩⟩
  | some n => exact ⟨n, true, rfl, .inl ⟨rfl, rfl⟩⟩
set_option maxHeartbeats 4000000 in
theorem head_any (B g : Nat) (st : PS) (vc vo : Value) (hs : List Value) (b : Nat) (ws : List ByteArray) (w : World) (h : PI w B g st vc vo hs) (hB : B ≤ w.heap.size) (hw : WR w b ws) (hl : ∀ s ∈ ws, s.size ≤ 1000000) (hwl : ws.length ≤ 1000000) :
    Calls Tryz.prog 106 #[.pointer (some ⟨g, 0, none⟩), .slice (some ⟨b, 0, none⟩) ws.length ws.length] w fun e w' => NumPost B g w (headS st (datas ws)) e w' := by
  by_cases h4 : ws.length = 4
  · obtain ⟨s0, s1, s2, s3, rfl⟩ : ∃ s0 s1 s2 s3, ws = [s0, s1, s2, s3] := by
      match ws, h4 with
      | [a, b, c, d], _ => exact ⟨_, _, _, _, rfl⟩
    have c0 := hw.cell (i := 0) rfl
    have c1 := hw.cell (i := 1) rfl
    have H := Aside0.mk h
    have HW := Aside0.mk hw
    have l2 := hl s2 (by simp)
    have l3 := hl s3 (by simp)
    clear h hw hl hwl h4
    obtain ⟨R, hR⟩ : ∃ R, headS st (datas [s0, s1, s2, s3]) = R := ⟨_, rfl⟩
    rw [hR]
    simp only [List.length_cons, List.length_nil]
    simp only [datas, List.map_cons, List.map_nil, headS] at hR
    by_cases e0 : s0.data.toList = [112]
    · rw [if_pos e0] at hR
      by_cases e1 : s1.data.toList = [99, 110, 102]
      · rw [if_pos e1] at hR
        have HR := Aside0.mk hR
        clear hR
        have t0 : s0.toList = [112] := by rw [Lib.toList_data]; exact e0
        have t1 : s1.toList = [99, 110, 102] := by rw [Lib.toList_data]; exact e1
        clear e0 e1
        have c2 := HW.out.cell (i := 2) rfl
        go_enter Tryz.func106, Tryz.ntmps106
        go_wp2_with fail
        refine (digits_any s2 _ (by omega)).mono ?_
        rintro e w1 ⟨rfl, hB1⟩
        obtain ⟨n0, b0, hn0, hx⟩ := numW_is (numD s2.data.toList)
        rw [hn0]
        have HX := Aside0.mk hx
        have HB1 := Aside0.mk (hB1.mono hB)
        have HK1 := Aside0.mk (KS.of_below hB1)
        have H1 := Aside0.mk (H.out.below hB1)
        have c3 := (HW.out.keep HK1.out).cell (i := 3) rfl
        have hz1 := Nat.le_trans hB hB1.size
        clear hB1 hn0 hx c0 c1 c2
        go_wp2_with fail
        refine (digits_any s3 _ (by omega)).mono ?_
        rintro e w2 ⟨rfl, hB2⟩
        obtain ⟨n1, b1, hn1, hy⟩ := numW_is (numD s3.data.toList)
        rw [hn1]
        have HY := Aside0.mk hy
        have HB2 := Aside0.mk (HB1.out.trans (hB2.mono hz1))
        have HK2 := Aside0.mk (HK1.out.trans (KS.of_below hB2))
        have H2 := Aside0.mk (H1.out.below hB2)
        have hc2 := H2.out.cells
        unfold PS.cells at hc2
        have AG := Aside0.mk hc2
        have p0 := hc2.cell 0 _ rfl
        have p1 := hc2.cell 1 _ rfl
        have p2 := hc2.cell 2 _ rfl
        have f0 := hc2.frozen 0
        have f1 := hc2.frozen 1
        have f2 := hc2.frozen 2
        clear hB2 hn1 hy c3 hc2
        have hBW : Below B w (((w2.setCell ⟨g, 0, none⟩ (.bool true)).setCell ⟨g, 1, none⟩ (.int .i64 (n0 : Int))).setCell ⟨g, 2, none⟩ (.int .i64 (n1 : Int))) := ((HB2.out.setCell H2.out.base _).setCell H2.out.base _).setCell H2.out.base _
        have hKW : KS w (((w2.setCell ⟨g, 0, none⟩ (.bool true)).setCell ⟨g, 1, none⟩ (.int .i64 (n0 : Int))).setCell ⟨g, 2, none⟩ (.int .i64 (n1 : Int))) := ((HK2.out.trans (KS.set AG.out (by decide) _ _)).trans (KS.set (AG.out.set _ _) (by decide) _ _)).trans (KS.set ((AG.out.set _ _).set _ _) (by decide) _ _)
        have hm : Mod (fun k => k = g) w2 (((w2.setCell ⟨g, 0, none⟩ (.bool true)).setCell ⟨g, 1, none⟩ (.int .i64 (n0 : Int))).setCell ⟨g, 2, none⟩ (.int .i64 (n1 : Int))) :=
          (((Mod.refl (fun k => k = g) w2).setCell (p := ⟨g, 0, none⟩) (.inl rfl) (.bool true)).setCell (p := ⟨g, 1, none⟩) (.inl rfl) (.int .i64 (n0 : Int))).setCell (p := ⟨g, 2, none⟩) (.inl rfl) _
        have hPI := H2.out.written hm (st' := { st with begun := true, v := n0, c := n1 }) (by simpa [PS.cells] using ((AG.out.set 0 (.bool true)).set 1 (.int .i64 (n0 : Int))).set 2 (.int .i64 (n1 : Int))) rfl rfl
        have FIN := Aside0.mk (And.intro hBW (And.intro hKW hPI))
        clear hBW hKW hm hPI
        rcases HX.out with ⟨rfl, hx⟩ | ⟨rfl, hx⟩
        · rcases HY.out with ⟨rfl, hy⟩ | ⟨rfl, hy⟩
          · have EX := Aside0.mk hx
            have EY := Aside0.mk hy
            clear hx hy HX HY
            by_cases hv : n0 ≤ 65536
            · have hv' : (n0 : Int) ≤ 65536 := by omega
              go_wp2_with fail
              go_returns
              have hR := HR.out
              rw [EX.out, EY.out] at hR
              simp only [if_pos hv] at hR
              rw [← hR]
              exact ⟨⟨by simp, _, _, _, FIN.out.2.2⟩, FIN.out.1, FIN.out.2.1⟩
            · have hv' : ¬ (n0 : Int) ≤ 65536 := by omega
              go_wp2_with fail
              go_returns
              have hR := HR.out
              rw [EX.out, EY.out] at hR
              simp only [if_neg hv] at hR
              rw [← hR]
              exact ⟨by simp; omega, FIN.out.1, FIN.out.2.1⟩
          · have EX := Aside0.mk hx
            have EY := Aside0.mk hy
            clear hx hy HX HY
            go_wp2_with fail
            go_returns
            have hR := HR.out
            rw [EX.out, EY.out] at hR
            simp only at hR
            rw [← hR]
            exact ⟨by simp, FIN.out.1, FIN.out.2.1⟩
        · have EX := Aside0.mk hx
          clear hx HX HY
          go_wp2_with fail
          go_returns
          have hR := HR.out
          rw [EX.out] at hR
          simp only at hR
          rw [← hR]
          exact ⟨by simp, FIN.out.1, FIN.out.2.1⟩
      · rw [if_neg e1] at hR
        subst hR
        have t0 : s0.toList = [112] := by rw [Lib.toList_data]; exact e0
        have t1 : (s1.toList == [99, 110, 102]) = false := by rw [Lib.toList_data]; simpa using e1
        clear e0 e1
        go_enter Tryz.func106, Tryz.ntmps106
        go_wp2_with fail
        go_returns
        exact ⟨by simp, Below.refl _ _, KS.refl _⟩
    · rw [if_neg e0] at hR
      subst hR
      have t0 : ¬ s0.toList = [112] := by rw [Lib.toList_data]; exact e0
      clear e0
      go_enter Tryz.func106, Tryz.ntmps106
      go_wp2_with fail
      go_returns
      exact ⟨by simp, Below.refl _ _, KS.refl _⟩
  · rw [not_four (by simpa [datas] using h4)]
    have hne : ¬ (ws.length : Int) = 4 := by omega
    go_enter Tryz.func106, Tryz.ntmps106
    go_wp2_with fail
    go_returns
    exact ⟨rfl, Below.refl _ _, KS.refl _⟩
end Go.Proofs.YthhnhbpmpdminaaGreatDoor
