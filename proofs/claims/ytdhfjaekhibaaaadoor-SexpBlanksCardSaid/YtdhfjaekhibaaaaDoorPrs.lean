/-
Parse of package sexp: what the plain reader says. Conditions: the text's bytes can be counted by an int.
-/
import Derived.Test.YtdhfjaekhibaaaaDoorSta
namespace Go.Proofs.YtdhfjaekhibaaaaDoor
set_option maxRecDepth 4096
open Go.RowKit Go.Proofs.YtdhfjaekhibaaaaDoorW.PrintWords

def ParseOut (w w' : World) (e : Ending) : Except (Nat × Nat) (List Sx) → Prop
  | .ok L => ∃ A c, e = .returned (.tuple #[.slice A L.length c, .nilIface]) ∧ L.length ≤ c ∧ c ≤ 9223372036854775807 ∧ RL w' (fun k => w.heap.size ≤ k ∧ k < w'.heap.size) L A 0
  | .error (a, n) => ∃ v, e = .returned (.tuple #[.slice none 0 0, v]) ∧ ErrV w' v a n

theorem parse_long (s : ByteArray) (w : World) (hs : 65536 < s.size) (hm : s.size ≤ 9223372036854775807) :
    Calls Tryd.prog 10 #[.string s] w fun e w' => ParseOut w w' e (.error (0, 24)) ∧ Below w.heap.size w w' := by
  have h1 : (65536 : Int) < (s.size : Int) := by omega
  go_enter Tryd.func10, Tryd.ntmps10
  go_wp2_with fail
  refine (wrong_any 0 24 _).mono ?_
  rintro e w1 ⟨rfl, rfl⟩
  go_wp2_with fail
  go_returns
  exact ⟨⟨_, rfl, _, rfl, Cells.new w _ _⟩, (Below.refl _ _).alloc (Nat.le_refl _) _⟩

theorem prun_end {t : List UInt8} {p : PSt} (h : t.length ≤ p.i) : ∀ n, prun t n p = .ok p
  | 0 => rfl
  | n + 1 => by unfold prun; rw [List.getElem?_eq_none h]
theorem prun_err {t : List UInt8} {p : PSt} {b : UInt8} {e : Nat × Nat} {n : Nat} (hb : t[p.i]? = some b) (hs : pstep t p b = .error e) : prun t (n + 1) p = .error e := by
  unfold prun; rw [hb]; simp only; rw [hs]
theorem prun_ok {t : List UInt8} {p q : PSt} {b : UInt8} {n : Nat} (hb : t[p.i]? = some b) (hs : pstep t p b = .ok q) : prun t (n + 1) p = prun t n q := by
  rw [prun]; rw [hb]; simp only; rw [hs]

set_option maxHeartbeats 2000000 in
theorem parse_short (s : ByteArray) (w : World) (hs : s.size ≤ 65536) :
    Calls Tryd.prog 10 #[.string s] w fun e w' => ParseOut w w' e (parse s.data.toList) ∧ Below w.heap.size w w' := by
  have hl : s.data.toList.length = s.size := by rw [Array.length_toList]; rfl
  have h1 : (s.size : Int) ≤ 65536 := by omega
  obtain ⟨R, hR⟩ : ∃ R, parse s.data.toList = R := ⟨_, rfl⟩
  rw [hR]
  have HR := Aside0.mk hR
  clear hR
  go_enter Tryd.func10, Tryd.ntmps10
  go_wp2_with fail
  have hc0 : Cells ((w.alloc (.cells #[.slice none 0 0] 23)).alloc (.cells #[.string s, .int .i64 0, .slice (some ⟨w.heap.size, 0, none⟩) 1 1, .slice none 0 0] 54)) (w.heap.size + 1) 54
      [.string s, .int .i64 ((0 : Nat) : Int), .slice (some ⟨w.heap.size, 0, none⟩) 1 1, .slice none 0 0] := by
    simpa using Cells.new (w.alloc (.cells #[.slice none 0 0] 23)) 54 [.string s, .int .i64 ((0 : Nat) : Int), .slice (some ⟨w.heap.size, 0, none⟩) 1 1, .slice none 0 0]
  have hrow : ((w.alloc (.cells #[.slice none 0 0] 23)).alloc (.cells #[.string s, .int .i64 0, .slice (some ⟨w.heap.size, 0, none⟩) 1 1, .slice none 0 0] 54)).ownsRow w.heap.size 23 1 (.slice (some ⟨w.heap.size, 0, none⟩) 1 1) 1 [.slice none 0 0] :=
    (World.ownsRow_lit (base := w.heap.size) (e := 23) (size := 1) w #[.slice none 0 0] 1 (Nat.le_refl _) (by simp [maxLen]) rfl).alloc _
  have hRS : RS ((w.alloc (.cells #[.slice none 0 0] 23)).alloc (.cells #[.string s, .int .i64 0, .slice (some ⟨w.heap.size, 0, none⟩) 1 1, .slice none 0 0] 54)) w.heap.size (w.heap.size + 1) s 0 (PSt.lists ⟨0, [], []⟩) (PSt.begs ⟨0, [], []⟩) (fun _ _ => False) := by
    refine ⟨_, _, [.slice none 0 0], hc0, by omega, ⟨hrow, rfl, fun i L v hL hv => ?_, fun _ _ _ _ _ h => h.elim, fun _ _ _ h => h.elim⟩, World.ownsRow_nil _ _ _ _⟩
    cases i with
    | zero =>
      simp [PSt.lists] at hL hv
      subst hL hv
      exact ⟨[], World.ownsRow_nil _ _ _ _, Els_nil _ _, fun k hk => by simp [Value.ownBlock] at hk⟩
    | succ i => simp at hv
  have hB : Below w.heap.size w ((w.alloc (.cells #[.slice none 0 0] 23)).alloc (.cells #[.string s, .int .i64 0, .slice (some ⟨w.heap.size, 0, none⟩) 1 1, .slice none 0 0] 54)) :=
    ((Below.refl _ _).alloc (Nat.le_refl _) _).alloc (by simp) _
  have HRS := Aside0.mk hRS
  clear hRS hrow
  refine (next_any (w.heap.size + 1) 54 s 0 _ _ hc0).mono ?_
  rintro e w1 ⟨rfl, n1, rfl⟩
  clear hc0
  go_wp2_with fail
  go_loopg [5, 6] s.size (fun gk b ok wr => ∃ (p : PSt) (S : Nat → Nat → Prop), p.Ok s.data.toList ∧ s.size ≤ p.i + gk ∧ Hid (prun s.data.toList gk p = prun s.data.toList s.size ⟨0, [], []⟩) ∧ b = (nextV s p.i).1 ∧ ok = (nextV s p.i).2 ∧ Aside0 (RS wr w.heap.size (w.heap.size + 1) s p.i p.lists p.begs S) ∧ Below w.heap.size w wr)
  case atStart => exact ⟨⟨0, [], []⟩, fun _ _ => False, ⟨Nat.zero_le _, by simp, by simp, by simp⟩, by simp, rfl, rfl, rfl, ⟨HRS.out.drewN _⟩, pw_below_drewN hB _⟩
  case round =>
    clear hB HRS
    obtain ⟨p, S, hok, hfuel, hrun, rfl, rfl, HS, hB⟩ := hrel
    have hbz := hB.size
    by_cases hlt : p.i < s.size
    · obtain ⟨gk, rfl⟩ : ∃ k, gk = k + 1 := ⟨gk - 1, by omega⟩
      rw [nextV_yes hlt]
      have hb : s.data.toList[p.i]? = some s[p.i] := List.getElem?_eq_some_iff.2 ⟨by omega, rfl⟩
      have HST := Aside0.mk (step_any w.heap.size (w.heap.size + 1) s p s[p.i] S wr HS.out hok hb hs hbz)
      have HP := Aside0.mk hok
      clear hok
      cases hst : pstep s.data.toList p s[p.i] with
      | error e0 =>
        obtain ⟨a0, n0⟩ := e0
        have hfin : Aside0 (R = .error (a0, n0)) := ⟨by
          rw [← HR.out]
          unfold parse
          rw [if_neg (by omega), hl, ← hrun.out, prun_err hb hst]⟩
        rw [hst] at HST
        clear hst hb hrun
        go_wp2_with fail
        refine HST.out.mono ?_
        rintro e w2 ⟨⟨v, rfl, b0, rfl, hv⟩, hB2⟩
        have HV := Aside0.mk hv
        clear hv
        go_wp2_with fail
        go_returns
        exact ⟨by rw [hfin.out]; exact ⟨_, rfl, b0, rfl, HV.out⟩, hB.trans hB2⟩
      | ok q =>
        obtain ⟨hq, hqi⟩ := pstep_ok HP.out hb hst
        have hrun2 : Hid (prun s.data.toList gk q = prun s.data.toList s.size ⟨0, [], []⟩) := by
          show _ = _
          rw [← hrun.out, prun_ok hb hst]
        rw [hst] at HST
        clear hst hb hrun
        go_wp2_with fail
        refine HST.out.mono ?_
        rintro e w2 ⟨⟨rfl, S', hRS'⟩, hB2⟩
        obtain ⟨vo, vb, hg, hgb⟩ := hRS'.cells
        have HR' := Aside0.mk hRS'
        have HQ := Aside0.mk hq
        clear hRS' hq
        go_wp2_with fail
        refine (next_any (w.heap.size + 1) 54 s q.i _ w2 hg).mono ?_
        rintro e w3 ⟨rfl, n3, rfl⟩
        clear hg
        go_wp2_with fail
        go_roundg gk
        case measure => omega
        case rel => exact ⟨q, S', HQ.out, by omega, hrun2, rfl, rfl, ⟨HR'.out.drewN n3⟩, pw_below_drewN (hB.trans hB2) n3⟩
    · rw [nextV_no hlt]
      have hfin : Aside0 (R = pfin p) := ⟨by
        rw [← HR.out]
        unfold parse
        rw [if_neg (by omega), hl, ← hrun.out, prun_end (by omega)]⟩
      obtain ⟨i0, cur, stk⟩ := p
      obtain ⟨vo, vb, vs, hg, hgb, hst, hbs⟩ := HS.out
      cases stk with
      | nil =>
        have hbs' : wr.ownsRow w.heap.size 3 1 vb 0 [] := hbs
        obtain ⟨Ab, cb, rfl⟩ : ∃ A c, vb = .slice A 0 c := by
          rcases hbs'.2 with ⟨h, _⟩ | ⟨g', cap, cur, h, _⟩
          · exact ⟨_, _, h⟩
          · exact ⟨_, _, h⟩
        have hst' : Stk wr w.heap.size vo [cur] vs S := hst
        obtain ⟨bo, capo, lo, rfl, hlo, hbo, hno, htake, hcapo⟩ := own_row hst'.row (by simp)
        have hvl : vs.length = 1 := hst'.len
        obtain ⟨v, hv⟩ : ∃ v, vs[0]? = some v := ⟨_, List.getElem?_eq_getElem (by omega)⟩
        have hlov : lo[0]? = some v := by
          rw [← htake, List.getElem?_take, if_pos (by simp)] at hv; exact hv
        obtain ⟨Av, cv, rfl, hc1, hc2, hRL⟩ := (hst'.each 0 cur v rfl hv).reads
        have hS : ∀ k, S 0 k → w.heap.size ≤ k ∧ k < wr.heap.size := fun k hk => ⟨(hst'.typed 0 k (by simp) hk).1, hst'.lt 0 k (by simp) hk⟩
        have hRL2 := Aside0.mk (RL_move (w' := wr) (fun _ _ => rfl) hS cur Av 0 hRL)
        have h2 := hg.cell 2 _ rfl
        have h3 := hg.cell 3 _ rfl
        have ho := hlo.cell 0 _ hlov
        clear hbs hbs' hst hst' htake hv hlov hvl hRL hg hlo HS hrun
        go_wp2_with fail
        go_returns
        exact ⟨by rw [hfin.out]; exact ⟨Av, cv, rfl, hc1, hc2, hRL2.out⟩, hB⟩
      | cons x r =>
        obtain ⟨q, l⟩ := x
        have hbl : (PSt.begs ⟨i0, cur, (q, l) :: r⟩).length = r.length + 1 := by simp [PSt.begs]
        obtain ⟨bb, capb, lb, rfl, hlb, hbb, hnb, htakeb, hcapb⟩ := own_row hbs (by rw [hbl]; omega)
        rw [hbl] at hnb htakeb hg
        have hq : lb[r.length]? = some (.int .i64 (q : Int)) := by
          have : (lb.take ((r.length + 1) * 1))[r.length]? = some (.int .i64 (q : Int)) := by
            rw [htakeb]; simp [numsN, PSt.begs]
          rw [List.getElem?_take, if_pos (by omega)] at this; exact this
        have h3 := hg.cell 3 _ rfl
        have hb3 := hlb.cell _ _ hq
        have hr0 : (0 : Int) ≤ (r.length : Int) := by omega
        have hr1 : (r.length : Int) < (r.length : Int) + 1 := by omega
        have hr2 : (r.length : Int) ≤ 1000 := by have := hok.deep; simp at this; omega
        clear hbs hst htakeb hq hg hlb HS hrun hok hbl
        go_wp2_with fail
        refine (wrong_any (q : Int) 20 _).mono ?_
        rintro e w2 ⟨rfl, rfl⟩
        go_wp2_with fail
        go_returns
        exact ⟨by rw [hfin.out]; exact ⟨_, rfl, _, rfl, Cells.new wr _ _⟩, hB.alloc hB.size _⟩

/-- Parse answers what the plain reader says. -/
theorem parse_any (s : ByteArray) (w : World) (hm : s.size ≤ 9223372036854775807) :
    Calls Tryd.prog 10 #[.string s] w fun e w' => ParseOut w w' e (parse s.data.toList) ∧ Below w.heap.size w w' := by
  have hl : s.data.toList.length = s.size := by rw [Array.length_toList]; rfl
  by_cases h : 65536 < s.size
  · have : parse s.data.toList = .error (0, 24) := by unfold parse; rw [if_pos (by omega)]
    rw [this]
    exact parse_long s w h hm
  · exact parse_short s w (by omega)
end Go.Proofs.YtdhfjaekhibaaaaDoor
