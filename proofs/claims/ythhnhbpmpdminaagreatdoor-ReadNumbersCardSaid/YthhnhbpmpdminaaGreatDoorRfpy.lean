/-
The reference's Parse: what the plain reader says. Conditions: the text's bytes can be counted by an int.
-/
import Derived.Test.YthhnhbpmpdminaaGreatDoorXH
import Derived.Test.YthhnhbpmpdminaaGreatDoorXF
import Derived.Test.YthhnhbpmpdminaaGreatDoorXW
import Derived.IntWalk
namespace Go.Proofs.YthhnhbpmpdminaaGreatDoor
set_option maxRecDepth 4096
open Go.RowKit Go.Proofs.YthhnhbpmpdminaaGreatDoorW.PrintWords Go.Proofs.YthhnhbpmpdminaaGreatDoorW.PrintLast
def RefOut (w w' : World) (e : Ending) : Except (Nat × Nat) (List Sx) → Prop
  | .ok L => ∃ A c, e = .returned (.tuple #[.slice A L.length c, .int .i64 0, .int .i64 0]) ∧ L.length ≤ c ∧ c ≤ 9223372036854775807 ∧ RL w' (fun k => (w.heap.size ≤ k ∧ k < w'.heap.size) ∧ ∃ l, Cells w' k 49 l) L A 0 ∧ L.length ≤ 65536
  | .error (a, n) => e = .returned (.tuple #[.slice none 0 0, .int .i64 (a : Int), .int .i64 (n : Int)])
theorem ref_long (s : ByteArray) (w : World) (hs : 65536 < s.size) (hm : s.size ≤ 9223372036854775807) :
    Calls Tryz.prog 76 #[.string s] w fun e w' => RefOut w w' e (.error (0, 24)) ∧ Below w.heap.size w w' := by
  have h1 : (65536 : Int) < (s.size : Int) := by omega
  go_enter Tryz.func76, Tryz.ntmps76
  go_wp2_with fail
  go_returns
  exact ⟨rfl, Below.refl _ _⟩
theorem word_any (s : ByteArray) (p : PSt) (hlt : p.i < s.size) (hs : s.size ≤ 65536) (n0 : blankB s[p.i] = false) (h59 : s[p.i] ≠ 59) (h40 : s[p.i] ≠ 40) (h41 : s[p.i] ≠ 41) :
    ∃ (j : Nat) (ok : Bool), (∀ W, Calls Tryz.prog 104 #[.string s, .int .i64 (p.i : Int)] W fun e w' => e = .returned (.tuple #[.int .i64 (j : Int), .bool ok]) ∧ ∃ n, w' = W.drewN n) ∧
      (ok = true → p.i ≤ j ∧ j ≤ s.size ∧ pstep s.data.toList p s[p.i] = .ok ⟨j, p.cur ++ [wordSx (cut s.data.toList p.i j)], p.stk⟩) ∧
      (ok = false → pstep s.data.toList p s[p.i] = .error (p.i, 22)) := by
  have hl : s.data.toList.length = s.size := by rw [Array.length_toList]; rfl
  have hp : ∀ X, (if s[p.i] == 124 then
    if s.data.toList[scan notBar s.data.toList (p.i + 1)]? = some 124 then (.ok ⟨scan notBar s.data.toList (p.i + 1) + 1, p.cur ++ [wordSx (cut s.data.toList p.i (scan notBar s.data.toList (p.i + 1) + 1))], p.stk⟩ : Except (Nat × Nat) PSt)
    else .error (p.i, 22)
  else if plainB s[p.i] then .ok ⟨scan plainB s.data.toList p.i, p.cur ++ [wordSx (cut s.data.toList p.i (scan plainB s.data.toList p.i))], p.stk⟩
  else .error (p.i, 22)) = X → pstep s.data.toList p s[p.i] = X := by
    intro X h
    unfold pstep
    rw [if_neg (by rw [n0]; simp), if_neg (by simpa using h59), if_neg (by simpa using h40), if_neg (by simpa using h41)]
    exact h
  by_cases h124 : s[p.i] = 124
  · by_cases hy : s.data.toList[scan notBar s.data.toList (p.i + 1)]? = some 124
    · refine ⟨scan notBar s.data.toList (p.i + 1) + 1, true, fun W => (word_bar s p.i W hlt (by omega) h124).mono ?_, fun _ => ⟨?_, ?_, ?_⟩, fun h => by cases h⟩
      · rintro e w' ⟨rfl, rfl⟩
        exact ⟨by unfold wordBarV; rw [if_pos hy], 0, rfl⟩
      · have := scan_ge notBar s.data.toList (p.i + 1); omega
      · have := (List.getElem?_eq_some_iff.1 hy).1; omega
      · exact hp _ (by rw [if_pos (by rw [h124]; rfl), if_pos hy])
    · refine ⟨0, false, fun W => (word_bar s p.i W hlt (by omega) h124).mono ?_, fun h => (by cases h), fun _ => hp _ (by rw [if_pos (by rw [h124]; rfl), if_neg hy])⟩
      rintro e w' ⟨rfl, rfl⟩
      exact ⟨by unfold wordBarV; rw [if_neg hy]; rfl, 0, rfl⟩
  · refine ⟨scan plainB s.data.toList p.i, plainB s[p.i], fun W => word_plain s p.i W hlt (by omega) h124, fun h => ⟨scan_ge _ _ _, ?_, ?_⟩, fun h => ?_⟩
    · have := scan_le plainB s.data.toList p.i (by omega); omega
    · exact hp _ (by rw [if_neg (by simpa using h124), if_pos h])
    · exact hp _ (by rw [if_neg (by simpa using h124), if_neg (by rw [h]; simp)])
def RP (W : World) (base : Nat) (vo vb : Value) (p : PSt) (S : Nat → Nat → Prop) : Prop :=
  ∃ vs, Stk W base vo p.lists vs S ∧ W.ownsRow base 3 1 vb p.stk.length (numsN p.begs)
theorem RP.keep {W W' : World} {base : Nat} {vo vb : Value} {p : PSt} {S : Nat → Nat → Prop} (h : RP W base vo vb p S) (hm : Mod (fun _ => False) W W') : RP W' base vo vb p S := by
  obtain ⟨vs, h1, h2⟩ := h
  exact ⟨vs, h1.keep hm (fun _ _ q => q) (fun _ _ _ _ q => q), own_keep h2 hm (fun _ _ q => q)⟩
set_option maxHeartbeats 4000000 in
theorem ref_short (s : ByteArray) (w : World) (hs : s.size ≤ 65536) :
    Calls Tryz.prog 76 #[.string s] w fun e w' => RefOut w w' e (parse s.data.toList) ∧ Below w.heap.size w w' := by
  have hl : s.data.toList.length = s.size := by rw [Array.length_toList]; rfl
  have h1 : (s.size : Int) ≤ 65536 := by omega
  obtain ⟨R, hR⟩ : ∃ R, parse s.data.toList = R := ⟨_, rfl⟩
  rw [hR]
  have HR := Aside0.mk hR
  clear hR
  go_enter Tryz.func76, Tryz.ntmps76
  go_wp2_with fail
  have hrow : (w.alloc (.cells #[.slice none 0 0] 47)).ownsRow w.heap.size 47 1 (.slice (some ⟨w.heap.size, 0, none⟩) 1 1) 1 [.slice none 0 0] :=
    World.ownsRow_lit (base := w.heap.size) (e := 47) (size := 1) w #[.slice none 0 0] 1 (Nat.le_refl _) (by simp [maxLen]) rfl
  have hRP : RP (w.alloc (.cells #[.slice none 0 0] 47)) w.heap.size (.slice (some ⟨w.heap.size, 0, none⟩) 1 1) (.slice none 0 0) ⟨0, [], []⟩ (fun _ _ => False) := by
    refine ⟨[.slice none 0 0], ⟨hrow, rfl, fun i L v hL hv => ?_, fun _ _ _ _ _ h => h.elim, fun _ _ _ h => h.elim⟩, World.ownsRow_nil _ _ _ _⟩
    cases i with
    | zero =>
      simp [PSt.lists] at hL hv
      subst hL hv
      exact ⟨[], World.ownsRow_nil _ _ _ _, Els_nil _ _, fun k hk => by simp [Value.ownBlock] at hk⟩
    | succ i => simp at hv
  have hB : Below w.heap.size w (w.alloc (.cells #[.slice none 0 0] 47)) := (Below.refl _ _).alloc (Nat.le_refl _) _
  have HRP := Aside0.mk hRP
  clear hRP hrow
  go_loopg [5, 6, 7] s.size (fun gk v5 v6 v7 wr => ∃ (p : PSt) (S : Nat → Nat → Prop) (vo vb : Value), vo = v5 ∧ vb = v6 ∧ p.Ok s.data.toList ∧ s.size ≤ p.i + gk ∧ Hid (prun s.data.toList gk p = prun s.data.toList s.size ⟨0, [], []⟩) ∧ v7 = .int .i64 (p.i : Int) ∧ Aside0 (RP wr w.heap.size vo vb p S) ∧ Below w.heap.size w wr)
  case atStart => exact ⟨⟨0, [], []⟩, fun _ _ => False, _, _, rfl, rfl, ⟨Nat.zero_le _, by simp, by simp, by simp⟩, by simp, rfl, rfl, HRP, hB⟩
  case round =>
    clear hB HRP
    obtain ⟨p, S, vo, vb, rfl, rfl, hok, hfuel, hrun, rfl, HS, hB⟩ := hrel
    have hbz := hB.size
    by_cases hlt : p.i < s.size
    · obtain ⟨gk, rfl⟩ : ∃ k, gk = k + 1 := ⟨gk - 1, by omega⟩
      have hb : s.data.toList[p.i]? = some s[p.i] := List.getElem?_eq_some_iff.2 ⟨by omega, rfl⟩
      have i0 : (0 : Int) ≤ (p.i : Int) := by omega
      have i1 : (p.i : Int) < (s.size : Int) := by omega
      have hok0 := hok
      obtain ⟨vs, hst, hbs⟩ := HS.out
      have hll : p.lists.length = p.stk.length + 1 := by simp [PSt.lists]
      obtain ⟨bo, capo, lo, rfl, hlo, hbo, hno, htake, hcapo⟩ := own_row hst.row (by omega)
      obtain ⟨Ab, cb, rfl⟩ : ∃ A c, vb = .slice A p.stk.length c := by
        rcases hbs.2 with ⟨h, h0⟩ | ⟨g', cap, cur, h, _⟩
        · exact ⟨none, 0, by rw [h0]; exact h⟩
        · exact ⟨_, _, h⟩
      rw [hll] at hno htake hst
      rw [hll]
      have hd200 : (p.stk.length : Int) ≤ 200 := by have := hok.deep; omega
      have AS := Aside0.mk hst
      have AB := Aside0.mk hbs
      have AT := Aside0.mk htake
      have AO := Aside0.mk hok
      have ALL := Aside0.mk hll
      have AHB := Aside0.mk hb
      clear hst hbs htake hok hll HS hok0
      by_cases h0 : blankB s[p.i] = true
      · have hstep : pstep s.data.toList p s[p.i] = .ok { p with i := p.i + 1 } := by unfold pstep; rw [if_pos h0]
        obtain ⟨hq, _⟩ := pstep_ok AO.out hb hstep
        have hrun2 : Hid (prun s.data.toList gk { p with i := p.i + 1 } = prun s.data.toList s.size ⟨0, [], []⟩) := by
          show _ = _
          rw [← hrun.out, prun_ok hb hstep]
        have H0 := Aside0.mk h0
        have HQ := Aside0.mk hq
        clear hstep hrun h0 hb hq
        go_wp2_with fail
        refine (rblank_any.calls s[p.i] _).mono ?_
        rintro e w1 ⟨rfl, n1, rfl⟩
        rw [H0.out]
        go_wp2_with fail
        go_roundg gk
        case measure => omega
        case rel => exact ⟨{ p with i := p.i + 1 }, S, _, _, rfl, rfl, HQ.out, by simp; omega, hrun2, by go_num, ⟨RP.keep ⟨vs, AS.out, AB.out⟩ ((Mod.refl _ _).drewN n1)⟩, pw_below_drewN hB _⟩
      have H0 := Aside0.mk h0
      have n0 : blankB s[p.i] = false := by simpa using h0
      have N0 := Aside0.mk n0
      clear h0 n0 H0
      by_cases h59 : s[p.i] = 59
      · have hstep : pstep s.data.toList p s[p.i] = .ok { p with i := scan notEol s.data.toList p.i } := by
          unfold pstep; rw [if_neg (by rw [N0.out]; simp), if_pos (by rw [h59]; rfl)]
        obtain ⟨hq, hqi⟩ := pstep_ok AO.out hb hstep
        have hrun2 : Hid (prun s.data.toList gk { p with i := scan notEol s.data.toList p.i } = prun s.data.toList s.size ⟨0, [], []⟩) := by
          show _ = _
          rw [← hrun.out, prun_ok hb hstep]
        have e59 : ((s[p.i].toNat : Int) == 59) = true := by rw [h59]; rfl
        have HQ := Aside0.mk hq
        have HQI : Aside0 (s.size ≤ scan notEol s.data.toList p.i + gk) := ⟨by simp at hqi; omega⟩
        clear hstep hrun hb hq hqi h59
        go_wp2_with fail
        refine (rblank_any.calls s[p.i] _).mono ?_
        rintro e w1 ⟨rfl, n1, hw1⟩
        rw [N0.out]
        have hB1 : Below w.heap.size w w1 := hw1 ▸ pw_below_drewN hB n1
        have hR1 : Aside0 (RP w1 w.heap.size (.slice (some ⟨bo, 0, none⟩) (p.stk.length + 1) capo) (.slice Ab p.stk.length cb) { p with i := scan notEol s.data.toList p.i } S) := ⟨hw1 ▸ RP.keep ⟨vs, AS.out, AB.out⟩ ((Mod.refl _ _).drewN n1)⟩
        clear hw1
        go_wp2_with fail
        go_loop [7] (fun v => ∃ j : Nat, p.i ≤ j ∧ j ≤ s.size ∧ v = .int .i64 (j : Int) ∧ Hid (scan notEol s.data.toList p.i = scan notEol s.data.toList j)) (fun v => s.size - (intOf v).toNat)
        case atStart => exact ⟨p.i, Nat.le_refl _, by omega, rfl, rfl⟩
        case round =>
          obtain ⟨j, hij, hj, rfl, hsc⟩ := hrel
          by_cases hlj : j < s.size
          · have j0 : (0 : Int) ≤ (j : Int) := by omega
            have j1 : (j : Int) < (s.size : Int) := by omega
            have hget : s.data.toList[j]'(by omega) = s[j] := rfl
            by_cases h10 : s[j] = 10
            · have hz : Hid (scan notEol s.data.toList j = j) := scan_no notEol _ j (by omega) (by rw [hget, h10]; rfl)
              have e1 : ((s[j].toNat : Int) != 10) = false := by rw [h10]; rfl
              have HE : Aside0 (scan notEol s.data.toList p.i = j) := ⟨hsc.out.trans hz.out⟩
              clear h10 hget
              go_wp2_with fail
              go_roundg gk
              case measure => omega
              case rel => exact ⟨_, S, _, _, rfl, rfl, HQ.out, HQI.out, hrun2, by rw [HE.out], hR1, hB1⟩
            · have e1 : ((s[j].toNat : Int) != 10) = true := by
                rw [show ((s[j].toNat : Int) != 10) = !((s[j].toNat : Int) == ((10 : UInt8).toNat : Int)) from rfl, eq_int]
                simpa using h10
              have hz : Hid (scan notEol s.data.toList j = scan notEol s.data.toList (j + 1)) := scan_yes notEol _ j (by omega) (by rw [hget]; unfold notEol; simpa using h10)
              clear h10 hget
              go_wp2_with fail
              go_round
              case rel => exact ⟨j + 1, by omega, by omega, by go_num, hsc.out.trans hz.out⟩
              case measure => simp [intOf]; omega
          · have hz : Hid (scan notEol s.data.toList j = j) := scan_end notEol _ j (by omega)
            have HE : Aside0 (scan notEol s.data.toList p.i = j) := ⟨hsc.out.trans hz.out⟩
            go_wp2_with fail
            go_roundg gk
            case measure => omega
            case rel => exact ⟨_, S, _, _, rfl, rfl, HQ.out, HQI.out, hrun2, by rw [HE.out], hR1, hB1⟩
      have e59 : ((s[p.i].toNat : Int) == 59) = false := ne_int 59 h59
      by_cases h40 : s[p.i] = 40
      · have e40 : ((s[p.i].toNat : Int) == 40) = true := by rw [h40]; rfl
        by_cases hd : p.stk.length = 200
        · have hstep : pstep s.data.toList p s[p.i] = .error (p.i, 23) := by
            unfold pstep; rw [if_neg (by rw [N0.out]; simp), if_neg (by simpa using h59), if_pos (by rw [h40]; rfl), if_pos hd]
          have hfin : Aside0 (R = .error (p.i, 23)) := ⟨by
            rw [← HR.out]
            unfold parse
            rw [if_neg (by omega), hl, ← hrun.out, prun_err hb hstep]⟩
          have hd' : (200 : Int) ≤ (p.stk.length : Int) := by omega
          clear hstep hrun hb hd h40 h59
          go_wp2_with fail
          refine (rblank_any.calls s[p.i] _).mono ?_
          rintro e w1 ⟨rfl, n1, rfl⟩
          rw [N0.out]
          go_wp2_with fail
          go_returns
          exact ⟨by rw [hfin.out]; rfl, pw_below_drewN hB _⟩
        · have hstep : pstep s.data.toList p s[p.i] = .ok ⟨p.i + 1, [], (p.i, p.cur) :: p.stk⟩ := by
            unfold pstep; rw [if_neg (by rw [N0.out]; simp), if_neg (by simpa using h59), if_pos (by rw [h40]; rfl), if_neg hd]
          obtain ⟨hq, _⟩ := pstep_ok AO.out hb hstep
          have hrun2 : Hid (prun s.data.toList gk ⟨p.i + 1, [], (p.i, p.cur) :: p.stk⟩ = prun s.data.toList s.size ⟨0, [], []⟩) := by
            show _ = _
            rw [← hrun.out, prun_ok hb hstep]
          have HQ := Aside0.mk hq
          have hd' : (p.stk.length : Int) < 200 := by omega
          clear hstep hrun hb hd h40 h59 hq
          go_wp2_with fail
          refine (rblank_any.calls s[p.i] _).mono ?_
          rintro e w1 ⟨rfl, n1, hw1⟩
          rw [N0.out]
          have hB1 : Below w.heap.size w w1 := hw1 ▸ pw_below_drewN hB n1
          have hm1 : Mod (fun _ => False) wr w1 := hw1 ▸ (Mod.refl _ _).drewN n1
          clear hw1
          have AS1 := Aside0.mk (AS.out.keep hm1 (fun _ _ q => q) (fun _ _ _ _ q => q))
          have AB1 := Aside0.mk (own_keep AB.out hm1 (fun _ _ q => q))
          have hbz1 : w.heap.size ≤ w1.heap.size := hB1.size
          go_wp2_with (first
            | (at_builtin; refine apl_at (w0 := w) _ w.heap.size (.tmp 79) (.tmp 80) 174 47 (.slice none 0 0) 1 24 (.slice (some ⟨bo, 0, none⟩) (p.stk.length + 1) capo) (p.stk.length + 1) vs [.slice none 0 0] ⟨w1.heap.size, 0, none⟩ 1 rfl rfl (news_one (Cells.new w1 _ _)) Tryz.underlying174 Tryz.infoSexps rfl (by decide) (by decide) (by rfl) (by rfl) rfl (by simp [Value.oneCell']) (by have := AS1.out.row.alloc (.cells #[.slice none 0 0] 47); rw [ALL.out] at this; exact this) (hB1.alloc hbz1 _) (by simp; omega) (by omega) ?_; intro v1 w2 hown1 hB2 hg1 hat1; obtain ⟨b1, c1, l1, rfl, hl1, _, _, _, _⟩ := own_row hown1 (by omega); have HV := Aside0.mk ((AB1.out.alloc (.cells #[.slice none 0 0] 47)).kept hg1 (own_type_ne AB1.out AS1.out.row (by decide))); have hbz2 : w.heap.size ≤ w2.heap.size := hB2.size)
            | (at_builtin; refine apl_at (w0 := w) _ w.heap.size (.tmp 82) (.tmp 84) 61 3 (.int .i64 0) 1 8 (.slice Ab p.stk.length cb) p.stk.length (numsN p.begs) [.int .i64 (p.i : Int)] ⟨w2.heap.size, 0, none⟩ 1 rfl rfl (news_one (Cells.new w2 _ _)) Tryz.underlying61 Tryz.infoInt rfl (by decide) (by decide) (by rfl) (by rfl) rfl (by simp [Value.oneCell']) (HV.out.alloc _) (hB2.alloc hbz2 _) (by simp; omega) (by omega) ?_; intro v2 w3 hown2 hB3 hg2 hat2; obtain ⟨b2, c2, l2, rfl, hl2, _, _, _, _⟩ := own_row hown2 (by omega)))
          go_roundg gk
          case measure => omega
          case rel =>
            have hmF : Mod (fun k => (Value.slice (some ⟨bo, 0, none⟩) (p.stk.length + 1) capo).ownBlock = some k ∨ (Value.slice Ab p.stk.length cb).ownBlock = some k) w1 w3 := ((((Mod.refl _ w1).alloc (.cells #[.slice none 0 0] 47)).grown hg1 (fun k hk => .inl (.inl hk))).alloc (.cells #[.int .i64 (p.i : Int)] 3)).grown hg2 (fun k hk => .inl (.inr hk))
            have ho3 := (hown1.alloc (.cells #[.int .i64 (p.i : Int)] 3)).kept hg2 (own_type_ne (hown1.alloc (.cells #[.int .i64 (p.i : Int)] 3)) (HV.out.alloc _) (by decide))
            have hpush := AS1.out.push (by rw [ALL.out]; exact ho3) hmF (fun k hk => by
              rcases hk with hk | hk
              · obtain ⟨l, hl⟩ := own_cells AS1.out.row k hk
                exact ⟨_, l, hl, by decide⟩
              · obtain ⟨l, hl⟩ := own_cells AB1.out k hk
                exact ⟨_, l, hl, by decide⟩)
            refine ⟨⟨p.i + 1, [], (p.i, p.cur) :: p.stk⟩, (fun i k => i < p.lists.length ∧ S i k), _, _, rfl, rfl, HQ.out, by simp; omega, hrun2, by go_num, ⟨⟨vs ++ [.slice none 0 0], ?_, ?_⟩⟩, hB3⟩
            · simpa [PSt.lists] using hpush
            · simpa [PSt.begs, numsN] using hown2
      have e40 : ((s[p.i].toNat : Int) == 40) = false := ne_int 40 h40
      by_cases h41 : s[p.i] = 41
      · have e41 : ((s[p.i].toNat : Int) == 41) = true := by rw [h41]; rfl
        rcases (show p.stk = [] ∨ ∃ x r, p.stk = x :: r by cases p.stk <;> simp) with hstk | ⟨⟨q, l⟩, r, hstk⟩
        · have e0 : ((p.stk.length : Int) == 0) = true := by rw [hstk]; rfl
          have hstep : pstep s.data.toList p s[p.i] = .error (p.i, 21) := by
            unfold pstep; rw [if_neg (by rw [N0.out]; simp), if_neg (by simpa using h59), if_neg (by simpa using h40), if_pos (by rw [h41]; rfl), hstk]
          have hfin : Aside0 (R = .error (p.i, 21)) := ⟨by
            rw [← HR.out]
            unfold parse
            rw [if_neg (by omega), hl, ← hrun.out, prun_err hb hstep]⟩
          clear hstep hrun hb h40 h59 h41 hstk
          go_wp2_with fail
          refine (rblank_any.calls s[p.i] _).mono ?_
          rintro e w1 ⟨rfl, n1, rfl⟩
          rw [N0.out]
          go_wp2_with fail
          go_returns
          exact ⟨by rw [hfin.out]; rfl, pw_below_drewN hB _⟩
        · have hstep : pstep s.data.toList p s[p.i] = .ok ⟨p.i + 1, l ++ [listSx p.cur], r⟩ := by
            unfold pstep; rw [if_neg (by rw [N0.out]; simp), if_neg (by simpa using h59), if_neg (by simpa using h40), if_pos (by rw [h41]; rfl), hstk]
          obtain ⟨hq, _⟩ := pstep_ok AO.out hb hstep
          have hrun2 : Hid (prun s.data.toList gk ⟨p.i + 1, l ++ [listSx p.cur], r⟩ = prun s.data.toList s.size ⟨0, [], []⟩) := by
            show _ = _
            rw [← hrun.out, prun_ok hb hstep]
          have hll2 := AO.out.all (q, l) (by rw [hstk]; simp)
          have HLL : Aside0 (l.length ≤ 65536) := ⟨by simp at hll2; omega⟩
          have HQ := Aside0.mk hq
          have hm : p.stk.length = r.length + 1 := by rw [hstk]; rfl
          have HLI : Aside0 (p.lists = (r.map (·.2)).reverse ++ [l] ++ [p.cur]) := ⟨by simp [PSt.lists, hstk]⟩
          have HBG : Aside0 (p.begs = (r.map (·.1)).reverse ++ [q]) := ⟨by simp [PSt.begs, hstk]⟩
          have hvl : vs.length = r.length + 2 := by rw [AS.out.len, ALL.out, hm]
          obtain ⟨v, hv⟩ : ∃ v, vs[r.length + 1]? = some v := ⟨_, List.getElem?_eq_getElem (by omega)⟩
          have hlov : lo[r.length + 1]? = some v := by
            rw [← AT.out, List.getElem?_take, if_pos (by omega)] at hv; exact hv
          have hLst := AS.out.each (r.length + 1) p.cur v (by rw [HLI.out, List.getElem?_append_right (by simp)]; simp) hv
          obtain ⟨Av, cv, rfl, hcv, hcv2, hRL⟩ := hLst.reads
          rw [hm] at hno hd200 AS AB ⊢
          have b0 : (0 : Int) ≤ (r.length : Int) := by omega
          have b1 : (0 : Int) ≤ (r.length : Int) + 1 := by omega
          have b2 : (r.length : Int) + 1 < (r.length : Int) + 2 := by omega
          have b3 : (r.length : Int) + 1 ≤ (capo : Int) := by omega
          obtain ⟨bb, capb, lb, hvbe, hlb, hbb, hnb, htakeb, hcapb⟩ := own_row AB.out (by omega)
          simp only [Value.slice.injEq] at hvbe
          obtain ⟨rfl, -, rfl⟩ := hvbe
          have b4 : (r.length : Int) ≤ (cb : Int) := by omega
          clear htakeb hlb
          have hne0 : (((r.length : Int) + 1) == 0) = false := by rw [beq_eq_false_iff_ne]; omega
          have AR := Aside0.mk hRL
          have HM := Aside0.mk hm
          clear hstep hrun hb h40 h59 h41 hstk hq hll2 hvl hv hLst hRL hm
          go_wp2_with fail
          refine (rblank_any.calls s[p.i] _).mono ?_
          rintro e w1 ⟨rfl, n1, hw1⟩
          rw [N0.out]
          have hB1 : Below w.heap.size w w1 := hw1 ▸ pw_below_drewN hB n1
          have hm1 : Mod (fun _ => False) wr w1 := hw1 ▸ (Mod.refl _ _).drewN n1
          clear hw1
          have AS1 := Aside0.mk (AS.out.keep hm1 (fun _ _ q => q) (fun _ _ _ _ q => q))
          have AB1 := Aside0.mk (own_keep AB.out hm1 (fun _ _ q => q))
          have hlo1 := hlo.keep hm1 (fun q => q)
          have AR1 := Aside0.mk (RL_move (fun k hk => hm1.keep k (AS.out.lt _ k (by rw [ALL.out, HM.out]; omega) hk) (fun q => q)) (fun _ h => h) p.cur Av 0 AR.out)
          have ho := hlo1.cell _ _ hlov
          have hbol := hlo1.lt
          have AV := Aside0.mk hlov
          have hbz1 : w.heap.size ≤ w1.heap.size := hB1.size
          clear hm1 hlov AR AS AB hlo hB
          go_wp2_with fail
          refine wp_plan [(0, 0), (0, 1), (0, 2), (0, 3), (0, 4), (0, 5), (0, 6), (0, 7), (0, 8)] (fun _ => True) (by kernel_rfl) (by kernel_rfl) (fun _ _ d _ _ h => by cases d <;> exact h) trivial ?_
          simp only [planOps, List.filterMap_cons, List.filterMap_nil, List.getElem?_toArray, List.getElem?_cons_zero, List.getElem?_cons_succ, Option.map_some]
          have s1 : IntKind.i64.wrap ((r.length : Int) + 1 - 1) = (r.length : Int) := by rw [show (r.length : Int) + 1 - 1 = r.length by omega]; exact IntWalk.i64_in _ (by omega)
          have s2 : ((r.length : Int) + 1).toNat = r.length + 1 := by omega
          have s3 : IntKind.i64.wrap (r.length : Int) = (r.length : Int) := IntWalk.i64_in _ (by omega)
          repeat (first
            | (refine' plan_pu _ (by rfl) (fun w' => ?_) ?_; rotate_left 1; (focus (go_simp; try (with_reducible rfl))); simp only [Act.put, List.setIfInBounds_toArray, List.set_cons_zero, List.set_cons_succ]))
          refine plan_nil ?_
          clear s1 s2 s3
          go_wp2_with fail
          have hLl : ((r.map (·.2)).reverse).length = r.length := by simp
          obtain ⟨W2, hW2⟩ : ∃ W2, W2 = (w1.alloc (.cells #[.string ⟨#[]⟩, .bool true, .slice Av p.cur.length cv] 49)).drew := ⟨_, rfl⟩
          rw [← hW2]
          obtain ⟨gx, hgx0⟩ : ∃ gx, gx = w1.heap.size := ⟨_, rfl⟩
          rw [← hgx0]
          have hgx : Cells W2 gx 49 [.string ⟨#[]⟩, .bool true, .slice Av p.cur.length cv] := by rw [hW2, hgx0]; exact (Cells.new w1 _ _).drew
          have hm2 : Mod (fun _ => False) w1 W2 := by rw [hW2]; exact ((Mod.refl _ w1).alloc _).drew
          have hB2 : Below w.heap.size w W2 := hB1.trans (hm2.belowB (fun _ h => h.elim) hbz1)
          clear hW2 hgx0
          have hlo2 := hlo1.keep hm2 (fun q => q)
          have hst2 : Stk W2 w.heap.size (.slice (some ⟨bo, 0, none⟩) (r.length + 1) capo) ((r.map (·.2)).reverse ++ [l]) (vs.take (r.length + 1)) S := by
            have h := AS1.out
            rw [HLI.out] at h
            have h2 := h.pop
            rw [show ((r.map (·.2)).reverse ++ [l]).length = r.length + 1 by simp] at h2
            exact h2.keep hm2 (fun _ _ q => q) (fun _ _ _ _ q => q)
          obtain ⟨v', hv'⟩ : ∃ v, (vs.take (r.length + 1))[r.length]? = some v := ⟨_, List.getElem?_eq_getElem (by rw [hst2.len]; simp)⟩
          have hlov : lo[r.length]? = some v' := by
            rw [← AT.out, List.take_take, List.getElem?_take] at hv'
            rw [if_pos (by have := HM.out; omega)] at hv'; exact hv'
          obtain ⟨cs, how, hels, hvS⟩ := hst2.each r.length l v' (by rw [← hLl]; simp) hv'
          obtain ⟨Al, cl, rfl⟩ : ∃ A c, v' = .slice A l.length c := by
            rcases how.2 with ⟨rfl, h0⟩ | ⟨g', cap, cur, rfl, _, _, hn, _⟩
            · exact ⟨none, 0, by rw [h0]⟩
            · exact ⟨_, _, rfl⟩
          have hTy : ∀ k, S (r.length + 1) k → w.heap.size ≤ k ∧ (∃ l, Cells W2 k 49 l) ∧ ∀ i, i < r.length + 1 → ¬ S i k := fun k hk => by
            obtain ⟨hb, l', hl'⟩ := AS1.out.typed (r.length + 1) k (by rw [ALL.out, HM.out]; omega) hk
            refine ⟨hb, ⟨l', hl'.keep hm2 (fun q => q)⟩, fun i hi hik => ?_⟩
            have := AS1.out.disj i (r.length + 1) k (by rw [ALL.out, HM.out]; omega) (by rw [ALL.out, HM.out]; omega) hik hk
            omega
          have hRT : RT W2 (S (r.length + 1)) (listSx p.cur) [.string ⟨#[]⟩, .bool true, .slice Av p.cur.length cv] :=
            RT_mk (listSx p.cur) hcv hcv2 (by simp [listSx, ByteArray.size]) (RL_move (fun k hk => hm2.keep k (AS1.out.lt _ k (by rw [ALL.out, HM.out]; omega) hk) (fun q => q)) (fun _ hk => hk) p.cur Av 0 AR1.out) (by have := AO.out.cur; simp only [listSx]; omega)
          have hbs2 : W2.ownsRow w.heap.size 3 1 (.slice (some ⟨bb, 0, none⟩) r.length cb) r.length (numsN ((r.map (·.1)).reverse)) := by
            have := own_take AB1.out (m := r.length) (by omega)
            rw [show (numsN p.begs).take (r.length * 1) = numsN ((r.map (·.1)).reverse) by rw [HBG.out]; simp [numsN]] at this
            exact own_keep this hm2 (fun _ _ q => q)
          have hbz2 : w.heap.size ≤ W2.heap.size := hB2.size
          have hgxl := hgx.lt
          have hbol2 := hlo2.lt
          have hvbo : (Value.slice Al l.length cl).ownBlock ≠ some bo := own_ne_cells how hlo2 (by decide)
          have hl2 : (l.length : Int) ≤ 65536 := by have := HLL.out; omega
          have hl3 := HLL.out
          have b5 : (r.length : Int) < (r.length : Int) + 1 := by omega
          have AV' := Aside0.mk hlov
          have AS2 := Aside0.mk hst2
          have AW := Aside0.mk how
          have AE := Aside0.mk hels
          have AVS := Aside0.mk hvS
          have AT2 := Aside0.mk hTy
          have AX := Aside0.mk hRT
          have AB2 := Aside0.mk hbs2
          clear hlov hst2 how hels hvS hTy hRT hbs2 hv' hm2 AS1 AB1 AR1 hlo1 ho
          go_region
          · go_wp2
            refine wp_plan [(0, 0), (0, 1), (0, 2), (0, 3), (0, 4), (0, 5), (0, 6), (1, 7), (1, 8), (2, 9), (3, 10), (0, 11), (3, 12)]
              (fun w' => Cells w' bo 47 lo ∧ Cells w' gx 49 [.string ⟨#[]⟩, .bool true, .slice Av p.cur.length cv]) (by kernel_rfl) (by kernel_rfl) (fun _ _ d _ _ h => by cases d <;> exact h) ⟨(hlo2.alloc _).drew, (hgx.alloc _).drew⟩ ?_
            simp only [planOps, List.filterMap_cons, List.filterMap_nil, List.getElem?_toArray, List.getElem?_cons_zero, List.getElem?_cons_succ, Option.map_some]
            have s1 : IntKind.i64.wrap ((r.length : Int) + 1 - 1) = (r.length : Int) := by rw [show (r.length : Int) + 1 - 1 = r.length by omega]; exact IntWalk.i64_in _ (by omega)
            have s3 : IntKind.i64.wrap (r.length : Int) = (r.length : Int) := IntWalk.i64_in _ (by omega)
            repeat (first
              | (refine' plan_pu _ (by rfl) (fun w' => ?_) ?_; rotate_left 1; (focus (go_simp; try (with_reducible rfl))); simp only [Act.put, List.setIfInBounds_toArray, List.set_cons_zero, List.set_cons_succ])
              | (refine' plan_ld _ (by rfl) (fun w' hSw => ?_) ?_; rotate_left 1; (focus ((try dsimp only at hSw); obtain ⟨q2, q3⟩ := hSw; have c2 := q2.cell _ _ AV'.out; have c3 := q3.cell 0 _ rfl; have c4 := q3.cell 1 _ rfl; have c5 := q3.cell 2 _ rfl; go_simp; try (with_reducible rfl))); simp only [Act.put, List.setIfInBounds_toArray, List.set_cons_zero, List.set_cons_succ]))
            refine plan_ef (fun K hK => ?_)
            go_simp
            refine hK.out _ _ ⟨((hlo2.alloc _).drew.drew).alloc _, ((hgx.alloc _).drew.drew).alloc _⟩ (fun _ => ?_)
            clear hK K
            refine plan_fi (fun K hK => ?_)
            refine ap_step (w0 := w) ((W2.alloc (.cells #[.bool false] 4)).drew.drew) w.heap.size (.tmp 131) (.tmp 133) 47 49 (.agg #[.string ⟨#[]⟩, .bool false, .slice none 0 0]) 3 48
              (.slice Al l.length cl) l.length cs [.string ⟨#[]⟩, .bool true, .slice Av p.cur.length cv] rfl (by rfl) rfl Tryz.underlying47 Tryz.infoSexp rfl (by decide) (by decide) (by rfl) (by simp [Act.eval]) rfl (RT_one AX.out) (((AW.out.alloc _)).drew.drew) ((hB2.alloc hbz2 _).drew.drew) (by simp; omega) (by omega) ?_
            intro v1 w3 hown1 hB3 hg1 hat1
            obtain ⟨b1, c1, l1, rfl, hl1, _, _, _, _⟩ := own_row hown1 (by omega)
            have ko := ((hlo2.alloc _).drew.drew).grown hg1 hvbo
            have kf := ko.frozen r.length
            have kl := ko.lt
            have kc := ko.cell _ _ AV'.out
            refine hK.out _ _ ?_
            clear hK K
            have FIN := Aside0.mk (fin_one hLl AS2.out hbo AW.out AE.out AVS.out AX.out AT2.out (((Mod.refl _ W2).alloc (.cells #[.bool false] 4)).drew.drew) hg1 hown1 hat1 AB2.out hbz2)
            clear hg1 hat1 hown1 hl1
            repeat (first
              | (refine' plan_pu _ (by rfl) (fun w' => ?_) ?_; rotate_left 1; (focus (go_simp; try (with_reducible rfl))); simp only [Act.put, List.setIfInBounds_toArray, List.set_cons_zero, List.set_cons_succ]))
            refine plan_fi (fun K hK => ?_)
            go_simp
            refine hK.out _ _ (plan_nil ?_)
            clear hK K
            go_wp2_with fail
            go_roundg gk
            case measure => omega
            case rel =>
              obtain ⟨⟨vs', S', hs'⟩, hb', hbel⟩ := FIN.out
              exact ⟨_, S', _, _, rfl, rfl, HQ.out, by simp; omega, hrun2, by go_num, ⟨⟨vs', by simpa [PSt.lists] using hs', by simpa [PSt.begs] using hb'⟩⟩, hB2.trans hbel⟩
          · go_wp2
            refine wp_plan [(0, 0), (0, 1), (0, 2), (0, 3), (0, 4), (0, 5), (0, 6), (1, 7), (0, 9), (1, 8), (2, 10), (3, 11), (0, 12), (3, 13)]
              (fun w' => Cells w' bo 47 lo ∧ Cells w' gx 49 [.string ⟨#[]⟩, .bool true, .slice Av p.cur.length cv]) (by kernel_rfl) (by kernel_rfl) (fun _ _ d _ _ h => by cases d <;> exact h) ⟨(hlo2.alloc _).drew, (hgx.alloc _).drew⟩ ?_
            simp only [planOps, List.filterMap_cons, List.filterMap_nil, List.getElem?_toArray, List.getElem?_cons_zero, List.getElem?_cons_succ, Option.map_some]
            have s1 : IntKind.i64.wrap ((r.length : Int) + 1 - 1) = (r.length : Int) := by rw [show (r.length : Int) + 1 - 1 = r.length by omega]; exact IntWalk.i64_in _ (by omega)
            have s3 : IntKind.i64.wrap (r.length : Int) = (r.length : Int) := IntWalk.i64_in _ (by omega)
            repeat (first
              | (refine' plan_pu _ (by rfl) (fun w' => ?_) ?_; rotate_left 1; (focus (go_simp; try (with_reducible rfl))); simp only [Act.put, List.setIfInBounds_toArray, List.set_cons_zero, List.set_cons_succ])
              | (refine' plan_ld _ (by rfl) (fun w' hSw => ?_) ?_; rotate_left 1; (focus ((try dsimp only at hSw); obtain ⟨q2, q3⟩ := hSw; have c2 := q2.cell _ _ AV'.out; have c3 := q3.cell 0 _ rfl; have c4 := q3.cell 1 _ rfl; have c5 := q3.cell 2 _ rfl; go_simp; try (with_reducible rfl))); simp only [Act.put, List.setIfInBounds_toArray, List.set_cons_zero, List.set_cons_succ]))
            refine plan_ef (fun K hK => ?_)
            go_simp
            refine hK.out _ _ ⟨((hlo2.alloc _).drew.drew).alloc _, ((hgx.alloc _).drew.drew).alloc _⟩ (fun _ => ?_)
            clear hK K
            refine plan_fi (fun K hK => ?_)
            refine ap_step (w0 := w) ((W2.alloc (.cells #[.bool true] 4)).drew.drew) w.heap.size (.tmp 117) (.tmp 120) 47 49 (.agg #[.string ⟨#[]⟩, .bool false, .slice none 0 0]) 3 48
              (.slice Al l.length cl) l.length cs [.string ⟨#[]⟩, .bool false, .slice none 0 0] rfl (by rfl) rfl Tryz.underlying47 Tryz.infoSexp rfl (by decide) (by decide) (by rfl) (by simp [Act.eval]) rfl (by simp [Value.oneCell']) (((AW.out.alloc _)).drew.drew) ((hB2.alloc hbz2 _).drew.drew) (by simp; omega) (by omega) ?_
            intro v1 w3 hown1 hB3 hg1 hat1
            obtain ⟨b1, c1, l1, rfl, hl1, _, hlc1, _, hc1⟩ := own_row hown1 (by omega)
            have ko := ((hlo2.alloc _).drew.drew).grown hg1 hvbo
            have kf := ko.frozen r.length
            have kl := ko.lt
            have kc := ko.cell _ _ AV'.out
            have hcl : cs.length = l.length * 3 := AW.out.1
            have z0 : w3.cell? ⟨b1, l.length * 3, none⟩ = some (.string ⟨#[]⟩) := by rw [hown1.cellAt _ (by omega), ← hcl]; simp
            have z1 : w3.cell? ⟨b1, l.length * 3 + 1, none⟩ = some (.bool false) := by rw [hown1.cellAt _ (by omega), ← hcl]; simp
            have z2 : w3.cell? ⟨b1, l.length * 3 + 2, none⟩ = some (.slice none 0 0) := by rw [hown1.cellAt _ (by omega), ← hcl]; simp
            have y0 := hown1.frozenAt (l.length * 3)
            have y1 := hown1.frozenAt (l.length * 3 + 1)
            have y2 := hown1.frozenAt (l.length * 3 + 2)
            have hv1 : b1 ≠ bo := by rintro rfl; exact absurd (hl1.ty ko).1 (by decide)
            refine hK.out _ _ ?_
            clear hK K
            have FIN := Aside0.mk (fin_three hLl AS2.out hbo AW.out AE.out AVS.out AX.out AT2.out (((Mod.refl _ W2).alloc (.cells #[.bool true] 4)).drew.drew) hg1 hown1 hat1 AB2.out hbz2)
            clear hg1 hat1 hown1 hl1 hcl
            repeat (first
              | (refine' plan_pu _ (by rfl) (fun w' => ?_) ?_; rotate_left 1; (focus (go_simp; try (with_reducible rfl))); simp only [Act.put, List.setIfInBounds_toArray, List.set_cons_zero, List.set_cons_succ]))
            refine plan_fi (fun K hK => ?_)
            go_simp
            refine hK.out _ _ (plan_nil ?_)
            clear hK K
            go_wp2
            go_roundg gk
            case measure => omega
            case rel =>
              obtain ⟨⟨vs', S', hs'⟩, hb', hbel⟩ := FIN.out
              exact ⟨_, S', _, _, rfl, rfl, HQ.out, by simp; omega, hrun2, by go_num, ⟨⟨vs', by simpa [PSt.lists] using hs', by simpa [PSt.begs] using hb'⟩⟩, hB2.trans hbel⟩
      have e41 : ((s[p.i].toNat : Int) == 41) = false := ne_int 41 h41
      obtain ⟨j, ok, hw, hyes, hnot⟩ := word_any s p hlt hs N0.out h59 h40 h41
      cases ok with
      | false =>
        have hfin : Aside0 (R = .error (p.i, 22)) := ⟨by
          rw [← HR.out]
          unfold parse
          rw [if_neg (by omega), hl, ← hrun.out, prun_err hb (hnot rfl)]⟩
        clear hrun hb h40 h59 h41 hyes hnot
        go_wp2_with fail
        refine (rblank_any.calls s[p.i] _).mono ?_
        rintro e w1 ⟨rfl, n1, rfl⟩
        rw [N0.out]
        go_wp2_with fail
        refine (hw _).mono ?_
        rintro e w1 ⟨rfl, n2, rfl⟩
        go_wp2_with fail
        go_returns
        exact ⟨by rw [hfin.out]; rfl, pw_below_drewN hB (n1 + n2)⟩
      | true =>
        obtain ⟨hj1, hj2, hstep⟩ := hyes rfl
        obtain ⟨hq, hqi⟩ := pstep_ok AO.out hb hstep
        have hrun2 : Hid (prun s.data.toList gk ⟨j, p.cur ++ [wordSx (cut s.data.toList p.i j)], p.stk⟩ = prun s.data.toList s.size ⟨0, [], []⟩) := by
          show _ = _
          rw [← hrun.out, prun_ok hb hstep]
        have HQ := Aside0.mk hq
        have hqi' : p.i < j := hqi
        have hcl0 : p.cur.length ≤ 65536 := by have := AO.out.cur; omega
        clear hstep hrun hb h40 h59 h41 hyes hnot hq hqi
        go_wp2_with fail
        refine (rblank_any.calls s[p.i] _).mono ?_
        rintro e w1 ⟨rfl, n1, rfl⟩
        rw [N0.out]
        go_wp2_with fail
        refine (hw _).mono ?_
        rintro e W2 ⟨rfl, n2, hW2⟩
        have hB2 : Below w.heap.size w W2 := hW2 ▸ pw_below_drewN (pw_below_drewN hB n1) n2
        have hm1 : Mod (fun _ => False) wr W2 := hW2 ▸ ((Mod.refl _ _).drewN n1).drewN n2
        clear hW2 hw
        go_wp2_with fail
        have hLl : ((p.stk.map (·.2)).reverse).length = p.stk.length := by simp
        have hlo2 := hlo.keep hm1 (fun q => q)
        have hst2 : Stk W2 w.heap.size (.slice (some ⟨bo, 0, none⟩) (p.stk.length + 1) capo) ((p.stk.map (·.2)).reverse ++ [p.cur]) vs S := AS.out.keep hm1 (fun _ _ q => q) (fun _ _ _ _ q => q)
        obtain ⟨v', hv'⟩ : ∃ v, vs[p.stk.length]? = some v := ⟨_, List.getElem?_eq_getElem (by rw [hst2.len]; simp)⟩
        have hlov : lo[p.stk.length]? = some v' := by
          rw [← AT.out, List.getElem?_take] at hv'
          rw [if_pos (by omega)] at hv'; exact hv'
        obtain ⟨cs, how, hels, hvS⟩ := hst2.each p.stk.length p.cur v' (by rw [← hLl]; simp) hv'
        obtain ⟨Al, cl, rfl⟩ : ∃ A c, v' = .slice A p.cur.length c := by
          rcases how.2 with ⟨rfl, h0⟩ | ⟨g', cap, cur, rfl, _, _, hn, _⟩
          · exact ⟨none, 0, by rw [h0]⟩
          · exact ⟨_, _, rfl⟩
        have hRT : RT W2 (fun _ => False) (wordSx (cut s.data.toList p.i j)) [.string (cut s.data.toList p.i j), .bool false, .slice none 0 0] :=
          RT_word _ _ _ (by rw [← extract_cut, ByteArray.size_extract]; omega)
        have hbs2 : W2.ownsRow w.heap.size 3 1 (.slice Ab p.stk.length cb) p.stk.length (numsN ((p.stk.map (·.1)).reverse)) := own_keep AB.out hm1 (fun _ _ q => q)
        have hbz2 : w.heap.size ≤ W2.heap.size := hB2.size
        have hbol2 := hlo2.lt
        have hvbo : (Value.slice Al p.cur.length cl).ownBlock ≠ some bo := own_ne_cells how hlo2 (by decide)
        have hl2 : (p.cur.length : Int) ≤ 65536 := by omega
        have b0 : (0 : Int) ≤ (p.stk.length : Int) := by omega
        have b5 : (p.stk.length : Int) < (p.stk.length : Int) + 1 := by omega
        have c1 : (p.i : Int) ≤ (j : Int) := by omega
        have c2 : (j : Int) ≤ (s.size : Int) := by omega
        have c3 : (0 : Int) ≤ (j : Int) := by omega
        have AV' := Aside0.mk hlov
        have AS2 := Aside0.mk hst2
        have AW := Aside0.mk how
        have AE := Aside0.mk hels
        have AVS := Aside0.mk hvS
        have AX := Aside0.mk hRT
        have AB2 := Aside0.mk hbs2
        clear hlov hst2 how hels hvS hRT hbs2 hv' hm1 AS AB hlo hB
        refine wp_planZ [(0, 0), (0, 1), (0, 2), (0, 4), (0, 5), (0, 6), (0, 7), (0, 8), (1, 3), (0, 9), (2, 10), (2, 11), (0, 12), (0, 14)] [13, 15]
          (fun w' => Cells w' bo 47 lo) #[true, true, true, true, true, true, true, true, true, true, true, true, true, false, true, false] 2 (by kernel_rfl) (by kernel_rfl) (fun _ _ d _ _ h => by cases d <;> exact h) hlo2.drew ?_
        simp only [planOps, List.filterMap_cons, List.filterMap_nil, List.getElem?_toArray, List.getElem?_cons_zero, List.getElem?_cons_succ, Option.map_some]
        repeat (first
          | (refine' planZ_pu _ (by rfl) (fun w' => ?_) ?_; rotate_left 1; (focus (go_simp; try (with_reducible rfl))); simp only [Act.put, List.setIfInBounds_toArray, List.set_cons_zero, List.set_cons_succ])
          | (refine' planZ_ld _ (by rfl) (fun w' hSw => ?_) ?_; rotate_left 1; (focus ((try dsimp only at hSw); have k2 := hSw.cell _ _ AV'.out; go_simp; try (with_reducible rfl))); simp only [Act.put, List.setIfInBounds_toArray, List.set_cons_zero, List.set_cons_succ]))
        refine planZ_ef (fun K hK => ?_)
        go_simp
        refine hK.out _ _ (hlo2.drew.alloc _) (fun _ => ?_)
        clear hK K
        refine planZ_ef (fun K hK => ?_)
        refine ap_step (w0 := w) (W2.drew) w.heap.size (.tmp 35) (.tmp 42) 47 49 (.agg #[.string ⟨#[]⟩, .bool false, .slice none 0 0]) 3 48
          (.slice Al p.cur.length cl) p.cur.length cs [.string ⟨#[]⟩, .bool false, .slice none 0 0] rfl (by rfl) rfl Tryz.underlying47 Tryz.infoSexp rfl (by decide) (by decide) (by rfl) (by simp [Act.eval]) rfl (by simp [Value.oneCell']) (AW.out.drew) (hB2.drew) (by simp; omega) (by omega) ?_
        intro v1 w3 hown1 hB3 hg1 hat1
        obtain ⟨b1, c1, l1, rfl, hl1, _, hlc1, _, hc1⟩ := own_row hown1 (by omega)
        have ko := (hlo2.drew).grown hg1 hvbo
        refine hK.out _ _ ko (fun _ => ?_)
        clear hK K
        have hv1 : b1 ≠ bo := by rintro rfl; exact absurd (hl1.ty ko).1 (by decide)
        have hcl : cs.length = p.cur.length * 3 := AW.out.1
        have z0 : w3.cell? ⟨b1, p.cur.length * 3, none⟩ = some (.string ⟨#[]⟩) := by rw [hown1.cellAt _ (by omega), ← hcl]; simp
        have z1 : w3.cell? ⟨b1, p.cur.length * 3 + 1, none⟩ = some (.bool false) := by rw [hown1.cellAt _ (by omega), ← hcl]; simp
        have z2 : w3.cell? ⟨b1, p.cur.length * 3 + 2, none⟩ = some (.slice none 0 0) := by rw [hown1.cellAt _ (by omega), ← hcl]; simp
        have y0 := hown1.frozenAt (p.cur.length * 3)
        have y1 := hown1.frozenAt (p.cur.length * 3 + 1)
        have y2 := hown1.frozenAt (p.cur.length * 3 + 2)
        have kf := ko.frozen p.stk.length
        have kl := ko.lt
        have kc := ko.cell _ _ AV'.out
        have kl1 := hl1.lt
        have FIN := Aside0.mk (fin_three hLl AS2.out hbo AW.out AE.out AVS.out AX.out (fun k hk => hk.elim) ((Mod.refl _ W2).drew) hg1 hown1 hat1 AB2.out hbz2)
        have FIN2 := Aside0.mk (fin_cells hLl AS2.out hbo AW.out AE.out AVS.out AX.out (fun k hk => hk.elim) ((Mod.refl _ W2).drew) hg1 hown1 hat1 AB2.out hbz2)
        clear hg1 hat1 hown1 hl1 hcl
        rw [extract_cut]
        simp only [Act.put, List.setIfInBounds_toArray, List.set_cons_zero, List.set_cons_succ]
        have b6 : (0 : Int) ≤ (p.cur.length : Int) := by omega
        have b7 : (p.cur.length : Int) < (p.cur.length : Int) + 1 := by omega
        repeat (first
          | (refine' planZ_pu _ (by rfl) (fun w' => ?_) ?_; rotate_left 1; (focus (go_simp; try (with_reducible rfl))); simp only [Act.put, List.setIfInBounds_toArray, List.set_cons_zero, List.set_cons_succ]))
        refine planZ_nil ?_
        refine plan_twoL 13 15 rfl rfl (by kernel_rfl) (fun K hK => ?_) (fun K hK => ?_)
        · go_simp
          refine hK.out _ _ ?_
          clear hK K
          refine plan_lastL 15 rfl (by kernel_rfl) (fun K hK => ?_)
          go_simp
          refine hK.out _ _ ?_
          clear hK K
          go_wp2_with fail
          go_roundg gk
          case measure => omega
          case rel =>
            obtain ⟨⟨vs', S', hs'⟩, hb', hbel⟩ := FIN2.out
            exact ⟨_, S', _, _, rfl, rfl, HQ.out, by simp; omega, hrun2, by go_num, ⟨⟨vs', by simpa [PSt.lists] using hs', by simpa [PSt.begs] using hb'⟩⟩, hB2.trans hbel⟩
        · go_simp
          refine hK.out _ _ ?_
          clear hK K
          refine plan_lastL 13 rfl (by kernel_rfl) (fun K hK => ?_)
          go_simp
          refine hK.out _ _ ?_
          clear hK K
          go_wp2_with fail
          go_roundg gk
          case measure => omega
          case rel =>
            obtain ⟨⟨vs', S', hs'⟩, hb', hbel⟩ := FIN.out
            exact ⟨_, S', _, _, rfl, rfl, HQ.out, by simp; omega, hrun2, by go_num, ⟨⟨vs', by simpa [PSt.lists] using hs', by simpa [PSt.begs] using hb'⟩⟩, hB2.trans hbel⟩
    · have hfin : Aside0 (R = pfin p) := ⟨by
        rw [← HR.out]
        unfold parse
        rw [if_neg (by omega), hl, ← hrun.out, prun_end (by omega)]⟩
      have i1 : (s.size : Int) ≤ (p.i : Int) := by omega
      obtain ⟨i0, cur, stk⟩ := p
      obtain ⟨vs, hst, hbs⟩ := HS.out
      cases stk with
      | nil =>
        have hcl : cur.length ≤ 65536 := by have h1 := hok.cur; have h2 := hok.le; simp only at h1 h2; omega
        have HCL := Aside0.mk hcl
        clear hcl
        have hbs' : wr.ownsRow w.heap.size 3 1 vb 0 [] := hbs
        obtain ⟨Ab, cb, rfl⟩ : ∃ A c, vb = .slice A 0 c := by
          rcases hbs'.2 with ⟨h, _⟩ | ⟨g', cap, cur, h, _⟩
          · exact ⟨_, _, h⟩
          · exact ⟨_, _, h⟩
        have hst' : Stk wr w.heap.size vo [cur] vs S := hst
        obtain ⟨bo, capo, lo, rfl, hlo, hbo, hno, htake, hcapo⟩ := own_row hst'.row (by simp)
        have hvl : vs.length = 1 := hst'.len
        obtain ⟨v, hv⟩ : ∃ v, vs[0]? = some v := ⟨_, List.getElem?_eq_getElem (by omega)⟩
        have hlov : lo[0]? = some v := by
          rw [← htake, List.getElem?_take, if_pos (by simp)] at hv; exact hv
        obtain ⟨Av, cv, rfl, hc1, hc2, hRL⟩ := (hst'.each 0 cur v rfl hv).reads
        have hS : ∀ k, S 0 k → (w.heap.size ≤ k ∧ k < wr.heap.size) ∧ ∃ l, Cells wr k 49 l := fun k hk => ⟨⟨(hst'.typed 0 k (by simp) hk).1, hst'.lt 0 k (by simp) hk⟩, (hst'.typed 0 k (by simp) hk).2⟩
        have hRL2 := Aside0.mk (RL_move (w' := wr) (fun _ _ => rfl) hS cur Av 0 hRL)
        have ho := hlo.cell 0 _ hlov
        clear hbs hbs' hst hst' htake hv hlov hvl hRL hlo HS hrun
        go_wp2_with fail
        go_returns
        exact ⟨by rw [hfin.out]; exact ⟨Av, cv, rfl, hc1, hc2, hRL2.out, HCL.out⟩, hB⟩
      | cons x r =>
        obtain ⟨q, l⟩ := x
        have hbs' : wr.ownsRow w.heap.size 3 1 vb (r.length + 1) (numsN (PSt.begs ⟨i0, cur, (q, l) :: r⟩)) := hbs
        obtain ⟨bb, capb, lb, rfl, hlb, hbb, hnb, htakeb, hcapb⟩ := own_row hbs' (by omega)
        have hq : lb[r.length]? = some (.int .i64 (q : Int)) := by
          have : (lb.take ((r.length + 1) * 1))[r.length]? = some (.int .i64 (q : Int)) := by
            rw [htakeb]; simp [numsN, PSt.begs]
          rw [List.getElem?_take, if_pos (by omega)] at this; exact this
        have hb3 := hlb.cell _ _ hq
        have hr0 : (0 : Int) ≤ (r.length : Int) := by omega
        have hr1 : (r.length : Int) < (r.length : Int) + 1 := by omega
        have hr2 : (r.length : Int) ≤ 1000 := by have := hok.deep; simp at this; omega
        clear hbs hbs' hst htakeb hq hlb HS hrun hok
        go_wp2_with fail
        have s1 : IntKind.i64.wrap ((r.length : Int) + 1 - 1) = (r.length : Int) := by rw [show (r.length : Int) + 1 - 1 = r.length by omega]; exact IntWalk.i64_in _ (by omega)
        go_quiet (fail)
        go_wp2_with fail
        go_returns
        exact ⟨by rw [hfin.out]; rfl, pw_below_drewN hB _⟩
/-- The reference's Parse. -/
theorem ref_any (s : ByteArray) (w : World) (hm : s.size ≤ 9223372036854775807) :
    Calls Tryz.prog 76 #[.string s] w fun e w' => RefOut w w' e (parse s.data.toList) ∧ Below w.heap.size w w' := by
  by_cases h : s.size ≤ 65536
  · exact ref_short s w h
  · have hl : s.data.toList.length = s.size := by rw [Array.length_toList]; rfl
    have := ref_long s w (by omega) hm
    rw [show parse s.data.toList = .error (0, 24) by unfold parse; rw [if_pos (by omega)]]
    exact this
end Go.Proofs.YthhnhbpmpdminaaGreatDoor
