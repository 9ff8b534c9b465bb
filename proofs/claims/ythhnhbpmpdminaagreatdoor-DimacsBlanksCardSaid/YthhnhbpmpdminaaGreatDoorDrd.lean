/-
dimacs.read, dimacs.Parse: a text. Conditions: the text is shorter than 2^63 bytes; bytealg.MaxLen holds a number.
-/
import Derived.Test.YthhnhbpmpdminaaGreatDoorXC
import Derived.Test.YthhnhbpmpdminaaGreatDoorDpl
import Derived.WalkSpells
namespace Go.Proofs.YthhnhbpmpdminaaGreatDoor
set_option maxRecDepth 4096
open Go.RowKit Go.Proofs.YthhnhbpmpdminaaGreatDoorW.PrintWords

theorem plan_offL {P : Program} {ops : Array Oper} {Q : Exit → Act → World → Prop} {S : World → Prop} {a : Act} {w : World} {o : Oper} {r : List (Nat × Oper)} (hw : Region.wanted o (yielded ops a.tmps) = false) (h : wpPlan P ops Q S r (a.put o.dst undef) w) : wpPlan P ops Q S ((1, o) :: r) a w := ⟨undef, .inr ⟨hw, rfl⟩, h⟩
def PS.init : PS := ⟨false, 0, 0, [], [], false⟩
inductive RR where
  | bad (i : Nat)
  | good (st : PS)
def linesS (i : Nat) (st : PS) : List (List UInt8) → RR
  | [] => .good st
  | l :: r => match lineS st (wl [] l) with
    | some st' => linesS (i + 1) st' r
    | none => .bad i
theorem linesS_append (a b : List (List UInt8)) : ∀ i st, linesS i st (a ++ b) = match linesS i st a with
    | .good st' => linesS (i + a.length) st' b
    | .bad j => .bad j := by
  induction a with
  | nil => intro i st; rfl
  | cons l a ih =>
    intro i st
    show (match lineS st (wl [] l) with | some st' => linesS (i + 1) st' (a ++ b) | none => .bad i) = match (match lineS st (wl [] l) with | some st' => linesS (i + 1) st' a | none => RR.bad i) with
      | .good st' => linesS (i + (a.length + 1)) st' b
      | .bad j => .bad j
    cases lineS st (wl [] l) with
    | none => rfl
    | some st' =>
      simp only
      rw [ih, show i + 1 + a.length = i + (a.length + 1) by omega]
def shut (st : PS) : Bool := st.begun && !st.half && !decide (st.out.length < st.c)
inductive TR where
  | bad (i n : Nat)
  | good (st : PS)
def parseD (t : List UInt8) : TR :=
  if 65536 < t.length then .bad 0 191 else match linesS 0 PS.init (ll [] t) with
    | .bad i => .bad i 190
    | .good st => if shut st = true then .good st else .bad ((ll [] t).length - 1) 190
def ReadPost (B : Nat) (w : World) (r : TR) (e : Ending) (w' : World) : Prop :=
  match r with
  | .bad i n => ∃ k, e = .returned (.tuple #[.pointer none, .iface 87 (.pointer (some ⟨k, 0, none⟩))]) ∧ Cells w' k 176 [.int .i64 (i : Int), .int .i64 (n : Int)] ∧ Below B w w'
  | .good st => ∃ g vc vo hs, e = .returned (.tuple #[.pointer (some ⟨g, 0, none⟩), .nilIface]) ∧ PI w' B g st vc vo hs ∧ Below B w w'
def ParsePost (B : Nat) (w : World) (r : TR) (e : Ending) (w' : World) : Prop :=
  match r with
  | .bad i n => ∃ k, e = .returned (.tuple #[.slice none 0 0, .iface 87 (.pointer (some ⟨k, 0, none⟩))]) ∧ Cells w' k 176 [.int .i64 (i : Int), .int .i64 (n : Int)] ∧ Below B w w'
  | .good st => ∃ g vc vo hs, e = .returned (.tuple #[vc, .nilIface]) ∧ PI w' B g st vc vo hs ∧ Below B w w'
/-- A text's lines. -/
structure LJ (B g b : Nat) (ls : List ByteArray) (w : World) (i : Nat) (wr : World) : Prop where
  got : ∃ st vc vo hs, linesS 0 PS.init ((datas ls).take i) = .good st ∧ PI wr B g st vc vo hs ∧ st.out.length ≤ i * 65537 ∧ st.now.length ≤ i * 65537
  below : Below B w wr
  rows : Cells wr b 9 (ls.map Value.string)
theorem lines_len (s : ByteArray) : (linesP s).length = Lib.countB s ⟨#[10]⟩ + 1 := Lib.splitB_all ⟨#[10]⟩ (by decide) 0 _ s rfl
theorem line_size {s x : ByteArray} (h : x ∈ linesP s) : x.size ≤ s.size := by
  have h1 : x.data.toList ∈ datas (linesP s) := List.mem_map_of_mem h
  rw [lines_ll] at h1
  have := ll_each _ _ _ h1
  rw [Lib.size_eq, Lib.size_eq]
  simpa using this
theorem word_size {s x : ByteArray} (h : x ∈ wordsP s) : x.size ≤ s.size := by
  have h1 : x.data.toList ∈ datas (wordsP s) := List.mem_map_of_mem h
  rw [words_wl] at h1
  have := wl_each _ _ _ h1
  rw [Lib.size_eq, Lib.size_eq]
  simpa using this
theorem words_len (s : ByteArray) : (wordsP s).length ≤ s.size + 1 := by
  have h1 : (datas (wordsP s)).length = (wordsP s).length := by simp [datas]
  have := wl_length s.data.toList []
  rw [← words_wl, h1] at this
  rw [Lib.size_eq]; exact this
theorem lines_len_le (s : ByteArray) : (linesP s).length ≤ s.size + 1 := by
  have h1 : (datas (linesP s)).length = (linesP s).length := by simp [datas]
  have := ll_length s.data.toList []
  rw [← lines_ll, h1] at this
  rw [Lib.size_eq]; exact this
set_option maxHeartbeats 8000000 in
theorem read_any (t : ByteArray) (w : World) (ht : t.size ≤ 9223372036854775807) (hm : ML w) : Calls Tryz.prog 45 #[.string t] w fun e w' => ReadPost w.heap.size w (parseD t.data.toList) e w' := by
  obtain ⟨R, hR⟩ : ∃ R, parseD t.data.toList = R := ⟨_, rfl⟩
  rw [hR]
  have hsz : t.data.toList.length = t.size := (Lib.size_eq t).symm
  by_cases hlong : 65536 < t.size
  · have hl' : (65536 : Int) < (t.size : Int) := by omega
    have hR : TR.bad 0 191 = R := by rw [← hR, parseD, if_pos (by omega)]
    subst hR
    go_enter Tryz.func45, Tryz.ntmps45
    go_wp2_with fail
    refine (refuse_any 0 191 _).mono ?_
    rintro e w1 ⟨k, rfl, hk, hB⟩
    go_wp2_with fail
    go_returns
    exact ⟨k, rfl, hk, hB⟩
  · have hl' : ¬ (65536 : Int) < (t.size : Int) := by omega
    have hR : (match linesS 0 PS.init (ll [] t.data.toList) with
      | .bad i => TR.bad i 190
      | .good st => if shut st = true then .good st else .bad ((ll [] t.data.toList).length - 1) 190) = R := by rw [← hR, parseD, if_neg (by omega)]
    have hts : t.size ≤ 65536 := by omega
    clear hsz hlong
    rw [← lines_ll] at hR
    have hN := lines_len_le t
    have hNl := lines_len t
    have hNd : (datas (linesP t)).length = (linesP t).length := by simp [datas]
    have HE := Aside0.mk (fun x => line_size (s := t) (x := x))
    have HR := Aside0.mk hR
    clear hR
    obtain ⟨B, hBe⟩ : ∃ B, B = w.heap.size := ⟨_, rfl⟩
    have hPI : PI (w.alloc (.cells #[.bool false, .int .i64 0, .int .i64 0, .slice none 0 0, .slice none 0 0, .bool false] 83)) B w.heap.size PS.init (.slice none 0 0) (.slice none 0 0) [] :=
      ⟨Cells.new w _ _, by omega, World.ownsRow_nil _ _ _ _, fun i x h hx => by simp [PS.init] at hx, World.ownsRow_nil _ _ _ _, fun i h b hh => by simp at hh⟩
    have HP := Aside0.mk hPI
    clear hPI
    have hm1 : ML (w.alloc (.cells #[.bool false, .int .i64 0, .int .i64 0, .slice none 0 0, .slice none 0 0, .bool false] 83)) := by
      obtain ⟨m, hm⟩ := hm
      exact ⟨m, Go.cell_later ((Below.refl w.heap.size w).alloc (Nat.le_refl _) _) hm⟩
    have HM := Aside0.mk hm1
    clear hm1 hm
    go_enter Tryz.func45, Tryz.ntmps45
    go_wp2_with fail
    refine (split_any t _ (by omega) HM.out).mono ?_
    rintro e w1 ⟨rfl, hrows, hB1⟩
    have HP1 := Aside0.mk (HP.out.below hB1)
    have HB1 := Aside0.mk (((Below.refl B w).alloc (by omega) _).trans (hB1.mono (by simp; omega)))
    have hrows : Cells w1 (w.heap.size + 1) 9 ((linesP t).map Value.string) := by simpa using hrows
    have HW := Aside0.mk hrows
    clear hB1 hrows
    go_wp2_with fail
    go_loopw [18] (fun v wr => ∃ i : Nat, i ≤ (linesP t).length ∧ v = .int .i64 (i : Int) ∧ LJ B w.heap.size (w.heap.size + 1) (linesP t) w i wr) (fun v _ => (linesP t).length - (intOf v).toNat)
    case atStart => exact ⟨0, by omega, rfl, ⟨_, _, _, _, rfl, HP1.out, by simp [PS.init], by simp [PS.init]⟩, HB1.out, HW.out⟩
    case round =>
      obtain ⟨i, hi, rfl, hI⟩ := hrel
      obtain ⟨⟨st, vc, vo, hs, hls, hPI, hol, hnl⟩, hBw, hRw⟩ := hI
      have HN := Aside0.mk hls
      have HPr := Aside0.mk hPI
      have HBw := Aside0.mk hBw
      have HRw := Aside0.mk hRw
      have hzr : B ≤ wr.heap.size := by rw [hBe]; exact hBw.size
      by_cases hlt : i < (linesP t).length
      · obtain ⟨x, hx⟩ : ∃ x, (linesP t)[i]? = some x := ⟨_, List.getElem?_eq_getElem hlt⟩
        have ci := hRw.cell i (.string x) (by simp [hx])
        have hlt' : (i : Int) < (Lib.countB t ⟨#[10]⟩ : Int) + 1 := by omega
        have hxs := HE.out x (List.mem_of_getElem? hx)
        have hdi : (datas (linesP t)).take (i + 1) = (datas (linesP t)).take i ++ [x.data.toList] := by
          have hl : i < (datas (linesP t)).length := by omega
          rw [List.take_succ_eq_append_getElem hl]
          congr 2
          have := (List.getElem?_eq_some_iff.1 hx).2
          simp [datas, this]
        have HD := Aside0.mk hdi
        clear hls hPI hBw hRw hdi hx
        go_wp2_with fail
        refine (fields_any x _ (by omega)).mono ?_
        rintro e w2 ⟨A, rfl, hA, hB2⟩
        have HP2 := Aside0.mk (HPr.out.below hB2)
        have HB2 := Aside0.mk (HBw.out.trans (hB2.mono hzr))
        have HR2 := Aside0.mk (HRw.out.below hB2)
        have hz2 := Nat.le_trans hzr hB2.size
        have HA := Aside0.mk hA
        have hwn := words_len x
        clear hB2 hA
        go_wp2_with fail
        refine (line_any B w.heap.size st vc vo hs A (wordsP x) _ HP2.out hz2 HA.out (fun s hs => by have := word_size hs; omega) (by omega) (by omega) (by omega)).mono ?_
        rintro e w3 ⟨h1, h2, h3⟩
        have HB3 := Aside0.mk (HB2.out.trans h2)
        have HR3 := Aside0.mk (h3 _ _ HR2.out)
        clear h2 h3
        rw [words_wl] at h1
        cases hq : lineS st (wl [] x.data.toList) with
        | none =>
          rw [hq] at h1
          have h1 : e = .returned (.bool false) := h1
          subst h1
          have HF : Aside0 (R = .bad i 190) := ⟨by
            rw [← HR.out]
            have e1 := List.take_append_drop (i + 1) (datas (linesP t))
            have e2 : linesS 0 PS.init (datas (linesP t)) = .bad i := by
              rw [← e1, HD.out, List.append_assoc, linesS_append, HN.out]
              show (match lineS st (wl [] x.data.toList) with | some st' => _ | none => RR.bad _) = _
              rw [hq, List.length_take, Nat.min_eq_left (by omega), Nat.zero_add]
            rw [e2]⟩
          go_wp2_with fail
          refine (refuse_any i 190 _).mono ?_
          rintro e w4 ⟨k, rfl, hk, hB4⟩
          have HK := Aside0.mk hk
          have HB4 := Aside0.mk (HB3.out.trans (hB4.mono (by rw [hBe]; exact HB3.out.size)))
          clear hk hB4
          go_wp2_with fail
          go_returns
          rw [HF.out]
          rw [hBe] at HB4
          exact ⟨k, rfl, HK.out, HB4.out⟩
        | some st2 =>
          rw [hq] at h1
          have h1 : e = .returned (.bool true) ∧ ∃ vc vo hs, PI w3 B w.heap.size st2 vc vo hs := h1
          obtain ⟨rfl, h1⟩ := h1
          have AP := Aside0.mk h1
          have hgr := lineS_grows hq
          have hwl : (wl [] x.data.toList).length ≤ 65537 := by
            have := wl_length x.data.toList []
            have hxx := Lib.size_eq x
            omega
          have AN : Aside0 (linesS 0 PS.init ((datas (linesP t)).take (i + 1)) = .good st2) := ⟨by
            rw [HD.out, linesS_append, HN.out]
            show (match lineS st (wl [] x.data.toList) with | some st' => RR.good st' | none => RR.bad _) = _
            rw [hq]⟩
          clear h1 hq
          go_wp2_with fail
          obtain ⟨vc2, vo2, hs2, hP2⟩ := AP.out.2
          exact ⟨⟨i + 1, by omega, by simp, ⟨⟨st2, vc2, vo2, hs2, AN.out, hP2, by omega, by omega⟩, HB3.out, HR3.out⟩⟩, by simp [intOf]; omega⟩
      · have hie : i = (linesP t).length := by omega
        subst hie
        have hlt'' : ((Lib.countB t ⟨#[10]⟩ : Int) + 1) = ((linesP t).length : Int) := by omega
        have hRs : (if shut st = true then TR.good st else TR.bad ((datas (linesP t)).length - 1) 190) = R := by
          rw [← HR.out]
          have : (datas (linesP t)).take (linesP t).length = datas (linesP t) := List.take_of_length_le (by omega)
          rw [this] at hls
          rw [hls]
        have HRs := Aside0.mk hRs
        have HND := Aside0.mk hNd
        have HWR : Aside0 (wrap64 (((linesP t).length : Int) - 1) = (Lib.countB t ⟨#[10]⟩ : Int)) := ⟨by
          rw [show ((linesP t).length : Int) - 1 = (Lib.countB t ⟨#[10]⟩ : Int) by omega]
          unfold wrap64; omega⟩
        clear hls hPI hBw hRw hRs hNl hNd hlt hN
        obtain ⟨A, cap, rfl⟩ : ∃ A cap, vc = .slice A st.out.length cap := by
          rcases HPr.out.row.2 with ⟨q, q2⟩ | ⟨g', cap, cur, q, _⟩
          · exact ⟨none, 0, by rw [q, q2]⟩
          · exact ⟨_, _, q⟩
        have hc := HPr.out.cells
        unfold PS.cells at hc
        have HBd := Aside0.mk (HBw.out.drew)
        go_wp2_with fail
        obtain ⟨hb0, hb⟩ : ∃ b, st.begun = b := ⟨_, rfl⟩
        obtain ⟨hh0, hh⟩ : ∃ b, st.half = b := ⟨_, rfl⟩
        rw [hb, hh] at hc
        cases hb0 with
        | false =>
          have HF : Aside0 (R = .bad (Lib.countB t ⟨#[10]⟩) 190) := ⟨by
            rw [← HRs.out, if_neg (by simp [shut, hb, hh]), HND.out, show (linesP t).length - 1 = Lib.countB t ⟨#[10]⟩ by omega]⟩
          refine wp_plan [(0, 0), (0, 1), (0, 2), (1, 3), (0, 4), (0, 5), (0, 6), (0, 7), (0, 8), (1, 9), (0, 10), (0, 11), (0, 12), (0, 13), (0, 14), (0, 17), (0, 18), (0, 19), (1, 15), (0, 16), (1, 20), (0, 21), (0, 22)]
            (fun w' => Cells w' w.heap.size 83 [.bool false, .int .i64 (st.v : Int), .int .i64 (st.c : Int), .slice A st.out.length cap, vo, .bool hh0]) (by kernel_rfl) (by kernel_rfl) (fun _ _ d _ _ h => by cases d <;> exact h) hc.drew ?_
          simp only [planOps, List.filterMap_cons, List.filterMap_nil, List.getElem?_toArray, List.getElem?_cons_zero, List.getElem?_cons_succ, Option.map_some]
          repeat (first
            | (refine' plan_pu _ (by rfl) (fun w' => ?_) ?_; rotate_left 1; (focus (go_simp; try (with_reducible rfl))); simp only [Act.put, List.setIfInBounds_toArray, List.set_cons_zero, List.set_cons_succ])
            | (refine' plan_off (by rfl) ?_; simp only [Act.put, List.setIfInBounds_toArray, List.set_cons_zero, List.set_cons_succ])
            | (refine' plan_offL (by rfl) ?_; simp only [Act.put, List.setIfInBounds_toArray, List.set_cons_zero, List.set_cons_succ])
            | (refine' plan_ld _ (by rfl) (fun w' hSw => ?_) ?_; rotate_left 1; (focus ((try dsimp only at hSw); have c0 := hSw.cell 0 _ rfl; have c2 := hSw.cell 2 _ rfl; have c3 := hSw.cell 3 _ rfl; have c5 := hSw.cell 5 _ rfl; go_simp; try (with_reducible rfl))); simp only [Act.put, List.setIfInBounds_toArray, List.set_cons_zero, List.set_cons_succ]))
          refine plan_nil ?_
          go_wp2_with fail
          refine (refuse_any _ 190 _).mono ?_
          rintro e w4 ⟨k, rfl, hk, hB4⟩
          have HK := Aside0.mk hk
          have HB4 := Aside0.mk (HBd.out.trans (hB4.mono (by rw [hBe]; exact HBd.out.size)))
          clear hk hB4
          go_wp2_with fail
          go_returns
          rw [HF.out]
          rw [hBe] at HB4
          refine ⟨k, rfl, ?_, HB4.out⟩
          have := HK.out
          have e1 := HWR.out
          simpa [e1] using this
        | true =>
          cases hh0 with
          | true =>
            have HF : Aside0 (R = .bad (Lib.countB t ⟨#[10]⟩) 190) := ⟨by
              rw [← HRs.out, if_neg (by simp [shut, hb, hh]), HND.out, show (linesP t).length - 1 = Lib.countB t ⟨#[10]⟩ by omega]⟩
            refine wp_plan [(0, 0), (0, 1), (0, 2), (1, 3), (0, 4), (0, 5), (0, 6), (0, 7), (0, 8), (1, 9), (0, 10), (0, 11), (0, 12), (0, 13), (0, 14), (0, 17), (0, 18), (0, 19), (1, 15), (0, 16), (1, 20), (0, 21), (0, 22)]
              (fun w' => Cells w' w.heap.size 83 [.bool true, .int .i64 (st.v : Int), .int .i64 (st.c : Int), .slice A st.out.length cap, vo, .bool true]) (by kernel_rfl) (by kernel_rfl) (fun _ _ d _ _ h => by cases d <;> exact h) hc.drew ?_
            simp only [planOps, List.filterMap_cons, List.filterMap_nil, List.getElem?_toArray, List.getElem?_cons_zero, List.getElem?_cons_succ, Option.map_some]
            repeat (first
              | (refine' plan_pu _ (by rfl) (fun w' => ?_) ?_; rotate_left 1; (focus (go_simp; try (with_reducible rfl))); simp only [Act.put, List.setIfInBounds_toArray, List.set_cons_zero, List.set_cons_succ])
              | (refine' plan_off (by rfl) ?_; simp only [Act.put, List.setIfInBounds_toArray, List.set_cons_zero, List.set_cons_succ])
              | (refine' plan_offL (by rfl) ?_; simp only [Act.put, List.setIfInBounds_toArray, List.set_cons_zero, List.set_cons_succ])
              | (refine' plan_ld _ (by rfl) (fun w' hSw => ?_) ?_; rotate_left 1; (focus ((try dsimp only at hSw); have c0 := hSw.cell 0 _ rfl; have c2 := hSw.cell 2 _ rfl; have c3 := hSw.cell 3 _ rfl; have c5 := hSw.cell 5 _ rfl; go_simp; try (with_reducible rfl))); simp only [Act.put, List.setIfInBounds_toArray, List.set_cons_zero, List.set_cons_succ]))
            refine plan_nil ?_
            go_wp2_with fail
            refine (refuse_any _ 190 _).mono ?_
            rintro e w4 ⟨k, rfl, hk, hB4⟩
            have HK := Aside0.mk hk
            have HB4 := Aside0.mk (HBd.out.trans (hB4.mono (by rw [hBe]; exact HBd.out.size)))
            clear hk hB4
            go_wp2_with fail
            go_returns
            rw [HF.out]
            rw [hBe] at HB4
            refine ⟨k, rfl, ?_, HB4.out⟩
            have := HK.out
            have e1 := HWR.out
            simpa [e1] using this
          | false =>
            by_cases hoc : st.out.length < st.c
            · have hoc' : (st.out.length : Int) < (st.c : Int) := by omega
              have HF : Aside0 (R = .bad (Lib.countB t ⟨#[10]⟩) 190) := ⟨by
                rw [← HRs.out, if_neg (by simp [shut, hb, hh, hoc]), HND.out, show (linesP t).length - 1 = Lib.countB t ⟨#[10]⟩ by omega]⟩
              refine wp_plan [(0, 0), (0, 1), (0, 2), (1, 3), (0, 4), (0, 5), (0, 6), (0, 7), (0, 8), (1, 9), (0, 10), (0, 11), (0, 12), (0, 13), (0, 14), (0, 17), (0, 18), (0, 19), (1, 15), (0, 16), (1, 20), (0, 21), (0, 22)]
                (fun w' => Cells w' w.heap.size 83 [.bool true, .int .i64 (st.v : Int), .int .i64 (st.c : Int), .slice A st.out.length cap, vo, .bool false]) (by kernel_rfl) (by kernel_rfl) (fun _ _ d _ _ h => by cases d <;> exact h) hc.drew ?_
              simp only [planOps, List.filterMap_cons, List.filterMap_nil, List.getElem?_toArray, List.getElem?_cons_zero, List.getElem?_cons_succ, Option.map_some]
              repeat (first
                | (refine' plan_pu _ (by rfl) (fun w' => ?_) ?_; rotate_left 1; (focus (go_simp; try (with_reducible rfl))); simp only [Act.put, List.setIfInBounds_toArray, List.set_cons_zero, List.set_cons_succ])
                | (refine' plan_off (by rfl) ?_; simp only [Act.put, List.setIfInBounds_toArray, List.set_cons_zero, List.set_cons_succ])
                | (refine' plan_offL (by rfl) ?_; simp only [Act.put, List.setIfInBounds_toArray, List.set_cons_zero, List.set_cons_succ])
                | (refine' plan_ld _ (by rfl) (fun w' hSw => ?_) ?_; rotate_left 1; (focus ((try dsimp only at hSw); have c0 := hSw.cell 0 _ rfl; have c2 := hSw.cell 2 _ rfl; have c3 := hSw.cell 3 _ rfl; have c5 := hSw.cell 5 _ rfl; go_simp; try (with_reducible rfl))); simp only [Act.put, List.setIfInBounds_toArray, List.set_cons_zero, List.set_cons_succ]))
              refine plan_nil ?_
              go_wp2_with fail
              refine (refuse_any _ 190 _).mono ?_
              rintro e w4 ⟨k, rfl, hk, hB4⟩
              have HK := Aside0.mk hk
              have HB4 := Aside0.mk (HBd.out.trans (hB4.mono (by rw [hBe]; exact HBd.out.size)))
              clear hk hB4
              go_wp2_with fail
              go_returns
              rw [HF.out]
              rw [hBe] at HB4
              refine ⟨k, rfl, ?_, HB4.out⟩
              have := HK.out
              have e1 := HWR.out
              simpa [e1] using this
            · have hoc' : ¬ (st.out.length : Int) < (st.c : Int) := by omega
              have HF : Aside0 (R = .good st) := ⟨by rw [← HRs.out, if_pos (by simp [shut, hb, hh, hoc])]⟩
              refine wp_plan [(0, 0), (0, 1), (0, 2), (1, 3), (0, 4), (0, 5), (0, 6), (0, 7), (0, 8), (1, 9), (0, 10), (0, 11), (0, 12), (0, 13), (0, 14), (0, 17), (0, 18), (0, 19), (1, 15), (0, 16), (1, 20), (0, 21), (0, 22)]
                (fun w' => Cells w' w.heap.size 83 [.bool true, .int .i64 (st.v : Int), .int .i64 (st.c : Int), .slice A st.out.length cap, vo, .bool false]) (by kernel_rfl) (by kernel_rfl) (fun _ _ d _ _ h => by cases d <;> exact h) hc.drew ?_
              simp only [planOps, List.filterMap_cons, List.filterMap_nil, List.getElem?_toArray, List.getElem?_cons_zero, List.getElem?_cons_succ, Option.map_some]
              repeat (first
                | (refine' plan_pu _ (by rfl) (fun w' => ?_) ?_; rotate_left 1; (focus (go_simp; try (with_reducible rfl))); simp only [Act.put, List.setIfInBounds_toArray, List.set_cons_zero, List.set_cons_succ])
                | (refine' plan_off (by rfl) ?_; simp only [Act.put, List.setIfInBounds_toArray, List.set_cons_zero, List.set_cons_succ])
                | (refine' plan_offL (by rfl) ?_; simp only [Act.put, List.setIfInBounds_toArray, List.set_cons_zero, List.set_cons_succ])
                | (refine' plan_ld _ (by rfl) (fun w' hSw => ?_) ?_; rotate_left 1; (focus ((try dsimp only at hSw); have c0 := hSw.cell 0 _ rfl; have c2 := hSw.cell 2 _ rfl; have c3 := hSw.cell 3 _ rfl; have c5 := hSw.cell 5 _ rfl; go_simp; try (with_reducible rfl))); simp only [Act.put, List.setIfInBounds_toArray, List.set_cons_zero, List.set_cons_succ]))
              refine plan_nil ?_
              go_wp2_with fail
              go_returns
              rw [HF.out]
              rw [hBe] at HBd HPr
              exact ⟨_, _, _, _, rfl, HPr.out.drewN 1, HBd.out⟩
set_option maxHeartbeats 2000000 in
theorem Parse_any (t : ByteArray) (w : World) (ht : t.size ≤ 9223372036854775807) (hm : ML w) : Calls Tryz.prog 13 #[.string t] w fun e w' => ParsePost w.heap.size w (parseD t.data.toList) e w' := by
  obtain ⟨R, hR⟩ : ∃ R, parseD t.data.toList = R := ⟨_, rfl⟩
  rw [hR]
  go_enter Tryz.func13, Tryz.ntmps13
  go_wp2_with fail
  refine (read_any t _ ht hm).mono ?_
  rintro e w1 h1
  rw [hR] at h1
  clear hR
  cases R with
  | bad i n =>
    obtain ⟨k, rfl, hk, hB⟩ := h1
    have HK := Aside0.mk hk
    have HB := Aside0.mk hB
    clear hk hB
    go_wp2_with fail
    go_returns
    exact ⟨k, rfl, HK.out, HB.out⟩
  | good st =>
    obtain ⟨g, vc, vo, hs, rfl, hP, hB⟩ := h1
    have HP := Aside0.mk hP
    have HB := Aside0.mk hB
    have hc := hP.cells
    unfold PS.cells at hc
    have c3 := hc.cell 3 _ rfl
    clear hP hB hc
    go_wp2_with fail
    go_returns
    exact ⟨_, _, _, _, rfl, HP.out, HB.out⟩
end Go.Proofs.YthhnhbpmpdminaaGreatDoor
