/-
Several texts as one: Dcp Dlp.
-/
import Derived.Test.YthhnhbpmpdminaaGreatDoorPdj
import Derived.Test.YthhnhbpmpdminaaGreatDoorDnb
import Derived.Test.YthhnhbpmpdminaaGreatDoorDlws
import Derived.Test.YthhnhbpmpdminaaGreatDoorDpw
/-
plaithelp.CopyInts, CopyLists: a list's copy. Conditions: how many numbers there are.
-/
namespace Go.Proofs.YthhnhbpmpdminaaGreatDoor
set_option maxRecDepth 4096
open Go.RowKit Go.Lib Go.Proofs.YthhnhbpmpdminaaGreatDoorW.PrintWords PDimacsPrint

theorem copy_ints (A : Option Addr) (c : Nat) (x : List Int) (w : World) (hC : Kd.C (Kd.int .i64) w A x.length x) (hx : x.length ≤ 3000) : Calls Tryz.prog 51 #[.slice A x.length c] w fun e w' => ∃ v, e = .returned v ∧ w'.ownsRow w.heap.size 3 1 v x.length (numsI x) ∧ Below w.heap.size w w' := by
  obtain ⟨i0, hi, hz⟩ := Option.map_eq_some_iff.1 Tryz.infoIntD
  simp only [Prod.mk.injEq] at hz
  obtain ⟨hz0, hz1, hz2⟩ := hz
  cases A with
  | none =>
    have hx0 : x = [] := by
      cases x with
      | nil => rfl
      | cons a r =>
        obtain ⟨ad, e, _⟩ := hC.2.2 (by simp)
        cases e
    subst hx0
    go_enter Tryz.func51, Tryz.ntmps51
    go_wp2_with fail
    go_returns
    exact ⟨_, rfl, World.ownsRow_nil _ _ _ _, Below.refl _ _⟩
  | some ad =>
    have HN : Aside0 (∀ j u, (numsI x)[j]? = some u → w.cell? (ad.add j) = some u) := ⟨fun j u hj => by
      have hjl : j < x.length := by have := (List.getElem?_eq_some_iff.1 hj).1; simpa [numsI] using this
      obtain ⟨ad2, e, h⟩ := Kd.at_int hC (j : Int) (by omega) (by omega)
      cases e
      obtain ⟨n, hn⟩ : ∃ n, x[j]? = some n := ⟨_, List.getElem?_eq_getElem hjl⟩
      rw [rdn hn] at h
      have hu : u = .int .i64 n := by simp [numsI, hn] at hj; exact hj.symm
      rw [hu]; exact h⟩
    go_enter Tryz.func51, Tryz.ntmps51
    go_wp2_with (at_builtin; (refine wpList_append_own_at w rfl _ _ 61 rfl w.heap.size 3 i0 (.int .i64 0) 1 8 Tryz.underlying61 hi hz0 hz1 hz2 rfl (by decide) (.slice none 0 0) 0 [] rfl (World.ownsRow_nil _ _ _ _) ad x.length c (numsI x) rfl (by simp [numsI]) HN.out (by intro u hu; simp [numsI] at hu; obtain ⟨n, _, rfl⟩ := hu; rfl) (by unfold maxLen; omega) (by omega) (Nat.le_refl _) ?_; intro v1 w1 hown hg _ hat; rw [Nat.zero_add, List.nil_append] at hown; have AO := Aside0.mk hown; have AB := Aside0.mk (Below.grown (Below.refl w.heap.size w) hg (Nat.le_refl _) (fun k hk => by cases hk)); clear hown hg hat))
    go_returns
    exact ⟨_, rfl, AO.out, AB.out⟩
theorem own_lower {w : World} {b b' e size n : Nat} {v : Value} {xs : List Value} (h : w.ownsRow b e size v n xs) (hb : b' ≤ b) : w.ownsRow b' e size v n xs := by
  refine ⟨h.1, ?_⟩
  rcases h.2 with q | ⟨g, cap, cur, q1, q2, q3⟩
  · exact .inl q
  · exact .inr ⟨g, cap, cur, q1, Nat.le_trans hb q2, q3⟩
theorem own_one {w : World} {b e size n : Nat} {v : Value} {xs : List Value} (h : w.ownsRow b e size v n xs) : v.oneCell' = true := by
  rcases h.2 with ⟨rfl, _⟩ | ⟨g, cap, cur, rfl, _⟩ <;> rfl
/-- A copied list in memory. -/
structure CI (w : World) (B : Nat) (l : List (List Int)) (vo : Value) (hs : List Value) : Prop where
  row : w.ownsRow B 61 1 vo l.length hs
  each : ∀ (i : Nat) (x : List Int) (h : Value), l[i]? = some x → hs[i]? = some h → w.ownsRow B 3 1 h x.length (numsI x)
theorem CI.below {w w' : World} {B : Nat} {l : List (List Int)} {vo : Value} {hs : List Value} (h : CI w B l vo hs) (hb : Below w.heap.size w w') : CI w' B l vo hs :=
  ⟨own_keep h.row (Mod.of_below (S := fun k => w.heap.size ≤ k) hb) (fun k hk => by have := own_lt_size h.row k hk; omega),
   fun i x u hx hu => own_keep (h.each i x u hx hu) (Mod.of_below (S := fun k => w.heap.size ≤ k) hb) (fun k hk => by have := own_lt_size (h.each i x u hx hu) k hk; omega)⟩
theorem CI.snoc {w w' : World} {B : Nat} {l : List (List Int)} {vo v1 v : Value} {hs : List Value} {x : List Int} (h : CI w B l vo hs) (hv : w.ownsRow B 3 1 v x.length (numsI x)) (hg : w.grownBy w' vo.ownBlock) (hown : w'.ownsRow B 61 1 v1 (l.length + 1) (hs ++ [v])) : CI w' B (l ++ [x]) v1 (hs ++ [v]) := by
  have hm : Mod (fun k => vo.ownBlock = some k) w w' := (Mod.refl _ _).grown hg (fun k hk => .inl hk)
  have hl : hs.length = l.length := by have := h.row.1; omega
  refine ⟨by rw [List.length_append]; exact hown, fun i y u hy hu => ?_⟩
  by_cases hi : i < l.length
  · rw [List.getElem?_append_left hi] at hy
    rw [List.getElem?_append_left (by omega)] at hu
    exact own_keep (h.each i y u hy hu) hm (own_ne_own (h.each i y u hy hu) h.row (by decide))
  · rw [List.getElem?_append_right (by omega)] at hy
    rw [List.getElem?_append_right (by omega), hl] at hu
    have hi0 : i - l.length = 0 := by have := (List.getElem?_eq_some_iff.1 hy).1; simpa using this
    rw [hi0] at hy hu
    simp only [List.getElem?_cons_zero, Option.some.injEq] at hy hu
    subst hy; subst hu
    exact own_keep hv hm (own_ne_own hv h.row (by decide))
theorem CI.seen {w : World} {B : Nat} {l : List (List Int)} {vo : Value} {hs : List Value} (h : CI w B l vo hs) : Seen w l vo := by
  have hl : hs.length = l.length := by have := h.row.1; omega
  have hR : Reps ((Kd.slice 3 (Kd.int .i64)).K w) 1 l hs := by
    refine ⟨by omega, fun j p hj => ?_⟩
    rw [Nat.mul_one]
    have hl1 := (List.getElem?_eq_some_iff.1 hj).1
    have hl2 : j < hs.length := by omega
    rw [List.drop_eq_getElem_cons hl2]
    exact ints_K (h.each j p _ hj (List.getElem?_eq_getElem hl2))
  obtain ⟨A, c, rfl, hr⟩ := own_reads_row h.row hR rfl
  refine ⟨A, c, rfl, ?_, hr⟩
  rcases h.row.2 with ⟨q, q2⟩ | ⟨g, cap, cur, q, _, _, hc, _⟩
  · rw [q2]; omega
  · cases q; exact hc
set_option maxHeartbeats 4000000 in
theorem copy_lists (A : Option Addr) (c : Nat) (l : List (List Int)) (w : World) (hC : Kd.C (Kd.slice 3 (Kd.int .i64)) w A l.length l) (hb : bulk l ≤ 3000) : Calls Tryz.prog 18 #[.slice A l.length c] w fun e w' => ∃ v hs, e = .returned v ∧ CI w' w.heap.size l v hs ∧ Below w.heap.size w w' := by
  have hll : l.length ≤ 3000 := by unfold bulk at hb; omega
  have HC := Aside0.mk hC
  clear hC
  go_enter Tryz.func18, Tryz.ntmps18
  go_wp2_with fail
  go_loopw [3, 4] (fun v3 v4 wr => ∃ (i : Nat) (hs : List Value), i ≤ l.length ∧ v4 = .int .i64 (i : Int) ∧ CI wr w.heap.size (l.take i) v3 hs ∧ Below w.heap.size w wr) (fun _ v4 _ => l.length - (intOf v4).toNat)
  case atStart => exact ⟨0, [], by omega, rfl, ⟨World.ownsRow_nil _ _ _ _, fun i x h hx => by simp at hx⟩, Below.refl _ _⟩
  case round =>
    obtain ⟨i, hs, hi, rfl, hci, hB⟩ := hrel
    have HI := Aside0.mk hci
    have HB := Aside0.mk hB
    have hzr := hB.size
    have hlen : (l.take i).length = i := by rw [List.length_take]; omega
    obtain ⟨Ao, co, rfl⟩ : ∃ Ao co, u3 = .slice Ao i co := by
      have hr := hci.row
      rw [hlen] at hr
      rcases hr.2 with ⟨q, q2⟩ | ⟨g', cap, cur, q, _⟩
      · exact ⟨none, 0, by rw [q, q2]⟩
      · exact ⟨_, _, q⟩
    clear hci hB
    by_cases hlt : i < l.length
    · obtain ⟨x, hx⟩ : ∃ x, l[i]? = some x := ⟨_, List.getElem?_eq_getElem hlt⟩
      have hlt' : (i : Int) < (l.length : Int) := by omega
      obtain ⟨ad, A0, c0, rfl, hcell, hl0, hC0⟩ := at_L1 HC.out (i : Int) (by omega) hlt'
      rw [rdc hx] at hcell hl0 hC0
      have hcell : wr.cell? (ad.add i) = some (.slice A0 x.length c0) := (HB.out.cell (World.block_lt_of_cell? _ _ hcell)).trans hcell
      have hxb := bulk_row (List.mem_of_getElem? hx)
      have hC1 := Kd.C_below hC0 HB.out
      have HX := Aside0.mk (take_snoc hx)
      have HC1 := Aside0.mk hC1
      clear hx hC0 hC1
      go_wp2_with fail
      refine (copy_ints A0 c0 x _ HC1.out (by omega)).mono ?_
      rintro e w2 ⟨v, rfl, hown, hB2⟩
      obtain ⟨Av, cv, rfl⟩ : ∃ Av cv, v = .slice Av x.length cv := by
        rcases hown.2 with ⟨q, q2⟩ | ⟨g', cap, cur, q, _⟩
        · exact ⟨none, 0, by rw [q, q2]⟩
        · exact ⟨_, _, q⟩
      have hI2 := HI.out.below hB2
      have hown2 : w2.ownsRow w.heap.size 3 1 (.slice Av x.length cv) x.length (numsI x) := own_lower hown hzr
      have hB3 := HB.out.trans (hB2.mono hzr)
      have hz2 := Nat.le_trans hzr hB2.size
      have H2 := Aside0.mk hI2
      have HV2 := Aside0.mk hown2
      have HB3 := Aside0.mk hB3
      clear hown hB2 hI2 hown2 hB3
      go_wp2_with (at_builtin; (refine apl_at (w0 := w) _ w.heap.size (.tmp 11) (.tmp 17) 23 61 (.slice none 0 0) 1 24 (.slice Ao i co) (l.take i).length hs [.slice Av x.length cv] ⟨w2.heap.size, 0, none⟩ 1 rfl rfl (news_one (Cells.new w2 _ _)) Tryz.underlying23 Tryz.infoIntsD rfl (by decide) (by decide) (by rfl) (by rfl) rfl (by intro u hu; rw [List.mem_singleton] at hu; subst hu; exact own_one HV2.out) (H2.out.row.alloc _) (HB3.out.alloc hz2 _) (Nat.le_trans hz2 (by simp)) (by omega) ?_; intro v1 w3 hown1 hB4 hg1 hat1; have HF := Aside0.mk (CI.snoc (H2.out.below ((Below.refl _ w2).alloc (Nat.le_refl _) (.cells #[.slice Av x.length cv] 61))) (HV2.out.alloc _) hg1 hown1); have HB4 := Aside0.mk hB4; clear hown1 hB4 hg1 hat1))
      exact ⟨⟨i + 1, _, by omega, by simp, by rw [HX.out]; exact HF.out, HB4.out⟩, by simp [intOf]; omega⟩
    · have hie : i = l.length := by omega
      subst hie
      have HI := HI.out
      rw [List.take_length] at HI
      have HI := Aside0.mk HI
      go_wp2_with fail
      go_returns
      exact ⟨_, _, rfl, HI.out, HB.out⟩
end Go.Proofs.YthhnhbpmpdminaaGreatDoor
/-
The law DimacsPrint, walked. Conditions: errors.errorType, the powers of ten and bytealg.MaxLen are as they are laid; the lengths can be counted.
-/
namespace Go.Proofs.YthhnhbpmpdminaaGreatDoor
open Go.RowKit Go.Lib Go.Proofs.YthhnhbpmpdminaaGreatDoorW.PrintWords PDimacsPrint
set_option maxRecDepth 4096

theorem size_any (l : List (List Int)) (v : Value) (w : World) (h : Seen w l v) (hl : l.length ≤ 140737488355328) (hcs : ∀ c ∈ l, c.length ≤ 140737488355328) (b : Nat) (hb : b ≤ 1000000) : Calls Tryz.prog 17 #[v, .int .i64 (b : Int)] w fun e w' => ∃ r : Int, e = .returned (.int .i64 r) ∧ (bulk l ≤ b → r = (bulk l : Int)) ∧ (b < bulk l → (b : Int) < r) ∧ Below w.heap.size w w' := by
  obtain ⟨A, c, rfl, hc, hC⟩ := h.out
  obtain ⟨K, r, hf, h1, h2⟩ := size_f l b hl hcs hb
  exact (plaithelp_Size.calls K A c l b r w hC hc hf).mono fun e w' ⟨he, hd⟩ => ⟨r, he, h1, h2, hd.below⟩
theorem ref_print (l : List (List Int)) (v : Value) (w : World) (h : Seen w l v) (hb : bulk l ≤ 3000) : Calls Tryz.prog 20 #[v] w fun e w' => ∃ t n, e = .returned (.tuple #[.string t, .int .i64 n]) ∧ ((okL l ∧ t = BA (prT l) ∧ n = 0) ∨ (¬ okL l ∧ t = ⟨#[]⟩ ∧ n = 190)) ∧ Below w.heap.size w w' := by
  obtain ⟨A, c, rfl, hc, hC⟩ := h.out
  have hll : l.length ≤ 3000 := by unfold bulk at hb; omega
  obtain ⟨K, h1, h2⟩ := print_f l (by omega) (fun c hc => by have := bulk_row hc; omega)
  by_cases hok : okL l
  · have hlen := prT_len l hok (by omega)
    exact (plaitref19_Print.calls K A c l _ _ w hC hc (h1 hok (by omega))).mono fun e w' ⟨he, hB⟩ => ⟨_, _, he, .inl ⟨hok, rfl, rfl⟩, hB⟩
  · exact (plaitref19_Print.calls K A c l _ _ w hC hc (h2 hok)).mono fun e w' ⟨he, hB⟩ => ⟨_, _, he, .inr ⟨hok, rfl, rfl⟩, hB⟩
theorem print_seen (l : List (List Int)) (v : Value) (w : World) (h : Seen w l v) (hb : bulk l ≤ 3000) (ht : TP w) : Calls Tryz.prog 19 #[v] w fun e w' => PrintPost w l e w' := by
  obtain ⟨A, c, rfl, hc, hC⟩ := h.out
  exact Print_any A c l w hC hb ht
theorem copy_seen (l : List (List Int)) (v : Value) (w : World) (h : Seen w l v) (hb : bulk l ≤ 3000) : Calls Tryz.prog 18 #[v] w fun e w' => ∃ u, e = .returned u ∧ Seen w' l u ∧ Below w.heap.size w w' := by
  obtain ⟨A, c, rfl, hc, hC⟩ := h.out
  exact (copy_lists A c l w hC hb).mono fun e w' ⟨u, hs, he, hI, hB⟩ => ⟨u, he, hI.seen, hB⟩
/-- What is printed is read again as it was. -/
theorem back_seen (l : List (List Int)) (w : World) (hok : okL l) (hb : bulk l ≤ 3000) (hm : ML w) : Calls Tryz.prog 13 #[.string (BA (prT l))] w fun e w' => ∃ v, e = .returned (.tuple #[v, .nilIface]) ∧ Seen w' l v ∧ Below w.heap.size w w' := by
  have hll : l.length ≤ 3000 := by unfold bulk at hb; omega
  have hlen := prT_len l hok (by omega)
  obtain ⟨st, h1, h2⟩ := parse_print l hok (by omega) (by omega)
  have hd : (BA (prT l)).data.toList = prT l := by simp [BA]
  refine (Parse_any (BA (prT l)) w (by rw [BA_size]; omega) hm).mono fun e w' h => ?_
  rw [hd, h1] at h
  obtain ⟨g, vc, vo, hs, rfl, hP, hB⟩ := h
  have hC := PI_C hP
  rw [h2] at hC
  exact ⟨vc, rfl, ⟨hC⟩, hB⟩
set_option maxHeartbeats 4000000 in
theorem lawDPrint (l : List (List Int)) (v : Value) (w : World) (hS : Seen w l v) (hl : l.length ≤ 140737488355328) (hcs : ∀ c ∈ l, c.length ≤ 140737488355328) (hE : EV w) (hp : Ab.PW w) (hm : ML w) (ht : TP w) : Calls Tryz.prog 4 #[v] w fun e w' => e = .returned (.bool true) ∧ Below w.heap.size w w' := by
  have HE := Aside0.mk hE
  have HM := Aside0.mk hm
  have HP := Aside0.mk hp
  have HT := Aside0.mk ht
  have HS := Aside0.mk hS
  have HL := Aside0.mk hcs
  clear hE hm hp ht hS hcs
  go_enter Tryz.func4, Tryz.ntmps4
  go_wp2_with fail
  refine (Ab.known19 HE.out HP.out).mono ?_
  rintro e w1 ⟨rfl, hB⟩
  have HB1 := Aside0.mk hB
  clear hB
  go_wp2_with fail
  refine (size_any l v _ (HS.out.up HB1.out) hl HL.out 3000 (by omega)).mono ?_
  rintro e w2 ⟨r, rfl, h1, h2, hB⟩
  have HB2 := Aside0.mk (HB1.out.trans (hB.mono HB1.out.size))
  clear hB
  by_cases hb : 3000 < bulk l
  · have h3 : (3000 : Int) < r := h2 hb
    clear h1 h2
    go_wp2_with fail
    go_returns
    exact ⟨rfl, HB2.out⟩
  · have hb2 : bulk l ≤ 3000 := by omega
    have h3 : ¬ (3000 : Int) < r := by have := h1 hb2; omega
    clear h1 h2 hb
    go_wp2_with fail
    refine (copy_seen l v _ (HS.out.up HB2.out) hb2).mono ?_
    rintro e w3 ⟨u, rfl, hu, hB⟩
    have HB3 := Aside0.mk (HB2.out.trans (hB.mono HB2.out.size))
    have HU3 := Aside0.mk hu
    clear hB hu
    go_wp2_with fail
    refine (print_seen l u _ HU3.out hb2 (HT.out.up HB3.out)).mono ?_
    rintro e w4 ⟨t, n, rfl, ht, hB⟩
    have HB4 := Aside0.mk (HB3.out.trans (hB.mono HB3.out.size))
    have HU4 := Aside0.mk (HU3.out.up hB)
    have HN := Aside0.mk ht
    clear hB ht
    go_wp2_with fail
    refine (ref_print l v _ (HS.out.up HB4.out) hb2).mono ?_
    rintro e w5 ⟨t2, n2, rfl, ht, hB⟩
    have HB5 := Aside0.mk (HB4.out.trans (hB.mono HB4.out.size))
    have HU5 := Aside0.mk (HU4.out.up hB)
    clear hB
    rcases HN.out with ⟨hok, rfl, rfl⟩ | ⟨hbad, rfl, rfl⟩
    · rcases ht with ⟨_, rfl, rfl⟩ | ⟨q, _, _⟩
      · have HOK := Aside0.mk hok
        clear hok HN
        obtain ⟨T, hT⟩ : ∃ T, T = BA (prT l) := ⟨_, rfl⟩
        rw [← hT]
        have HTT := Aside0.mk hT
        clear hT
        go_wp2_with fail
        refine (lists_any l _ _ _ HU5.out (HS.out.up HB5.out)).mono ?_
        rintro e w6 ⟨rfl, hB⟩
        have HB6 := Aside0.mk (HB5.out.trans (hB.mono HB5.out.size))
        clear hB
        go_wp2_with fail
        rw [HTT.out]
        refine (back_seen l _ HOK.out hb2 (HM.out.up HB6.out)).mono ?_
        rintro e w7 ⟨v7, rfl, hs, hB⟩
        have HB7 := Aside0.mk (HB6.out.trans (hB.mono HB6.out.size))
        have HS7 := Aside0.mk hs
        clear hB hs
        go_wp2_with fail
        refine (lists_any l _ _ _ HS7.out (HS.out.up HB7.out)).mono ?_
        rintro e w8 ⟨rfl, hB⟩
        have HB8 := Aside0.mk (HB7.out.trans (hB.mono HB7.out.size))
        clear hB
        go_wp2_with fail
        go_returns
        exact ⟨rfl, HB8.out⟩
      · exact absurd hok q
    · rcases ht with ⟨q, _, _⟩ | ⟨_, rfl, rfl⟩
      · exact absurd q hbad
      · clear hbad HN
        go_wp2_with fail
        refine (lists_any l _ _ _ HU5.out (HS.out.up HB5.out)).mono ?_
        rintro e w6 ⟨rfl, hB⟩
        have HB6 := Aside0.mk (HB5.out.trans (hB.mono HB5.out.size))
        clear hB
        go_wp2_with fail
        go_returns
        exact ⟨rfl, HB6.out⟩
end Go.Proofs.YthhnhbpmpdminaaGreatDoor
