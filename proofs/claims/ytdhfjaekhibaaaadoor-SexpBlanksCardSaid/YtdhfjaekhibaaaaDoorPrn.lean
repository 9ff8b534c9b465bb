/-
A thing's text, and how sexp.print lays it. Conditions: the text's length; the thing lies below the builder.
-/
import Derived.Test.YtdhfjaekhibaaaaDoorBw
import Derived.Test.YtdhfjaekhibaaaaDoorSam
namespace Go.Proofs.YtdhfjaekhibaaaaDoor
set_option maxRecDepth 4096
open Go.RowKit Go.Shelf Go.Proofs.YtdhfjaekhibaaaaDoorW.PrintWords Go.Proofs.YtdhfjaekhibaaaaDoorW.PrintLast

mutual
def pr : Sx → List UInt8
  | ⟨w, l, ks⟩ => if l then 40 :: (prL ks ++ [41]) else w.data.toList
def prL : List Sx → List UInt8
  | [] => []
  | k :: r => pr k ++ prT r
def prT : List Sx → List UInt8
  | [] => []
  | k :: r => 32 :: (pr k ++ prT r)
end
theorem pr_word {x : Sx} (h : x.list = false) : pr x = x.word.data.toList := by
  cases x; simp at h; subst h; simp [pr]
theorem pr_list {x : Sx} (h : x.list = true) : pr x = 40 :: (prL x.kids ++ [41]) := by
  cases x; simp at h; subst h; simp [pr]
theorem prT_append : ∀ (a b : List Sx), prT (a ++ b) = prT a ++ prT b
  | [], b => by simp [prT]
  | k :: r, b => by simp [prT, prT_append r b]
theorem prL_append (a b : List Sx) (h : a ≠ []) : prL (a ++ b) = prL a ++ prT b := by
  cases a with
  | nil => exact absurd rfl h
  | cons k r => simp [prL, prT_append]
theorem prL_take (l : List Sx) (i : Nat) : (prL (l.take i)).length ≤ (prL l).length := by
  by_cases h : l.take i = []
  · rw [h]; simp [prL]
  · have := prL_append (l.take i) (l.drop i) h
    rw [List.take_append_drop] at this
    rw [this]; simp
theorem prL_zero (l : List Sx) (h : 0 < l.length) : prL (l.take 1) = pr l[0] := by
  cases l with
  | nil => simp at h
  | cons k r => simp [prL, prT]
theorem prL_succ (l : List Sx) (i : Nat) (h : i < l.length) (h0 : 0 < i) : prL (l.take (i + 1)) = prL (l.take i) ++ 32 :: pr l[i] := by
  rw [List.take_succ_eq_append_getElem h, prL_append _ _ (by
    intro e
    have := congrArg List.length e
    rw [List.length_take] at this
    simp only [List.length_nil] at this
    omega)]
  simp [prT]

theorem BS.RT {B : Nat} {w w' : World} (h : Mod (BS B w) w w') (hB : B ≤ w.heap.size) {x : Sx} {c : List Value} (hx : RT w (fun k => k < B) x c) : RT w' (fun k => k < B) x c :=
  RT_move (fun k hk => h.keep k (by omega) (fun q => by have := q.1; omega)) (fun _ q => q) x c hx
theorem BS.RL {B : Nat} {w w' : World} (h : Mod (BS B w) w w') (hB : B ≤ w.heap.size) {ks : List Sx} {A : Option Addr} {j : Nat} (hx : RL w (fun k => k < B) ks A j) : RL w' (fun k => k < B) ks A j :=
  RL_move (fun k hk => h.keep k (by omega) (fun q => by have := q.1; omega)) (fun _ q => q) ks A j hx

set_option maxHeartbeats 1000000 in
theorem print_any (B b : Nat) : ∀ (n : Nat) (x : Sx), x.dep ≤ n → ∀ (c : List Value) (l : List UInt8) (w : World), Bd w B b l → RT w (fun k => k < B) x c → l.length + (pr x).length ≤ 140737488355328 → B ≤ w.heap.size →
    Calls Tryd.prog 30 #[.pointer (some ⟨b, 0, none⟩), .agg c.toArray] w fun e w' => e = .returned (.tuple #[]) ∧ Bu w' B b (l ++ pr x) ∧ Mod (BS B w) w w' := by
  intro n
  induction n with
  | zero => intro x hx; rw [Sx.dep_eq] at hx; omega
  | succ n ih =>
    intro x hx c l w hbd hc hlen hB
    obtain ⟨A, k, rfl, hk, hm, hws, hR⟩ := RT_cells hc
    have AR := Aside0.mk hR
    have AX := Aside0.mk hx
    have ABD := Aside0.mk hbd
    clear hc hR hx hbd
    cases hl : x.list with
    | false =>
      have hp := Aside0.mk (pr_word hl)
      rw [pr_word hl] at hlen
      rw [Array.length_toList] at hlen
      have hlen' : l.length + x.word.size ≤ 140737488355328 := hlen
      clear hl
      go_enter Tryd.func30, Tryd.ntmps30
      go_wp2_with fail
      refine (wstring_any B b l x.word _ (ABD.out.keep ((Mod.refl _ w).alloc _)) hlen' (Nat.le_trans hB (by simp))).mono ?_
      rintro e w1 ⟨rfl, hbu, hmod⟩
      have HB := Aside0.mk hbu
      have HM := Aside0.mk hmod
      clear hbu hmod
      go_wp2_with fail
      go_returns
      exact ⟨rfl, by rw [hp.out]; exact HB.out, BS.trans (BS.of ((Mod.refl _ w).alloc _)) HM.out⟩
    | true =>
      have hp := Aside0.mk (pr_list hl)
      rw [pr_list hl] at hlen
      simp at hlen
      clear hl
      go_enter Tryd.func30, Tryd.ntmps30
      go_wp2_with fail
      refine (byte_any B b l 40 _ (ABD.out.keep ((Mod.refl _ w).alloc _)) (by omega) (Nat.le_trans hB (by simp))).mono ?_
      rintro e w1 ⟨rfl, hbu, hmod⟩
      have hc1 := BS.cells hmod (Cells.new w 35 [.string x.word, .bool true, .slice A x.kids.length k]) (by decide) (by decide)
      have q1 := hc1.cell 2 _ rfl
      have hm1 := BS.trans (BS.of ((Mod.refl _ w).alloc (.cells #[.string x.word, .bool true, .slice A x.kids.length k] 35))) hmod
      have hB1 : B ≤ w1.heap.size := Nat.le_trans hB hm1.size
      have AR1 := Aside0.mk (BS.RL hm1 hB AR.out)
      have HB := Aside0.mk hbu
      have HM := Aside0.mk hm1
      have hb1 : (x.kids.length : Int) ≤ 9223372036854775807 := by omega
      clear hbu hm1 hmod hc1
      go_wp2_with fail
      go_loopw [18] (fun v wr => ∃ i : Nat, i ≤ x.kids.length ∧ v = .int .i64 (i : Int) ∧ Aside0 (Bu wr B b (l ++ 40 :: prL (x.kids.take i))) ∧ Aside0 (Mod (BS B w1) w1 wr)) (fun v _ => x.kids.length - (intOf v).toNat)
      case atStart => exact ⟨0, Nat.zero_le _, rfl, ⟨by simpa [prL] using HB.out⟩, ⟨Mod.refl _ _⟩⟩
      case round =>
        obtain ⟨i, hi, rfl, HBR, HMR⟩ := hrel
        by_cases hlt : i < x.kids.length
        · have i0 : (0 : Int) ≤ (i : Int) := by omega
          have i1 : (i : Int) < (x.kids.length : Int) := by omega
          obtain ⟨a1, B1, d1, rfl, hs1, ht1, -, z11, z12, z13⟩ := RL_kid (BS.RL HMR.out hB1 AR1.out) i hlt
          have hBr : B ≤ wr.heap.size := Nat.le_trans hB1 HMR.out.size
          have hle := prL_take x.kids (i + 1)
          have AT := Aside0.mk ht1
          clear ht1
          by_cases hz : i = 0
          · have e1 : prL (x.kids.take (i + 1)) = pr x.kids[i] := by subst hz; exact prL_zero x.kids hlt
            have e0 : prL (x.kids.take i) = [] := by subst hz; simp [prL]
            rw [e1] at hle
            have E1 := Aside0.mk e1
            have E0 := Aside0.mk e0
            have hneg : (i : Int) ≤ 0 := by omega
            clear e1 e0 q1 hz
            go_wp2_with fail
            refine (ih x.kids[i] (by have := AX.out; rw [Sx.dep_eq] at this; have := Sx.depL_mem (List.getElem_mem hlt); omega) [.string x.kids[i].word, .bool x.kids[i].list, .slice B1 x.kids[i].kids.length d1] _ _ (HBR.out.bd.keep ((Mod.refl _ wr).alloc _)) (BS.RT (BS.of ((Mod.refl _ wr).alloc _)) hBr AT.out) (by rw [E0.out]; simp; omega) (Nat.le_trans hBr (by simp))).mono ?_
            rintro e w2 ⟨rfl, hbu, hmod⟩
            have HB2 := Aside0.mk hbu
            have HM2 := Aside0.mk hmod
            clear hbu hmod
            go_wp2_with fail
            go_roundw
            case rel => exact ⟨i + 1, by omega, by go_num, ⟨by have := HB2.out; rw [E0.out] at this; rw [E1.out]; simpa using this⟩, ⟨BS.trans HMR.out (BS.trans (BS.of ((Mod.refl _ wr).alloc _)) HM2.out)⟩⟩
            case measure => simp [intOf]; omega
          · have e1 := prL_succ x.kids i hlt (by omega)
            rw [e1] at hle
            simp at hle
            have E1 := Aside0.mk e1
            have hpos : (0 : Int) < (i : Int) := by omega
            clear e1 q1
            go_wp2_with fail
            refine (byte_any B b _ 32 _ (HBR.out.bd.keep ((Mod.refl _ wr).alloc _)) (by simp; omega) (Nat.le_trans hBr (by simp))).mono ?_
            rintro e w2 ⟨rfl, hbu, hmod⟩
            have hk2 := BS.cells hmod (Cells.new wr 35 [.string x.kids[i].word, .bool x.kids[i].list, .slice B1 x.kids[i].kids.length d1]) (by decide) (by decide)
            have y0 := hk2.cell 0 _ rfl
            have y1 := hk2.cell 1 _ rfl
            have y2 := hk2.cell 2 _ rfl
            have hm2 := BS.trans (BS.of ((Mod.refl _ wr).alloc (.cells #[.string x.kids[i].word, .bool x.kids[i].list, .slice B1 x.kids[i].kids.length d1] 35))) hmod
            have hB2 : B ≤ w2.heap.size := Nat.le_trans hBr hm2.size
            have AT2 := Aside0.mk (BS.RT hm2 hBr AT.out)
            have HB2 := Aside0.mk hbu
            have HM2 := Aside0.mk hm2
            clear hbu hmod hm2 hk2
            go_wp2_with fail
            refine (ih x.kids[i] (by have := AX.out; rw [Sx.dep_eq] at this; have := Sx.depL_mem (List.getElem_mem hlt); omega) [.string x.kids[i].word, .bool x.kids[i].list, .slice B1 x.kids[i].kids.length d1] _ _ HB2.out.bd AT2.out (by simp; omega) hB2).mono ?_
            rintro e w3 ⟨rfl, hbu, hmod⟩
            have HB3 := Aside0.mk hbu
            have HM3 := Aside0.mk hmod
            clear hbu hmod
            go_wp2_with fail
            go_roundw
            case rel => exact ⟨i + 1, by omega, by go_num, ⟨by have := HB3.out; rw [E1.out]; simpa using this⟩, ⟨BS.trans HMR.out (BS.trans HM2.out HM3.out)⟩⟩
            case measure => simp [intOf]; omega
        · have i1 : (x.kids.length : Int) ≤ (i : Int) := by omega
          have hall : i = x.kids.length := by omega
          subst hall
          go_wp2_with fail
          refine (byte_any B b _ 41 _ HBR.out.bd (by rw [List.take_length]; simp; omega) (Nat.le_trans hB1 HMR.out.size)).mono ?_
          rintro e w2 ⟨rfl, hbu, hmod⟩
          have HB2 := Aside0.mk hbu
          have HM2 := Aside0.mk hmod
          clear hbu hmod
          go_wp2_with fail
          go_end0
          exact ⟨rfl, by rw [hp.out]; simpa using HB2.out, BS.trans (BS.trans HM.out HMR.out) HM2.out⟩

set_option maxHeartbeats 1000000 in
/-- sexp.Print tells the text. -/
theorem Print_any (x : Sx) (c : List Value) (w : World) (hc : RT w (fun k => k < w.heap.size) x c) (hlen : (pr x).length ≤ 140737488355328) :
    Calls Tryd.prog 15 #[.agg c.toArray] w fun e w' => e = .returned (.string ⟨(pr x).toArray⟩) ∧ Below w.heap.size w w' := by
  obtain ⟨A, k, rfl, hk, hm, hws, hR⟩ := RT_cells hc
  have AC := Aside0.mk hc
  clear hc hR
  go_enter Tryd.func15, Tryd.ntmps15
  go_wp2_with fail
  have hb0 : Bd ((w.alloc (.cells #[.string x.word, .bool x.list, .slice A x.kids.length k] 35)).alloc (.cells #[.pointer none, .slice none 0 0] 69)) (w.heap.size + 1) (w.heap.size + 1) [] := by
    refine .inl ⟨Nat.le_refl _, .slice none 0 0, ?_, World.ownsRow_nil _ _ _ _, by simp [Value.ownBlock]⟩
    have := Cells.new (w.alloc (.cells #[.string x.word, .bool x.list, .slice A x.kids.length k] 35)) 69 [.pointer none, .slice none 0 0]
    simpa [Cells] using this
  have hrt : RT ((w.alloc (.cells #[.string x.word, .bool x.list, .slice A x.kids.length k] 35)).alloc (.cells #[.pointer none, .slice none 0 0] 69)) (fun k => k < w.heap.size + 1) x [.string x.word, .bool x.list, .slice A x.kids.length k] :=
    RT_move (fun k hk => (((Mod.refl (fun _ => False) w).alloc _).alloc _).keep k hk (fun q => q)) (fun k hk => by omega) x _ AC.out
  refine (print_any (w.heap.size + 1) (w.heap.size + 1) _ x (Nat.le_refl _) [.string x.word, .bool x.list, .slice A x.kids.length k] [] _ hb0 hrt (by simpa using hlen) (by simp)).mono ?_
  rintro e w1 ⟨rfl, hbu, hmod⟩
  have HB := Aside0.mk hbu
  have hbel : Below w.heap.size w w1 := ((((Mod.refl (fun _ => False) w).alloc _).alloc _).below).trans (hmod.belowB (fun k hk => by have := hk.1; omega) (by simp; omega))
  have hsz := hmod.size
  simp at hsz
  clear hbu hmod hb0 hrt
  go_wp2_with fail
  refine (string_any (w.heap.size + 1) (w.heap.size + 1) _ w1 HB.out.bd (by omega)).mono ?_
  rintro e w2 ⟨rfl, hb2⟩
  go_wp2_with fail
  go_returns
  exact ⟨by simp, hbel.trans (hb2.mono (by omega))⟩
end Go.Proofs.YtdhfjaekhibaaaaDoor
