/-
Operations over the abstract memory that look at no memory, and how they stand for the model's. Conditions: none.
-/
import Derived.Test.YthhnhbpmpdminaaGreatDoorAa
import Derived.Laws.Cells
import Derived.Laws.Tables
import Derived.Lib.Strings
namespace Go.Proofs.YthhnhbpmpdminaaGreatDoor
namespace Ab
set_option maxRecDepth 4096

def isAggD : TypeDesc → Bool
  | .struct _ | .array _ _ => true
  | _ => false
/-- What is looked up of a type. -/
structure TI where
  size : Nat
  bytes : Nat
  desc : TypeDesc
  zero : AVal
def tiOf (P : Program) (t : TypeId) : Option TI :=
  match P.info? t with
  | some inf => match P.underlying t with
    | some d => match inf.zero with
      | some z => some ⟨inf.size, inf.bytes, d, absV 8 z⟩
      | none => none
    | none => none
  | none => none
structure TIs (P : Program) (t : TypeId) (i : TI) : Prop where
  inf : ∃ inf z, P.info? t = some inf ∧ inf.size = i.size ∧ inf.bytes = i.bytes ∧ inf.zero = some z ∧ i.zero = absV 8 z
  desc : P.underlying t = some i.desc
theorem tiOf_spec {P : Program} {t : TypeId} {i : TI} (h : tiOf P t = some i) : TIs P t i := by
  unfold tiOf at h
  cases h1 : P.info? t with
  | none => rw [h1] at h; cases h
  | some inf =>
    rw [h1] at h
    cases h2 : P.underlying t with
    | none => rw [h2] at h; cases h
    | some d =>
      rw [h2] at h
      cases h3 : inf.zero with
      | none => simp only [h3] at h; cases h
      | some z =>
        simp only [h3, Option.some.injEq] at h
        subst h
        exact ⟨⟨inf, z, h1, rfl, rfl, h3, rfl⟩, h2⟩

def cellsA : AVal → List AVal
  | .agg l => l
  | v => [v]
def isTop : AVal → Bool
  | .top | .unk _ => true
  | _ => false
def oneA : AVal → Bool
  | .agg _ | .tup _ | .top | .unk _ => false
  | _ => true
theorem oneA_VR {C : Ctx} {a : AVal} {v : Value} (h : VR C a v) (ho : oneA a = true) : v.oneCell' = true := by
  cases h <;> first | rfl | cases ho
theorem cellsA_VR {C : Ctx} {a : AVal} {v : Value} (h : VR C a v) (ht : isTop a = false) : VRs C (cellsA a) v.cells.toList := by
  cases h with
  | top => cases ht
  | unk => cases ht
  | agg l l' h => exact h
  | _ => exact .cons _ _ _ _ (by constructor <;> assumption) .nil
theorem absV_flat : ∀ (n : Nat) (z : Value) (l : List AVal), (∀ cs, z ≠ .agg cs) → absV (n + 1) z ≠ .agg l := by
  intro n z l hz h
  unfold absV at h
  split at h <;> first | (cases h; done) | skip
  · rename_i f a c
    cases hb : (a.toList.isEmpty && c.toList.isEmpty) <;> rw [hb] at h <;> cases h
  · rename_i cs; exact hz cs rfl
theorem cellsA_one {a : AVal} (h : ∀ l, a ≠ .agg l) : cellsA a = [a] := by
  cases a <;> first | rfl | exact absurd rfl (h _)
theorem zero_cells (C : Ctx) (z : Value) (n : Nat) : VRs C (cellsA (absV (n + 1) z)) z.cells.toList := by
  have h := absV_VR C (n + 1) z
  by_cases hz : ∃ cs, z = .agg cs
  · obtain ⟨cs, rfl⟩ := hz
    show VRs C (cs.toList.map (absV n)) cs.toList
    exact VRs.map (absV_VR C n) _
  · have hz' : ∀ cs, z ≠ .agg cs := fun cs e => hz ⟨cs, e⟩
    rw [cellsA_one (fun l => absV_flat n z l hz')]
    have : z.cells = #[z] := by cases z <;> first | rfl | exact absurd rfl (hz' _)
    rw [this]
    exact .cons _ _ _ _ h .nil

def pureRun {α : Type} (P : Program) : Sem α → Option α
  | .pure a => some a
  | .program k => pureRun P (k P)
  | _ => none
theorem pureRun_run {α : Type} {P : Program} {s : Sem α} {a : α} (h : pureRun P s = some a) (W : World) : s.run P W = .ok a W := by
  induction s with
  | pure b => simp only [pureRun, Option.some.injEq] at h; subst h; rfl
  | program k ih => simp only [pureRun] at h; simp only [Sem.run]; exact ih P h
  | _ => simp [pureRun] at h

section
variable {P : Program} {C : Ctx}
theorem run_ti {t : TypeId} {i : TI} (h : TIs P t i) (W : World) : ∃ inf, (typeInfo t).run P W = .ok inf W ∧ inf.size = i.size ∧ inf.bytes = i.bytes ∧ ∃ z, inf.zero = some z ∧ i.zero = absV 8 z := by
  obtain ⟨inf, z, h1, h2, h3, h4, h5⟩ := h.inf
  exact ⟨inf, by simp [typeInfo, h1], h2, h3, z, h4, h5⟩
theorem run_size {t : TypeId} {i : TI} (h : TIs P t i) (W : World) : (sizeOf t).run P W = .ok i.size W := by
  obtain ⟨inf, h1, h2, _⟩ := run_ti h W
  simp [sizeOf, h1, h2]
theorem run_und {t : TypeId} {i : TI} (h : TIs P t i) (W : World) : (underlying t).run P W = .ok i.desc W := by
  simp [underlying, h.desc]
theorem run_zero {t : TypeId} {i : TI} (h : TIs P t i) (W : World) : ∃ z, (zeroValue t).run P W = .ok z W ∧ i.zero = absV 8 z := by
  obtain ⟨inf, h1, _, _, z, h4, h5⟩ := run_ti h W
  exact ⟨z, by simp [zeroValue, h1, h4], h5⟩
theorem run_agg {t : TypeId} {i : TI} (h : TIs P t i) (W : World) : (isAgg t).run P W = .ok (isAggD i.desc) W := by
  simp only [isAgg, Sem.run_bind, run_und h, Result.andThen_ok]
  cases i.desc <;> rfl
end

/-- A part of a struct or an array. -/
def apart (P : Program) (t : TypeId) (l : List AVal) (off : Nat) : Option AVal :=
  match tiOf P t with
  | some i => bif isAggD i.desc then some (.agg ((l.drop off).take i.size)) else l[off]?
  | none => none
theorem apart_sound {P : Program} {C : Ctx} {t : TypeId} {l : List AVal} {cs : Array Value} {off : Nat} {a : AVal} (h : apart P t l off = some a) (hl : VRs C l cs.toList) :
    ∃ v, (∀ W, (part t cs off).run P W = .ok v W) ∧ VR C a v := by
  unfold apart at h
  cases hi : tiOf P t with
  | none => rw [hi] at h; cases h
  | some i =>
    have hs := tiOf_spec hi
    simp only [hi] at h
    cases hd : isAggD i.desc with
    | true =>
      simp only [hd, cond_true, Option.some.injEq] at h
      subst h
      refine ⟨.agg (cs.extract off (off + i.size)), fun W => by simp [part, run_agg hs, hd, run_size hs], .agg _ _ ?_⟩
      rw [Array.toList_extract, List.extract_eq_drop_take']
      have : off + i.size - off = i.size := by omega
      rw [List.drop_take, this]
      exact (hl.drop off).take i.size
    | false =>
      simp only [hd, cond_false] at h
      obtain ⟨v, hv, hr⟩ := hl.get h
      exact ⟨v, fun W => by
        have : cs[off]? = some v := by simpa using hv
        simp [part, run_agg hs, hd, this], hr⟩

/-- A slice's bound. -/
def abound (x : Option AVal) (dflt mx : Nat) : Option Nat :=
  match x with
  | none => some dflt
  | some (.int _ i) => match i with
    | .ofNat n => bif Nat.ble n mx then some n else none
    | .negSucc _ => none
  | _ => none
inductive VRo (C : Ctx) : Option AVal → Option Value → Prop
  | none : VRo C none none
  | some (a : AVal) (v : Value) (h : VR C a v) : VRo C (some a) (some v)
theorem bound_sound {P : Program} {C : Ctx} {a : AVal} {v : Value} {mx : Nat} {n : Nat} {dflt : Nat} (h : abound (some a) dflt mx = some n) (hv : VR C a v) (y : Nat) (hy : mx ≤ y) (code : BoundsCode) (W : World) :
    (Instr.sliceBound v y code).run P W = .ok n W ∧ n ≤ mx := by
  cases hv with
  | int k i =>
    cases i with
    | ofNat m =>
      simp only [abound] at h
      cases hb : Nat.ble m mx with
      | false => rw [hb] at h; cases h
      | true =>
        rw [hb] at h
        simp only [cond_true, Option.some.injEq] at h
        subst h
        have := Nat.le_of_ble_eq_true hb
        refine ⟨?_, this⟩
        have h2 : (Int.ofNat m) ≤ (y : Int) := by simp only [Int.ofNat_eq_natCast]; omega
        have h1 : (0 : Int) ≤ Int.ofNat m := by simp
        simp only [Instr.sliceBound, asIntOf, Sem.run_bind, Sem.run_pure, Result.andThen_ok, h1, h2, and_self, if_true, Sem.run_ite]
        rfl
    | negSucc m => simp [abound] at h
  | _ => simp [abound] at h

def aslice (P : Program) (t : TypeId) (x : AVal) (lo hi mx : Option AVal) : Option AVal :=
  match tiOf P t with
  | none => none
  | some i => match i.desc, x with
    | .string, .str s => match mx with
      | some _ => none
      | none => match abound hi s.length s.length with
        | none => none
        | some h => match abound lo 0 h with
          | none => none
          | some l => some (.str ((s.take h).drop l))
    | .slice e, .sl none 0 0 own => match tiOf P e with
      | none => none
      | some _ => match mx with
        | some _ => none
        | none => match abound hi 0 0 with
          | none => none
          | some h => match abound lo 0 h with
            | none => none
            | some _ => some (.sl none 0 0 own)
    | .slice e, .sl (some (b, o)) len cap own => match tiOf P e with
      | none => none
      | some ie => match mx with
        | none => match abound hi len cap with
          | none => none
          | some h => match abound lo 0 h with
            | none => none
            | some 0 => some (.sl (some (b, o)) h cap own)
            | some (l + 1) => bif Nat.ble cap (l + 1) then some (.ro 0 []) else some (.sl (some (b, o + (l + 1) * ie.size)) (h - (l + 1)) (cap - (l + 1)) false)
        | some _ => match abound mx cap cap with
          | none => none
          | some m => match hi with
            | none => none
            | some _ => match abound hi 0 m with
              | none => none
              | some h => match abound lo 0 h with
                | none => none
                | some l => some (.sl (some (b, bif Nat.beq m l then o else o + l * ie.size)) (h - l) (m - l) false)
    | .slice e, .ro n c => match tiOf P e with
      | none => none
      | some ie => match mx with
        | some _ => none
        | none => match abound hi n n with
          | none => none
          | some h => match abound lo 0 h with
            | none => none
            | some l => bif Nat.ble h l then some (.ro 0 []) else some (.ro (h - l) ((c.drop (l * ie.size)).take ((h - l) * ie.size)))
    | .array n e, .ptr (some (b, o)) => match tiOf P e with
      | none => none
      | some ie => match mx with
        | some _ => none
        | none => match abound hi n n with
          | none => none
          | some h => match abound lo 0 h with
            | none => none
            | some l => bif Nat.ble n l then some (.ro 0 []) else some (.sl (some (b, o + l * ie.size)) (h - l) (n - l) false)
    | _, _ => none
def aindexAddr (P : Program) (t : TypeId) (x : AVal) (ix : AVal) : Option AVal :=
  match tiOf P t, ix with
  | some i, .int _ (.ofNat n) => match i.desc, x with
    | .array len e, .ptr (some (b, o)) => match tiOf P e with
      | some ie => bif Nat.blt n len then some (.ptr (some (b, o + n * ie.size))) else none
      | none => none
    | .array len e, .rp c => match tiOf P e with
      | some ie => bif Nat.blt n len then some (.rp (c.drop (n * ie.size))) else none
      | none => none
    | .slice e, .sl (some (b, o)) len _ _ => match tiOf P e with
      | some ie => bif Nat.blt n len then some (.ptr (some (b, o + n * ie.size))) else none
      | none => none
    | .slice e, .ro len c => match tiOf P e with
      | some ie => bif Nat.blt n len then some (.rp (c.drop (n * ie.size))) else none
      | none => none
    | _, _ => none
  | _, _ => none
def afieldAddr (P : Program) (s : TypeId) (x : AVal) (f : Nat) : Option AVal :=
  match tiOf P s with
  | some i => match i.desc with
    | .struct fs => match fs[f]? with
      | some fd => match tiOf P fd.type with
        | some fi => bif Nat.beq fi.size 0 then none else match x with
          | .ptr (some (b, o)) => some (.ptr (some (b, o + fd.offset)))
          | .rp c => some (.rp (c.drop fd.offset))
          | _ => none
        | none => none
      | none => none
    | _ => none
  | none => none
def afield (P : Program) (s : TypeId) (x : AVal) (f : Nat) : Option AVal :=
  match tiOf P s with
  | some i => match i.desc, x with
    | .struct fs, .agg l => match fs[f]? with
      | some fd => apart P fd.type l fd.offset
      | none => none
    | _, _ => none
  | none => none
def aindex (P : Program) (t : TypeId) (x : AVal) (ix : AVal) : Option AVal :=
  match tiOf P t, ix with
  | some i, .int _ (.ofNat n) => match i.desc, x with
    | .array len e, .agg l => match tiOf P e with
      | some ie => bif Nat.blt n len then apart P e l (n * ie.size) else none
      | none => none
    | .string, .str s => match s[n]? with
      | some b => some (.int .u8 (Int.ofNat b.toNat))
      | none => none
    | _, _ => none
  | _, _ => none

theorem Addr.add_mk (k o n : Nat) : (Addr.add ⟨k, o, none⟩ n) = ⟨k, o + n, none⟩ := by
  unfold Addr.add
  split
  · rename_i h; subst h; rfl
  · rfl
theorem natAbs_ofNat (n : Nat) : (Int.ofNat n).toNat = n := rfl

section
variable {P : Program} {C : Ctx}
theorem aindexAddr_sound {t : TypeId} {x ix a : AVal} {xv iv : Value} (h : aindexAddr P t x ix = some a) (hx : VR C x xv) (hi : VR C ix iv) :
    ∃ v, (∀ W, (Instr.indexAt t xv iv).run P W = .ok v W) ∧ VR C a v := by
  unfold aindexAddr at h
  split at h
  · rename_i i k n hti
    have hs := tiOf_spec hti
    cases hi
    split at h
    · rename_i len e b o hd
      split at h
      · rename_i ie hie
        have hes := tiOf_spec hie
        cases hlt : Nat.blt n len with
        | false => rw [hlt] at h; cases h
        | true =>
          rw [hlt] at h; simp only [cond_true, Option.some.injEq] at h
          have hn := Nat.blt_eq.mp hlt
          subst h
          cases hx with
          | ptr b o k' rc hφ =>
            refine ⟨.pointer (some ⟨k', o + n * ie.size, none⟩), fun W => ?_, .ptr _ _ _ _ hφ⟩
            have h1 : (0 : Int) ≤ Int.ofNat n := by simp
            have h2 : Int.ofNat n < (len : Int) := by simp only [Int.ofNat_eq_natCast]; omega
            simp [Instr.indexAt, asIntOf, run_und hs, hd, Instr.sureAddr, hn, run_size hes, Addr.add_mk]
      · cases h
    · rename_i len e c hd
      split at h
      · rename_i ie hie
        have hes := tiOf_spec hie
        cases hlt : Nat.blt n len with
        | false => rw [hlt] at h; cases h
        | true =>
          rw [hlt] at h; simp only [cond_true, Option.some.injEq] at h
          have hn := Nat.blt_eq.mp hlt
          subst h
          cases hx with
          | rp l k' o hr =>
            exact ⟨.pointer (some ⟨k', o + n * ie.size, none⟩), fun W => by
              simp [Instr.indexAt, asIntOf, run_und hs, hd, Instr.sureAddr, hn, run_size hes, Addr.add_mk], .rp _ _ _ (hr.drop _)⟩
      · cases h
    · rename_i e b o len cap own hd
      split at h
      · rename_i ie hie
        have hes := tiOf_spec hie
        cases hlt : Nat.blt n len with
        | false => rw [hlt] at h; cases h
        | true =>
          rw [hlt] at h; simp only [cond_true, Option.some.injEq] at h
          have hn := Nat.blt_eq.mp hlt
          subst h
          cases hx with
          | sl b o len cap own k' rc cap' hφ hl hc ho =>
            exact ⟨.pointer (some ⟨k', o + n * ie.size, none⟩), fun W => by
              simp [Instr.indexAt, asIntOf, run_und hs, hd, hn, run_size hes, Addr.add_mk], .ptr _ _ _ _ hφ⟩
      · cases h
    · rename_i e len c hd
      split at h
      · rename_i ie hie
        have hes := tiOf_spec hie
        cases hlt : Nat.blt n len with
        | false => rw [hlt] at h; cases h
        | true =>
          rw [hlt] at h; simp only [cond_true, Option.some.injEq] at h
          have hn := Nat.blt_eq.mp hlt
          subst h
          cases hx with
          | ro _ l k' o c hr hc =>
            exact ⟨.pointer (some ⟨k', o + n * ie.size, none⟩), fun W => by
              simp [Instr.indexAt, asIntOf, run_und hs, hd, hn, run_size hes, Addr.add_mk], .rp _ _ _ (hr.drop _)⟩
      · cases h
    · cases h
  · cases h
theorem afieldAddr_sound {s : TypeId} {x a : AVal} {f : Nat} {xv : Value} (h : afieldAddr P s x f = some a) (hx : VR C x xv) :
    ∃ v, (∀ W, (Instr.fieldAt s xv f).run P W = .ok v W) ∧ VR C a v := by
  unfold afieldAddr at h
  split at h
  · rename_i i hti
    have hs := tiOf_spec hti
    split at h
    · rename_i fs hd
      split at h
      · rename_i fd hfd
        split at h
        · rename_i fi hfi
          have hfs := tiOf_spec hfi
          cases hz : Nat.beq fi.size 0 with
          | true => rw [hz] at h; cases h
          | false =>
            rw [hz] at h; simp only [cond_false] at h
            have hne : ¬ fi.size = 0 := by intro e; rw [e] at hz; cases hz
            split at h
            · rename_i b o
              simp only [Option.some.injEq] at h; subst h
              cases hx with
              | ptr b o k rc hφ =>
                exact ⟨.pointer (some ⟨k, o + fd.offset, none⟩), fun W => by
                  simp [Instr.fieldAt, run_und hs, hd, hfd, Instr.sureAddr, fieldPlace, run_size hfs, hne, Addr.add_mk], .ptr _ _ _ _ hφ⟩
            · simp only [Option.some.injEq] at h; subst h
              cases hx with
              | rp l k o hr =>
                exact ⟨.pointer (some ⟨k, o + fd.offset, none⟩), fun W => by
                  simp [Instr.fieldAt, run_und hs, hd, hfd, Instr.sureAddr, fieldPlace, run_size hfs, hne, Addr.add_mk], .rp _ _ _ (hr.drop _)⟩
            · cases h
        · cases h
      · cases h
    · cases h
  · cases h
theorem afield_sound {s : TypeId} {x a : AVal} {f : Nat} {xv : Value} (h : afield P s x f = some a) (hx : VR C x xv) :
    ∃ v, (∀ W, (Instr.field s xv f).run P W = .ok v W) ∧ VR C a v := by
  unfold afield at h
  split at h
  · rename_i i hti
    have hs := tiOf_spec hti
    split at h
    · rename_i fs l hd
      split at h
      · rename_i fd hfd
        cases hx with
        | agg l l' hl =>
          obtain ⟨v, hv, hr⟩ := apart_sound h hl
          exact ⟨v, fun W => by simp [Instr.field, run_und hs, hd, hfd, asAgg, hv], hr⟩
      · cases h
    · cases h
  · cases h
theorem aindex_sound {t : TypeId} {x ix a : AVal} {xv iv : Value} (h : aindex P t x ix = some a) (hx : VR C x xv) (hi : VR C ix iv) :
    ∃ v, (∀ W, (Instr.index t xv iv).run P W = .ok v W) ∧ VR C a v := by
  unfold aindex at h
  split at h
  · rename_i i k n hti
    have hs := tiOf_spec hti
    cases hi
    split at h
    · rename_i len e l hd
      split at h
      · rename_i ie hie
        have hes := tiOf_spec hie
        cases hlt : Nat.blt n len with
        | false => rw [hlt] at h; cases h
        | true =>
          rw [hlt] at h; simp only [cond_true] at h
          have hn := Nat.blt_eq.mp hlt
          cases hx with
          | agg l l' hl =>
            obtain ⟨v, hv, hr⟩ := apart_sound h hl
            exact ⟨v, fun W => by simp [Instr.index, asIntOf, run_und hs, hd, hn, run_size hes, hv], hr⟩
      · cases h
    · rename_i s hd
      split at h
      · rename_i b hb
        simp only [Option.some.injEq] at h; subst h
        cases hx with
        | str s =>
          have hb' : s[n]? = some b := by
            have hb1 : s.data[n]? = some b := by simpa using hb
            have hlt : n < s.size := (Array.getElem?_eq_some_iff.1 hb1).1
            rw [getElem?_pos s n hlt]
            have := (Array.getElem?_eq_some_iff.1 hb1).2
            exact congrArg some this
          exact ⟨.int .u8 (b.toNat : Int), fun W => by simp [Instr.index, asIntOf, run_und hs, hd, hb'], .int _ _⟩
      · cases h
    · cases h
  · cases h
end
end Ab
end Go.Proofs.YthhnhbpmpdminaaGreatDoor
