/- FUNCTIONS, 1: prefixes, routes. -/
import Derived.Test.YthpcjekmgohelaaLib11
import Derived.Test.YthpcjekmgohelaaLib10
set_option linter.unusedVariables false
set_option linter.unusedSimpArgs false
namespace Go.Proofs.Ythpcjekmgohelaa.Ab
open Go Go.Proofs
set_option linter.unusedVariables false
set_option linter.unusedSimpArgs false
variable {G : GI}
structure Pfx where
  addr : Int
  bits : Int
def Pfx.cells (p : Pfx) : List AVal := [.i .u32 p.addr, .i .i64 p.bits]
def Pfx.av (p : Pfx) : AVal := .agg p.cells
structure Sta where
  pfx : Pfx
  via : List UInt8
  at_ : Int
def Sta.cells (s : Sta) : List AVal := [.i .u32 s.pfx.addr, .i .i64 s.pfx.bits, .s s.via, .i .i64 s.at_]

def mask (bits : Int) : Int := if bits ≤ 0 then 0 else IntKind.u32.wrap (4294967295 * 2 ^ (min (IntKind.i64.wrap (32 - (if 32 < bits then 32 else bits))).toNat 32))

theorem prefix_mask_ev (bits : Int) : EvP Try.prog G fn_prefix_mask [.i .i64 bits] (.i .u32 (mask bits)) := by
  refine evP c_prefix_mask rfl ?_
  refine t_seq (t_reg ?_)
  refine t_seq (t_seq (t_reg ?_))
  refine t_cond (t := decide (bits ≤ 0)) rfl (fun h => ?_) (fun h => ?_)
  · refine t_seq (t_reg (t_ret ?_))
    refine And.intro rfl (Exists.intro _ (And.intro rfl ?_))
    have h' : bits ≤ 0 := by simpa using h
    simp only [mask, if_pos h']; rfl
  · refine t_skip (t_seq (t_reg ?_))
    have h' : ¬ bits ≤ 0 := by simpa using h
    have hm : IntKind.i64.wrap (32 - (if 32 < bits then 32 else bits)) = 32 - (if 32 < bits then 32 else bits) := w64 (by split <;> omega) (by split <;> omega)
    refine And.intro (by rw [hm]; split <;> omega) (t_ret ?_)
    refine And.intro rfl (Exists.intro _ (And.intro rfl ?_))
    simp only [mask, if_neg h']; rfl

def mayP (p : Pfx) : Bool :=
  bif decide (0 ≤ p.bits) then (bif decide (p.bits ≤ 32) then (IntKind.u32.wrap ((BitVec.ofInt IntKind.u32.bits p.addr &&& ~~~(BitVec.ofInt IntKind.u32.bits (mask p.bits))).toNat)) == 0 else false) else false

theorem prefix_May_ev (p : Pfx) : EvP Try.prog G fn_prefix_May [p.av] (.b (mayP p)) := by
  refine evP c_prefix_May rfl ?_
  refine t_seq (t_reg ?_)
  refine t_seq (t_reg ?_)
  (repeat' first
    | refine lit_t rfl ?_
    | refine lit_f rfl ?_
    | refine And.intro (fun h => ?_) (fun h => ?_)
    | refine Or.inl (Exists.intro _ (Exists.intro _ (And.intro (prefix_mask_ev _) (And.intro rfl (Or.inl (And.intro rfl ?_))))))
    | refine t_ret ?_) <;> refine And.intro rfl (Exists.intro _ (And.intro rfl ?_)) <;> refine congrArg some (congrArg AVal.b ?_) <;> simp only [mayP, *] <;> rfl

def covers (p q : Pfx) : Bool :=
  bif mayP p then (bif mayP q then (bif decide (p.bits ≤ q.bits) then IntKind.u32.wrap ((BitVec.ofInt IntKind.u32.bits q.addr &&& BitVec.ofInt IntKind.u32.bits (mask p.bits)).toNat) == p.addr else false) else false) else false

theorem prefix_Covers_ev (p q : Pfx) : EvP Try.prog G fn_prefix_Covers [p.av, q.av] (.b (covers p q)) := by
  refine evP c_prefix_Covers rfl ?_
  refine t_seq (t_reg ?_)
  refine t_seq (t_reg ?_)
  (repeat' first
    | refine lit_t rfl ?_
    | refine lit_f rfl ?_
    | refine And.intro (fun h => ?_) (fun h => ?_)
    | refine Or.inl (Exists.intro _ (Exists.intro _ (And.intro (prefix_mask_ev _) (And.intro rfl (Or.inl (And.intro rfl ?_))))))
    | refine Or.inl (Exists.intro _ (Exists.intro _ (And.intro (prefix_May_ev p) (And.intro rfl (Or.inl (And.intro rfl ?_))))))
    | refine Or.inl (Exists.intro _ (Exists.intro _ (And.intro (prefix_May_ev q) (And.intro rfl (Or.inl (And.intro rfl ?_))))))
    | refine t_ret ?_) <;> refine And.intro rfl (Exists.intro _ (And.intro rfl ?_)) <;> refine congrArg some (congrArg AVal.b ?_) <;> simp only [covers, *] <;> rfl
structure Attr where
  ok : Bool
  pref : Int
  cost : Int
  tags : Int
def Attr.av (a : Attr) : AVal := .agg [.b a.ok, .i .i64 a.pref, .i .i64 a.cost, .i .u8 a.tags]
def Attr.same (a b : Attr) : Bool := (!a.ok && !b.ok) || (a.ok == b.ok && (a.pref == b.pref && (a.cost == b.cost && (a.tags == b.tags && true))))

theorem attr_Same_ev (a b : Attr) : EvP Try.prog G fn_attr_Same [a.av, b.av] (.b (a.same b)) := by
  refine evP c_attr_Same rfl ?_
  obtain ⟨o1, p1, c1, t1⟩ := a
  obtain ⟨o2, p2, c2, t2⟩ := b
  refine t_seq (t_reg ?_)
  refine t_seq (t_reg ?_)
  cases o1 <;> cases o2 <;>
  (repeat' first
    | refine lit_t rfl ?_
    | refine lit_f rfl ?_
    | refine t_ret ?_) <;> refine And.intro rfl (Exists.intro _ (And.intro rfl rfl))
end Go.Proofs.Ythpcjekmgohelaa.Ab

/- FUNCTIONS, 2: lower.static. -/
namespace Go.Proofs.Ythpcjekmgohelaa.Ab
open Go Go.Proofs
set_option linter.unusedVariables false
set_option linter.unusedSimpArgs false
variable {G : GI}
def staStep (to : Pfx) (acc : List UInt8 × Int) (s : Sta) : List UInt8 × Int :=
  bif covers s.pfx to then (bif decide (acc.2 < s.pfx.bits) then (s.via, s.pfx.bits) else acc) else acc
def staticM (to : Pfx) (l : List Sta) : List UInt8 × Int := l.foldl (staStep to) ([], -1)

abbrev stE (sts : List Sta) (i : Int) (acc : List UInt8 × Int) : Slots := [(13, .i .i64 i), (12, .i .i64 ((sts.map Sta.cells).length : Nat)), (11, .sl (sts.map Sta.cells)), (7, .i .i64 acc.2), (6, .s acc.1), (3, .ptr 1 0), (2, .ptr 0 0)]
abbrev stH (nm nets links : AVal) (sts : List Sta) (rat : AVal) (to : Pfx) : Heap := [.box [nm, nets, links, .sl (sts.map Sta.cells), rat], .box to.cells]

theorem lower_static_ev (nm nets links : AVal) (sts : List Sta) (rat : AVal) (to : Pfx) (hl : (sts.length : Int) ≤ 9223372036854775807)
    (hc : clean (.agg [nm, nets, links, .sl (sts.map Sta.cells), rat]) = true) :
    EvP Try.prog G fn_lower_static [.agg [nm, nets, links, .sl (sts.map Sta.cells), rat], to.av] (.tup [.s (staticM to sts).1, .b (decide (0 ≤ (staticM to sts).2))]) := by
  refine evP c_lower_static rfl ?_
  refine t_seq (t_reg ?_)
  refine t_seq (t_reg ?_)
  refine t_seq (t_seq (t_reg ?_))
  refine t_block ?_
  have hbel : ∀ x : Sta, belL 2 x.cells = true := fun x => rfl
  have hB : ((stH nm nets links sts rat to).all (belO 2)) = true := by
    have := clean_bel 2 _ hc
    simp only [bel] at this
    simp only [List.all_cons, belO, this, List.all_nil]; rfl
  have hE : ∀ (i : Int) (acc : List UInt8 × Int), ((stE sts i acc).all fun p => bel 2 p.2) = true := by
    intro i acc
    simp only [List.all_cons, bel, bel_rows hbel]; rfl
  refine t_keepAs (m := 2) [13, 12, 11, 7, 6, 3, 2] (E'' := stE sts 0 ([], -1)) (H'' := stH nm nets links sts rat to) rfl rfl (by decide) (hE _ _) hB ?_
  refine t_loop (fun n E H => ∃ i, i ≤ sts.length ∧ n = sts.length - i ∧ H = stH nm nets links sts rat to ∧ E = stE sts (i : Nat) (staticM to (sts.take i))) ⟨0, Nat.zero_le _, rfl, rfl, rfl⟩ ?_
  rintro n E H ⟨i, hi, rfl, rfl, rfl⟩
  refine t_seq (t_reg ?_)
  refine t_seq (t_cond rfl (fun h => ?_) (fun h => ?_))
  · have hlt : i < sts.length := by simpa using h
    have hstep : staticM to (sts.take (i + 1)) = staStep to (staticM to (sts.take i)) sts[i] := by
      unfold staticM; rw [List.take_succ_eq_append_getElem hlt, List.foldl_append]; rfl
    have hw : IntKind.i64.wrap ((i : Nat) + 1) = ((i + 1 : Nat) : Int) := by rw [w64 (by omega) (by omega)]; rfl
    refine t_skip ?_
    refine t_seq (t_block ?_)
    refine t_seq (t_reg ?_)
    refine And.intro (Int.natCast_nonneg i) (Exists.intro (sts[i]).cells (And.intro (row_at hlt) (And.intro rfl ?_)))
    refine Exists.intro _ (And.intro rfl ?_)
    refine And.intro (And.intro rfl (by decide)) ?_
    refine t_seq (t_reg ?_)
    refine Or.inl (Exists.intro _ (Exists.intro _ (And.intro (prefix_Covers_ev (sts[i]).pfx to) (And.intro rfl (Or.inl (And.intro rfl ?_))))))
    refine And.intro (fun hcv => ?_) (fun hcv => ?_)
    · repeat refine lit_t rfl ?_
      refine t_cond rfl (fun hb => ?_) (fun hb => ?_)
      · refine t_reg ?_
        refine t_reg ?_
        refine Exists.intro (sts.length - (i + 1)) (Exists.intro (stE sts ((i + 1 : Nat) : Int) (staticM to (sts.take (i + 1)))) (Exists.intro 2 (And.intro (by omega) (And.intro (keepAs (H'' := stH nm nets links sts rat to) [13, 12, 11, 7, 6, 3, 2] ?_ rfl (Nat.zero_le _) (hE _ _) hB) ⟨i + 1, hlt, rfl, rfl, rfl⟩))))
        rw [hstep, ← hw, show staStep to (staticM to (sts.take i)) sts[i] = ((sts[i]).via, (sts[i]).pfx.bits) by simp only [staStep, hcv, hb, cond_true]]; rfl
      · refine t_skip ?_
        refine t_reg ?_
        refine Exists.intro (sts.length - (i + 1)) (Exists.intro (stE sts ((i + 1 : Nat) : Int) (staticM to (sts.take (i + 1)))) (Exists.intro 2 (And.intro (by omega) (And.intro (keepAs (H'' := stH nm nets links sts rat to) [13, 12, 11, 7, 6, 3, 2] ?_ rfl (Nat.zero_le _) (hE _ _) hB) ⟨i + 1, hlt, rfl, rfl, rfl⟩))))
        rw [hstep, ← hw, show staStep to (staticM to (sts.take i)) sts[i] = staticM to (sts.take i) by simp only [staStep, hcv, hb, cond_true, cond_false]]; rfl
    · repeat refine lit_f rfl ?_
      refine t_cond rfl (fun hb => Bool.noConfusion hb) (fun _ => ?_)
      refine t_skip ?_
      refine t_reg ?_
      refine Exists.intro (sts.length - (i + 1)) (Exists.intro (stE sts ((i + 1 : Nat) : Int) (staticM to (sts.take (i + 1)))) (Exists.intro 2 (And.intro (by omega) (And.intro (keepAs (H'' := stH nm nets links sts rat to) [13, 12, 11, 7, 6, 3, 2] ?_ rfl (Nat.zero_le _) (hE _ _) hB) ⟨i + 1, hlt, rfl, rfl, rfl⟩))))
      rw [hstep, ← hw, show staStep to (staticM to (sts.take i)) sts[i] = staticM to (sts.take i) by simp only [staStep, hcv, Bool.not_true, cond_false]]; rfl
  · have hge : i = sts.length := by
      have : ¬ ((i : Int) < ((sts.map Sta.cells).length : Nat)) := by simpa using h
      simp at this; omega
    subst hge
    rw [List.take_length]
    refine t_exit ?_
    refine t_seq (t_reg (t_ret ?_))
    refine And.intro rfl (Exists.intro _ (And.intro rfl rfl))
end Go.Proofs.Ythpcjekmgohelaa.Ab

/- FUNCTIONS, 3: routes. -/
namespace Go.Proofs.Ythpcjekmgohelaa.Ab
open Go Go.Proofs
set_option linter.unusedVariables false
set_option linter.unusedSimpArgs false
variable {G : GI}

def Attr.better (a b : Attr) : Bool :=
  bif (!a.ok || !b.ok) then (a.ok && !b.ok) else
  bif a.pref != b.pref then decide (b.pref < a.pref) else
  bif a.cost != b.cost then decide (a.cost < b.cost) else decide (a.tags < b.tags)

theorem attr_Better_ev (a b : Attr) : EvP Try.prog G fn_attr_Better [a.av, b.av] (.b (a.better b)) := by
  refine evP c_attr_Better rfl ?_
  obtain ⟨o1, p1, c1, t1⟩ := a
  obtain ⟨o2, p2, c2, t2⟩ := b
  refine t_seq (t_reg ?_)
  refine t_seq (t_block ?_)
  refine t_seq (t_reg ?_)
  cases o1 <;> cases o2
  all_goals
    (repeat' first
      | refine lit_t rfl ?_
      | refine lit_f rfl ?_
      | refine t_cond (t := true) rfl (fun _ => ?_) (fun h => Bool.noConfusion h)
      | refine t_cond (t := false) rfl (fun h => Bool.noConfusion h) (fun _ => ?_)
      | refine t_cond rfl (fun h => ?_) (fun h => ?_)
      | refine t_seq (t_reg ?_)
      | refine t_ret ?_
      | refine t_skip ?_)
  all_goals refine And.intro rfl (Exists.intro _ (And.intro rfl ?_))
  all_goals refine congrArg some (congrArg AVal.b ?_)
  all_goals (try simp only [Attr.better, *])
  all_goals (try rfl)
end Go.Proofs.Ythpcjekmgohelaa.Ab

/- FUNCTIONS, 4: networks by numbers. -/
namespace Go.Proofs.Ythpcjekmgohelaa.Ab
open Go Go.Proofs
set_option linter.unusedVariables false
set_option linter.unusedSimpArgs false
variable {G : GI}

def u8cells (x : Int) : List AVal := [.i .u8 x]
/-- A list's number, or 0. -/
def number (l : List Int) (k : Int) : Int := if l.length = 0 then 0 else IntKind.i64.wrap (l.getD (k.tmod (l.length : Nat)).toNat 0)

theorem maquettelaw07_number_ev (l : List Int) (k : Int) (hk : 0 ≤ k) (hl : (l.length : Int) ≤ 9223372036854775807) : EvP Try.prog G fn_maquettelaw07_number [.sl (l.map u8cells), .i .i64 k] (.i .i64 (number l k)) := by
  refine evP c_maquettelaw07_number rfl ?_
  refine t_seq (t_reg ?_)
  refine t_seq (t_seq (t_reg ?_))
  refine t_cond rfl (fun h => ?_) (fun h => ?_)
  · refine t_seq (t_reg (t_ret ?_))
    refine And.intro rfl (Exists.intro _ (And.intro rfl ?_))
    have h' : l.length = 0 := by simpa using h
    simp only [number, if_pos h']; rfl
  · refine t_skip (t_seq (t_reg ?_))
    have h' : l.length ≠ 0 := by simpa using h
    have hpos : (0 : Int) < ((l.map u8cells).length : Nat) := by simp; omega
    have hlt : (k.tmod ((l.map u8cells).length : Nat)).toNat < l.length := by
      have h1 := Int.tmod_lt_of_pos k hpos
      have h2 := Int.tmod_nonneg (((l.map u8cells).length : Nat) : Int) hk
      simp at h1 h2 ⊢; omega
    refine And.intro rfl (And.intro (by omega) ?_)
    refine And.intro (Int.tmod_nonneg _ hk) (Exists.intro (u8cells (l[(k.tmod ((l.map u8cells).length : Nat)).toNat])) (And.intro (row_atN hlt) (And.intro rfl ?_)))
    refine Exists.intro _ (And.intro rfl ?_)
    refine t_ret (And.intro rfl (Exists.intro _ (And.intro rfl ?_)))
    refine congrArg some (congrArg (AVal.i .i64) ?_)
    have e1 : (k.tmod ((l.map u8cells).length : Nat)).toNat = (k.tmod (l.length : Nat)).toNat := by rw [List.length_map]
    unfold number
    rw [if_neg h', List.getD_eq_getElem?_getD, ← e1, List.getElem?_eq_getElem hlt]
    rfl
end Go.Proofs.Ythpcjekmgohelaa.Ab

/- FUNCTIONS, 5: clauses by numbers. -/
namespace Go.Proofs.Ythpcjekmgohelaa.Ab
open Go Go.Proofs
set_option linter.unusedVariables false
set_option linter.unusedSimpArgs false
variable {G : GI}

structure Cla where
  any : Bool
  pfx : Pfx
  with_ : Int
  out : Int
  drop : Bool
  set : Int
  clear : Int
  more : Int
  pref : Int
def Cla.cells (c : Cla) : List AVal := [.b c.any, .i .u32 c.pfx.addr, .i .i64 c.pfx.bits, .i .u8 c.with_, .i .u8 c.out, .b c.drop, .i .u8 c.set, .i .u8 c.clear, .i .i64 c.more, .i .i64 c.pref]
def Cla.av (c : Cla) : AVal := .agg c.cells

/-- Does it work on a route? -/
def Cla.matches (c : Cla) (to : Pfx) (tags : Int) : Bool :=
  bif (bif c.any then true else covers c.pfx to) then
    (bif IntKind.u8.wrap ((BitVec.ofInt IntKind.u8.bits tags &&& BitVec.ofInt IntKind.u8.bits c.with_).toNat) == c.with_ then
      IntKind.u8.wrap ((BitVec.ofInt IntKind.u8.bits tags &&& BitVec.ofInt IntKind.u8.bits c.out).toNat) == 0 else false) else false

theorem clause_Matches_ev (c : Cla) (to : Pfx) (tags : Int) : EvP Try.prog G fn_clause_Matches [c.av, to.av, .i .u8 tags] (.b (c.matches to tags)) := by
  refine evP c_clause_Matches rfl ?_
  obtain ⟨an, pf, wi, ou, dr, se, cl, mo, pr⟩ := c
  refine t_seq (t_reg ?_)
  refine t_seq (t_reg ?_)
  cases an
  all_goals
    (repeat' first
      | refine lit_t rfl ?_
      | refine lit_f rfl ?_
      | refine And.intro (fun h => ?_) (fun h => ?_)
      | refine Or.inl (Exists.intro _ (Exists.intro _ (And.intro (prefix_Covers_ev pf to) (And.intro rfl (Or.inl (And.intro rfl ?_))))))
      | refine t_ret ?_)
  all_goals refine And.intro rfl (Exists.intro _ (And.intro rfl ?_))
  all_goals refine congrArg some (congrArg AVal.b ?_)
  all_goals (try simp only [Cla.matches, *])
  all_goals (try rfl)
end Go.Proofs.Ythpcjekmgohelaa.Ab

/- FUNCTIONS, 6: what clauses do. -/
namespace Go.Proofs.Ythpcjekmgohelaa.Ab
open Go Go.Proofs
set_option linter.unusedVariables false
set_option linter.unusedSimpArgs false
variable {G : GI}

def Attr.cells (a : Attr) : List AVal := [.b a.ok, .i .i64 a.pref, .i .i64 a.cost, .i .u8 a.tags]
def Attr.zero : Attr := ⟨false, 0, 0, 0⟩

def Cla.act (c : Cla) (a : Attr) : Attr :=
  bif c.drop then Attr.zero else
  { ok := a.ok
    pref := bif (bif decide (0 < c.pref) then decide (c.pref ≤ 255) else false) then c.pref else a.pref
    cost := IntKind.i64.wrap (a.cost + (if (if 15 < c.more then 15 else c.more) > 0 then (if 15 < c.more then 15 else c.more) else 0))
    tags := IntKind.u8.wrap ((BitVec.ofInt IntKind.u8.bits (IntKind.u8.wrap ((BitVec.ofInt IntKind.u8.bits (IntKind.u8.wrap ((BitVec.ofInt IntKind.u8.bits a.tags ||| BitVec.ofInt IntKind.u8.bits c.set).toNat)) &&& ~~~(BitVec.ofInt IntKind.u8.bits c.clear)).toNat)) &&& BitVec.ofInt IntKind.u8.bits 15).toNat) }

def doM (cs : List Cla) (to : Pfx) (a : Attr) : Attr :=
  bif !a.ok then Attr.zero else
  match cs.find? (fun c => c.matches to a.tags) with
  | none => a
  | some c => c.act a

abbrev doE (cs : List Cla) (i : Int) : Slots := [(15, .i .i64 i), (14, .i .i64 ((cs.map Cla.cells).length : Nat)), (13, .sl (cs.map Cla.cells)), (6, .ptr 2 0), (5, .ptr 1 0), (4, .ptr 0 0)]
abbrev doH (to : Pfx) (a : Attr) : Heap := [.box to.cells, .box a.cells, .box Attr.zero.cells]

theorem clause_Do_ev (cs : List Cla) (to : Pfx) (a : Attr) (hl : (cs.length : Int) ≤ 9223372036854775807) : EvP Try.prog G fn_clause_Do [.sl (cs.map Cla.cells), to.av, a.av] (doM cs to a).av := by
  refine evP c_clause_Do rfl ?_
  refine t_seq (t_reg ?_)
  refine t_seq (t_seq (t_reg ?_))
  refine t_cond rfl (fun h => ?_) (fun h => ?_)
  · refine t_seq (t_reg ?_)
    refine And.intro (And.intro rfl (Nat.le_of_ble_eq_true rfl)) ?_
    refine t_ret (And.intro rfl (Exists.intro _ (And.intro rfl ?_)))
    simp only [doM, h, cond_true]; rfl
  · refine t_skip ?_
    refine t_seq (t_seq (t_reg ?_))
    refine t_block ?_
    have hbel : ∀ x : Cla, belL 3 x.cells = true := fun x => rfl
    have hE : ∀ (i : Int), ((doE cs i).all fun p => bel 3 p.2) = true := by
      intro i
      simp only [List.all_cons, bel, bel_rows hbel]; rfl
    have hH : ((doH to a).all (belO 3)) = true := rfl
    refine t_keepAs (m := 3) [15, 14, 13, 6, 5, 4] (E'' := doE cs 0) (H'' := doH to a) rfl rfl (by decide) (hE _) hH ?_
    refine t_loop (fun n E H => ∃ i, i ≤ cs.length ∧ n = cs.length - i ∧ cs.find? (fun c => c.matches to a.tags) = (cs.drop i).find? (fun c => c.matches to a.tags) ∧ H = doH to a ∧ E = doE cs (i : Nat))
      ⟨0, Nat.zero_le _, rfl, rfl, rfl, rfl⟩ ?_
    rintro n E H ⟨i, hi, rfl, hfind, rfl, rfl⟩
    refine t_seq (t_reg ?_)
    refine t_seq (t_cond rfl (fun hlt0 => ?_) (fun hge0 => ?_))
    · have hlt : i < cs.length := by simpa using hlt0
      have hw : IntKind.i64.wrap ((i : Nat) + 1) = ((i + 1 : Nat) : Int) := by rw [w64 (by omega) (by omega)]; rfl
      have hdrop : cs.drop i = cs[i] :: cs.drop (i + 1) := List.drop_eq_getElem_cons hlt
      refine t_skip ?_
      refine t_seq (t_block ?_)
      refine t_seq (t_reg ?_)
      refine And.intro (Int.natCast_nonneg i) (Exists.intro (cs[i]).cells (And.intro (row_at hlt) (And.intro rfl ?_)))
      refine Exists.intro _ (And.intro rfl ?_)
      refine And.intro (And.intro rfl (Nat.le_of_ble_eq_true rfl)) ?_
      refine t_seq (t_seq (t_reg ?_))
      refine Or.inl (Exists.intro _ (Exists.intro _ (And.intro (clause_Matches_ev cs[i] to a.tags) (And.intro rfl (Or.inl (And.intro rfl ?_))))))
      refine t_cond rfl (fun hm => ?_) (fun hm => ?_)
      · have hm' : (cs[i]).matches to a.tags = false := by simpa using hm
        refine t_exit ?_
        refine t_reg ?_
        refine Exists.intro (cs.length - (i + 1)) (Exists.intro (doE cs ((i + 1 : Nat) : Int)) (Exists.intro 3 (And.intro (by omega) (And.intro (keepAs (H'' := doH to a) [15, 14, 13, 6, 5, 4] ?_ rfl (Nat.zero_le _) (hE _) hH) ⟨i + 1, hlt, rfl, ?_, rfl, rfl⟩))))
        · rw [← hw]; rfl
        · rw [hfind, hdrop, List.find?_cons, hm']
      · have hm' : (cs[i]).matches to a.tags = true := by simpa using hm
        have hres : doM cs to a = (cs[i]).act a := by
          simp only [doM, h, cond_false]
          rw [hfind, hdrop, List.find?_cons, hm']
        refine t_skip ?_
        refine t_seq (t_seq (t_reg ?_))
        refine t_cond rfl (fun hd => ?_) (fun hd => ?_)
        · refine t_seq (t_reg ?_)
          refine And.intro (And.intro rfl (Nat.le_of_ble_eq_true rfl)) ?_
          refine t_ret (And.intro rfl (Exists.intro _ (And.intro rfl ?_)))
          rw [hres]; simp only [Cla.act, hd, cond_true]; rfl
        · refine t_skip ?_
          refine t_seq (t_reg ?_)
          refine And.intro (And.intro rfl (Nat.le_of_ble_eq_true rfl)) ?_
          refine t_seq (t_reg ?_)
          refine And.intro (And.intro rfl (Nat.le_of_ble_eq_true rfl)) ?_
          refine t_seq (t_seq (t_reg ?_))
          refine And.intro (fun hp => ?_) (fun hp => ?_)
          · repeat refine lit_t rfl ?_
            refine t_cond rfl (fun hq => ?_) (fun hq => ?_)
            · refine t_reg ?_
              refine And.intro (And.intro rfl (Nat.le_of_ble_eq_true rfl)) ?_
              refine t_seq (t_reg ?_)
              refine And.intro (And.intro rfl (Nat.le_of_ble_eq_true rfl)) ?_
              refine t_ret (And.intro rfl (Exists.intro _ (And.intro rfl ?_)))
              rw [hres]; simp only [Cla.act, hd, hp, hq, cond_true, cond_false]; rfl
            · refine t_skip ?_
              refine t_seq (t_reg ?_)
              refine And.intro (And.intro rfl (Nat.le_of_ble_eq_true rfl)) ?_
              refine t_ret (And.intro rfl (Exists.intro _ (And.intro rfl ?_)))
              rw [hres]; simp only [Cla.act, hd, hp, hq, cond_true, cond_false]; rfl
          · repeat refine lit_f rfl ?_
            refine t_cond rfl (fun hq => Bool.noConfusion hq) (fun hq => ?_)
            refine t_skip ?_
            refine t_seq (t_reg ?_)
            refine And.intro (And.intro rfl (Nat.le_of_ble_eq_true rfl)) ?_
            refine t_ret (And.intro rfl (Exists.intro _ (And.intro rfl ?_)))
            rw [hres]; simp only [Cla.act, hd, hp, Bool.not_true, cond_true, cond_false]; rfl
    · have hge : i = cs.length := by
        have : ¬ ((i : Int) < ((cs.map Cla.cells).length : Nat)) := by simpa using hge0
        simp at this; omega
      subst hge
      refine t_exit ?_
      refine t_seq (t_reg ?_)
      refine And.intro (And.intro rfl (Nat.le_of_ble_eq_true rfl)) ?_
      refine t_ret (And.intro rfl (Exists.intro _ (And.intro rfl ?_)))
      have hn : cs.find? (fun c => c.matches to a.tags) = none := by rw [hfind, List.drop_length]; rfl
      simp only [doM, h, hn, cond_false]; rfl
end Go.Proofs.Ythpcjekmgohelaa.Ab

/- FUNCTIONS, 7: what a node learns over an edge. -/
namespace Go.Proofs.Ythpcjekmgohelaa.Ab
open Go Go.Proofs
set_option linter.unusedVariables false
set_option linter.unusedSimpArgs false
variable {G : GI}

structure Edg where
  from_ : Int
  cost : Int
  exp : List Cla
  imp : List Cla
def Edg.cells (e : Edg) : List AVal := [.i .i64 e.from_, .i .i64 e.cost, .sl (e.exp.map Cla.cells), .sl (e.imp.map Cla.cells)]
def Edg.av (e : Edg) : AVal := .agg e.cells
def maxLen' : Int := 9223372036854775807
def Edg.ok (e : Edg) : Prop := (e.exp.length : Int) ≤ 9223372036854775807 ∧ (e.imp.length : Int) ≤ 9223372036854775807
def Pfx.zero : Pfx := ⟨0, 0⟩

def take (e : Edg) (a : Attr) : Attr :=
  bif !(doM e.exp Pfx.zero a).ok then Attr.zero else
  doM e.imp Pfx.zero { (doM e.exp Pfx.zero a) with
    cost := IntKind.i64.wrap ((doM e.exp Pfx.zero a).cost + (if (if 1000 < e.cost then 1000 else e.cost) > 1 then (if 1000 < e.cost then 1000 else e.cost) else 1)), pref := 100 }

theorem Cla.clean (x : Cla) : cleanL x.cells = true := rfl

theorem do_clean (cs : List Cla) (to : Pfx) (a : Attr) : cleanAll [.sl (cs.map Cla.cells), to.av, a.av] = true := by
  simp only [cleanAll, List.all_cons, Ab.clean, clean_rows Cla.clean]; rfl

theorem edge_Take_ev (e : Edg) (a : Attr) (he : e.ok) : EvP Try.prog G fn_edge_Take [e.av, a.av] (take e a).av := by
  refine evP c_edge_Take rfl ?_
  refine t_seq (t_reg ?_)
  refine t_seq (t_reg ?_)
  refine call_clean (clause_Do_ev e.exp Pfx.zero a he.1) (do_clean e.exp Pfx.zero a) ?_
  refine And.intro (And.intro rfl (Nat.le_of_ble_eq_true rfl)) ?_
  refine t_seq (t_seq (t_reg ?_))
  refine t_cond rfl (fun h => ?_) (fun h => ?_)
  · refine t_seq (t_reg ?_)
    refine And.intro (And.intro rfl (Nat.le_of_ble_eq_true rfl)) ?_
    refine t_ret (And.intro rfl (Exists.intro _ (And.intro rfl ?_)))
    simp only [take, h, cond_true]; rfl
  · refine t_skip ?_
    refine t_seq (t_reg ?_)
    refine And.intro (And.intro rfl (Nat.le_of_ble_eq_true rfl)) ?_
    refine t_seq (t_reg ?_)
    refine And.intro (And.intro rfl (Nat.le_of_ble_eq_true rfl)) ?_
    refine t_seq (t_reg ?_)
    refine call_clean (clause_Do_ev e.imp Pfx.zero { (doM e.exp Pfx.zero a) with
      cost := IntKind.i64.wrap ((doM e.exp Pfx.zero a).cost + (if (if 1000 < e.cost then 1000 else e.cost) > 1 then (if 1000 < e.cost then 1000 else e.cost) else 1)), pref := 100 } he.2) (do_clean e.imp Pfx.zero { (doM e.exp Pfx.zero a) with
      cost := IntKind.i64.wrap ((doM e.exp Pfx.zero a).cost + (if (if 1000 < e.cost then 1000 else e.cost) > 1 then (if 1000 < e.cost then 1000 else e.cost) else 1)), pref := 100 }) ?_
    refine And.intro (And.intro rfl (Nat.le_of_ble_eq_true rfl)) ?_
    refine t_ret (And.intro rfl (Exists.intro _ (And.intro rfl ?_)))
    simp only [take, h, cond_false]; rfl
end Go.Proofs.Ythpcjekmgohelaa.Ab

/- FUNCTIONS, 8: the best of routes. -/
namespace Go.Proofs.Ythpcjekmgohelaa.Ab
open Go Go.Proofs
set_option linter.unusedVariables false
set_option linter.unusedSimpArgs false
variable {G : GI}

def Attr.origin : Attr := ⟨true, 100, 0, 0⟩
theorem attr_Origin_ev : EvP Try.prog G fn_attr_Origin [] Attr.origin.av := by
  refine evP c_attr_Origin rfl ?_
  refine t_seq (t_reg ?_)
  refine t_seq (t_reg ?_)
  refine And.intro (And.intro rfl (Nat.le_of_ble_eq_true rfl)) ?_
  exact t_ret (And.intro rfl (Exists.intro _ (And.intro rfl rfl)))

def bestStep (acc a : Attr) : Attr := bif a.better acc then a else acc
def bestM (l : List Attr) : Attr := l.foldl bestStep Attr.zero

abbrev beE (al : List Attr) (i : Int) : Slots := [(8, .i .i64 i), (7, .i .i64 ((al.map Attr.cells).length : Nat)), (6, .sl (al.map Attr.cells)), (3, .ptr 1 0), (2, .ptr 0 0)]
abbrev beH (acc : Attr) : Heap := [.box Attr.zero.cells, .box acc.cells]

theorem attr_Best_ev (al : List Attr) (hl : (al.length : Int) ≤ 9223372036854775807) : EvP Try.prog G fn_attr_Best [.sl (al.map Attr.cells)] (bestM al).av := by
  refine evP c_attr_Best rfl ?_
  refine t_seq (t_reg ?_)
  refine t_seq (t_reg ?_)
  refine t_seq (t_seq (t_reg ?_))
  refine t_block ?_
  have hbel : ∀ x : Attr, belL 2 x.cells = true := fun x => rfl
  have hE : ∀ (i : Int), ((beE al i).all fun p => bel 2 p.2) = true := by
    intro i
    simp only [List.all_cons, bel, bel_rows hbel]; rfl
  have hH : ∀ acc : Attr, ((beH acc).all (belO 2)) = true := fun _ => rfl
  refine t_keepAs (m := 2) [8, 7, 6, 3, 2] (E'' := beE al 0) (H'' := beH Attr.zero) rfl rfl (by decide) (hE _) (hH _) ?_
  refine t_loop (fun n E H => ∃ i, i ≤ al.length ∧ n = al.length - i ∧ H = beH (bestM (al.take i)) ∧ E = beE al (i : Nat)) ⟨0, Nat.zero_le _, rfl, rfl, rfl⟩ ?_
  rintro n E H ⟨i, hi, rfl, rfl, rfl⟩
  refine t_seq (t_reg ?_)
  refine t_seq (t_cond rfl (fun hlt0 => ?_) (fun hge0 => ?_))
  · have hlt : i < al.length := by simpa using hlt0
    have hw : IntKind.i64.wrap ((i : Nat) + 1) = ((i + 1 : Nat) : Int) := by rw [w64 (by omega) (by omega)]; rfl
    have hstep : bestM (al.take (i + 1)) = bestStep (bestM (al.take i)) al[i] := by
      unfold bestM; rw [List.take_succ_eq_append_getElem hlt, List.foldl_append]; rfl
    refine t_skip ?_
    refine t_seq (t_block ?_)
    refine t_seq (t_reg ?_)
    refine And.intro (Int.natCast_nonneg i) (Exists.intro (al[i]).cells (And.intro (row_at hlt) (And.intro rfl ?_)))
    refine Exists.intro _ (And.intro rfl ?_)
    refine And.intro (And.intro rfl (Nat.le_of_ble_eq_true rfl)) ?_
    refine t_seq (t_reg ?_)
    refine Or.inl (Exists.intro _ (Exists.intro _ (And.intro (attr_Better_ev al[i] (bestM (al.take i))) (And.intro rfl (Or.inl (And.intro rfl ?_))))))
    refine t_cond rfl (fun hb => ?_) (fun hb => ?_)
    · refine t_reg ?_
      refine And.intro (And.intro rfl (Nat.le_of_ble_eq_true rfl)) ?_
      refine t_reg ?_
      refine Exists.intro (al.length - (i + 1)) (Exists.intro (beE al ((i + 1 : Nat) : Int)) (Exists.intro 2 (And.intro (by omega) (And.intro (keepAs (H'' := beH (al[i])) [8, 7, 6, 3, 2] ?_ rfl (Nat.zero_le _) (hE _) (hH _)) ⟨i + 1, hlt, rfl, ?_, rfl⟩))))
      · rw [← hw]; rfl
      · rw [hstep, show bestStep (bestM (al.take i)) al[i] = al[i] by simp only [bestStep, hb, cond_true]]; rfl
    · refine t_skip ?_
      refine t_reg ?_
      refine Exists.intro (al.length - (i + 1)) (Exists.intro (beE al ((i + 1 : Nat) : Int)) (Exists.intro 2 (And.intro (by omega) (And.intro (keepAs (H'' := beH (bestM (al.take i))) [8, 7, 6, 3, 2] ?_ rfl (Nat.zero_le _) (hE _) (hH _)) ⟨i + 1, hlt, rfl, ?_, rfl⟩))))
      · rw [← hw]; rfl
      · rw [hstep, show bestStep (bestM (al.take i)) al[i] = bestM (al.take i) by simp only [bestStep, hb, cond_false]]; rfl
  · have hge : i = al.length := by
      have : ¬ ((i : Int) < ((al.map Attr.cells).length : Nat)) := by simpa using hge0
      simp at this; omega
    subst hge
    rw [List.take_length]
    refine t_exit ?_
    refine t_seq (t_reg ?_)
    refine And.intro (And.intro rfl (Nat.le_of_ble_eq_true rfl)) ?_
    exact t_ret (And.intro rfl (Exists.intro _ (And.intro rfl rfl)))
end Go.Proofs.Ythpcjekmgohelaa.Ab

/- FUNCTIONS, 9: networks: what nodes are offered, and should have. -/
namespace Go.Proofs.Ythpcjekmgohelaa.Ab
open Go Go.Proofs
set_option linter.unusedVariables false
set_option linter.unusedSimpArgs false
variable {G : GI}

def bcells (x : Bool) : List AVal := [.b x]
def icells (x : Int) : List AVal := [.i .i64 x]
def ecells (es : List Edg) : List AVal := [.sl (es.map Edg.cells)]
structure Netw where
  origin : List Bool
  static : List Int
  edges : List (List Edg)
def Netw.cells (n : Netw) : List AVal := [.sl (n.origin.map bcells), .sl (n.static.map icells), .sl (n.edges.map ecells)]
def Netw.av (n : Netw) : AVal := .agg n.cells
theorem Edg.clean (e : Edg) : cleanL e.cells = true := by
  simp only [Edg.cells, cleanL, Ab.clean, clean_rows Cla.clean]; rfl
theorem ecells_clean (es : List Edg) : cleanL (ecells es) = true := by
  simp only [ecells, cleanL, clean, clean_rows Edg.clean]; rfl
theorem Netw.clean (n : Netw) : cleanL n.cells = true := by
  simp only [Netw.cells, cleanL, Ab.clean, clean_rows (f := bcells) (fun _ => rfl), clean_rows (f := icells) (fun _ => rfl), clean_rows ecells_clean]; rfl
theorem Attr.clean (a : Attr) : cleanL a.cells = true := rfl
/-- Lists that fit into memory. -/
structure Netw.ok (n : Netw) : Prop where
  origin : (n.origin.length : Int) ≤ 140737488355328
  static : (n.static.length : Int) ≤ 140737488355328
  edges : (n.edges.length : Int) ≤ 140737488355328
  edge : ∀ es ∈ n.edges, (es.length : Int) ≤ 1000000
  cla : ∀ es ∈ n.edges, ∀ e ∈ es, e.ok

def fixedM (n : Netw) (k : Int) : Bool :=
  decide (0 ≤ k ∧ k < n.origin.length) && (n.origin.getD k.toNat false || (decide (k < n.static.length) && decide (0 ≤ n.static.getD k.toNat 0)))

theorem stable_Fixed_ev (n : Netw) (k : Int) : EvP Try.prog G fn_stable_Fixed [n.av, .i .i64 k] (.b (fixedM n k)) := by
  refine evP c_stable_Fixed rfl ?_
  (repeat' first | refine t_seq ?_ | refine t_reg ?_ | refine t_skip ?_ | refine t_scope ?_ | refine t_ret ?_ | refine t_exit ?_ | refine lit_t rfl ?_ | refine lit_f rfl ?_ | refine And.intro (And.intro rfl (Nat.le_of_ble_eq_true rfl)) ?_ | refine c_t rfl ?_ | refine c_f rfl ?_ | (refine sp_t (fun h => ?_) (fun h => ?_) <;> (try simp only [List.length_map] at h)) | (refine sp_f (fun h => ?_) (fun h => ?_) <;> (try simp only [List.length_map] at h)) | refine sq_t (fun h => ?_) (fun h => ?_) | refine sq_f (fun h => ?_) (fun h => ?_) | refine sb_t (fun h => ?_) (fun h => ?_) | refine sb_f (fun h => ?_) (fun h => ?_) | (refine c_nd rfl (fun h => ?_) (fun h => ?_) <;> (try simp only [List.length_map] at h)) | (refine c_d rfl (fun h => ?_) (fun h => ?_) <;> (try simp only [List.length_map] at h)) | refine c_nq rfl (fun h => ?_) (fun h => ?_) | refine c_q rfl (fun h => ?_) (fun h => ?_) | refine c_nb rfl (fun h => ?_) (fun h => ?_) | refine c_b rfl (fun h => ?_) (fun h => ?_) | refine And.intro (by omega) (Exists.intro _ (And.intro (row_atN (by omega)) (And.intro rfl ?_))) | refine And.intro rfl (Exists.intro _ (And.intro rfl ?_)) | refine Exists.intro _ (And.intro rfl ?_))
  all_goals refine congrArg some (congrArg AVal.b ?_)
  all_goals simp [fixedM, *]

theorem take_args_clean (e : Edg) (a : Attr) : cleanAll [e.av, a.av] = true := by
  simp only [cleanAll, List.all_cons, Ab.clean, Edg.av, Edg.clean, Attr.av]; rfl

def offerOf (l : List Attr) (e : Edg) : Attr := if 0 ≤ e.from_ ∧ e.from_ < l.length then take e (l.getD e.from_.toNat Attr.zero) else Attr.zero
def offersM (n : Netw) (l : List Attr) (k : Int) : List Attr := if 0 ≤ k ∧ k < n.edges.length then (n.edges.getD k.toNat []).map (offerOf l) else []

abbrev ofR (l : List Attr) (es : List Edg) (i : Nat) : List (List AVal) := ((es.take i).map (offerOf l)).map Attr.cells
abbrev ofE (l : List Attr) (es : List Edg) (i : Nat) : Slots := [(26, .i .i64 (i : Nat)), (25, .i .i64 ((es.map Edg.cells).length : Nat)), (24, .sl (es.map Edg.cells)), (7, own (ofR l es i) 1), (3, .ptr 0 0), (1, .sl (l.map Attr.cells))]
abbrev ofH (n : Netw) (l : List Attr) (es : List Edg) (i : Nat) : Heap := [.box n.cells, ownO 4 (ofR l es i)]

theorem stable_Offers_ev (n : Netw) (l : List Attr) (k : Int) (hn : n.ok) (hl : (l.length : Int) ≤ 9223372036854775807) : EvP Try.prog G fn_stable_Offers [n.av, .sl (l.map Attr.cells), .i .i64 k] (.sl ((offersM n l k).map Attr.cells)) := by
  refine evP c_stable_Offers rfl ?_
  (repeat' first | refine t_seq ?_ | refine t_reg ?_ | refine t_skip ?_ | refine t_scope ?_ | refine t_ret ?_ | refine t_exit ?_ | refine lit_t rfl ?_ | refine lit_f rfl ?_ | refine And.intro (And.intro rfl (Nat.le_of_ble_eq_true rfl)) ?_ | refine c_t rfl ?_ | refine c_f rfl ?_ | (refine sp_t (fun h => ?_) (fun h => ?_) <;> (try simp only [List.length_map] at h)) | (refine sp_f (fun h => ?_) (fun h => ?_) <;> (try simp only [List.length_map] at h)) | refine sq_t (fun h => ?_) (fun h => ?_) | refine sq_f (fun h => ?_) (fun h => ?_) | refine sb_t (fun h => ?_) (fun h => ?_) | refine sb_f (fun h => ?_) (fun h => ?_) | (refine c_nd rfl (fun h => ?_) (fun h => ?_) <;> (try simp only [List.length_map] at h)) | (refine c_d rfl (fun h => ?_) (fun h => ?_) <;> (try simp only [List.length_map] at h)) | refine c_nq rfl (fun h => ?_) (fun h => ?_) | refine c_q rfl (fun h => ?_) (fun h => ?_) | refine c_nb rfl (fun h => ?_) (fun h => ?_) | refine c_b rfl (fun h => ?_) (fun h => ?_) | refine And.intro (by omega) (Exists.intro _ (And.intro (row_atN (by omega)) (And.intro rfl ?_))) | refine And.intro rfl (Exists.intro _ (And.intro rfl ?_)) | refine Exists.intro _ (And.intro rfl ?_))
  · have : offersM n l k = [] := if_neg (by omega)
    rw [this]; rfl
  · have : offersM n l k = [] := if_neg (by omega)
    rw [this]; rfl
  have hk : k.toNat < n.edges.length := by omega
  generalize hes : n.edges[k.toNat] = es
  have hm : es ∈ n.edges := hes ▸ List.getElem_mem hk
  have hM : offersM n l k = es.map (offerOf l) := by
    unfold offersM
    rw [if_pos (by omega), List.getD_eq_getElem?_getD, List.getElem?_eq_getElem hk, ← hes]; rfl
  have hN := hn.edge es hm
  have c1 := clean_sl Edg.clean es
  have c2 := clean_sl Attr.clean l
  have c3 : ∀ i, cleanLL (ofR l es i) = true := fun i => clean_rows Attr.clean _
  have c4 : ∀ i, ∀ r ∈ ofR l es i, r.length = 4 := fun i => len_rows (f := Attr.cells) (fun _ => rfl) _
  refine t_range (es.map Edg.cells).length (by simp; omega) (fun i E H => i ≤ (es.map Edg.cells).length ∧ E = ofE l es i ∧ H = ofH n l es i) (ofE l es 0) (ofH n l es 0) ?_ ⟨Nat.zero_le _, rfl, rfl⟩ ?_ ?_ ?_
  · refine moveL [0, 9] rfl (by decide) ⟨.inr ⟨_, rfl, cvO_box n.clean⟩, .inl rfl, trivial⟩ ?_
    refine ⟨?_, ?_, ?_, ?_, ?_, ?_, trivial⟩ <;> (first | exact .cl _ rfl | exact .cl _ (by assumption) | exact cv_ptr (Nat.le_of_ble_eq_true rfl) rfl | exact .nilS | exact cv_own (Nat.le_of_ble_eq_true rfl) rfl | exact cv_row (Nat.le_of_ble_eq_true rfl) rfl | exact cv_mp (Nat.le_of_ble_eq_true rfl) rfl)
  · rintro i E H ⟨hi, rfl, rfl⟩; exact ⟨hi, rfl, rfl⟩
  · rintro i E H hlt ⟨hi, rfl, rfl⟩
    have hlt' : i < es.length := by simpa using hlt
    (repeat' first | refine t_seq ?_ | refine t_reg ?_ | refine t_skip ?_ | refine t_scope ?_ | refine t_ret ?_ | refine t_exit ?_ | refine lit_t rfl ?_ | refine lit_f rfl ?_ | refine And.intro (And.intro rfl (Nat.le_of_ble_eq_true rfl)) ?_ | refine c_t rfl ?_ | refine c_f rfl ?_)
    refine And.intro (Int.natCast_nonneg i) (Exists.intro _ (And.intro (row_at hlt') (And.intro rfl ?_)))
    generalize hx : es[i] = x
    have hstep : ofR l es (i + 1) = ofR l es i ++ [(offerOf l x).cells] := by rw [← hx]; simp only [ofR, List.take_succ_eq_append_getElem hlt', List.map_append]; rfl
    have hxo : x.ok := hn.cla es hm x (hx ▸ List.getElem_mem hlt')
    have c5 : (ofR l es i).length = i := by simp; omega
    (repeat' first | refine t_seq ?_ | refine t_reg ?_ | refine t_skip ?_ | refine t_scope ?_ | refine t_ret ?_ | refine t_exit ?_ | refine lit_t rfl ?_ | refine lit_f rfl ?_ | refine And.intro (And.intro rfl (Nat.le_of_ble_eq_true rfl)) ?_ | refine c_t rfl ?_ | refine c_f rfl ?_ | (refine sp_t (fun h => ?_) (fun h => ?_) <;> (try simp only [List.length_map] at h)) | (refine sp_f (fun h => ?_) (fun h => ?_) <;> (try simp only [List.length_map] at h)) | refine sq_t (fun h => ?_) (fun h => ?_) | refine sq_f (fun h => ?_) (fun h => ?_) | refine sb_t (fun h => ?_) (fun h => ?_) | refine sb_f (fun h => ?_) (fun h => ?_) | (refine c_nd rfl (fun h => ?_) (fun h => ?_) <;> (try simp only [List.length_map] at h)) | (refine c_d rfl (fun h => ?_) (fun h => ?_) <;> (try simp only [List.length_map] at h)) | refine c_nq rfl (fun h => ?_) (fun h => ?_) | refine c_q rfl (fun h => ?_) (fun h => ?_) | refine c_nb rfl (fun h => ?_) (fun h => ?_) | refine c_b rfl (fun h => ?_) (fun h => ?_) | refine And.intro (by omega) (Exists.intro _ (And.intro (row_atN (by omega)) (And.intro rfl ?_))) | (first | refine call_clean (edge_Take_ev x _ hxo) (take_args_clean x _) ?_ | refine mv_as (v := own (ofR l es i) 1) rfl ?_ | (refine Exists.intro [_] (And.intro rfl (And.intro (all_one rfl) (app_one (ofR l es i) 1 rfl rfl (c5) ?_ ?_))); omega)) | refine And.intro rfl (Exists.intro _ (And.intro rfl ?_)) | refine Exists.intro _ (And.intro rfl ?_))
    · have ho : offerOf l x = take x l[x.from_.toNat] := by simp [offerOf, *]
      refine And.intro rfl ⟨ofE l es (i + 1), ofH n l es (i + 1), moveL [0, 4] rfl (by decide) ?_ ?_, hlt, rfl, rfl⟩
      · exact ⟨.inr ⟨_, rfl, cvO_box n.clean⟩, .inr ⟨_, rfl, cvO_own_as (by rw [hstep, ho]; rfl) (c3 _) (c4 _)⟩, trivial⟩
      · refine ⟨?_, ?_, ?_, ?_, ?_, ?_, trivial⟩ <;> first | (first | exact .cl _ rfl | exact .cl _ (by assumption) | exact cv_ptr (Nat.le_of_ble_eq_true rfl) rfl | exact .nilS | exact cv_own (Nat.le_of_ble_eq_true rfl) rfl | exact cv_row (Nat.le_of_ble_eq_true rfl) rfl | exact cv_mp (Nat.le_of_ble_eq_true rfl) rfl) | exact cv_own_new (Nat.le_of_ble_eq_true rfl) (by rw [hstep]; simp) (by rw [hstep, List.length_append, c5]; rfl) rfl
    · have ho : offerOf l x = Attr.zero := by simp [offerOf]; omega
      refine And.intro rfl ⟨ofE l es (i + 1), ofH n l es (i + 1), moveL [0, 4] rfl (by decide) ?_ ?_, hlt, rfl, rfl⟩
      · exact ⟨.inr ⟨_, rfl, cvO_box n.clean⟩, .inr ⟨_, rfl, cvO_own_as (by rw [hstep, ho]; rfl) (c3 _) (c4 _)⟩, trivial⟩
      · refine ⟨?_, ?_, ?_, ?_, ?_, ?_, trivial⟩ <;> first | (first | exact .cl _ rfl | exact .cl _ (by assumption) | exact cv_ptr (Nat.le_of_ble_eq_true rfl) rfl | exact .nilS | exact cv_own (Nat.le_of_ble_eq_true rfl) rfl | exact cv_row (Nat.le_of_ble_eq_true rfl) rfl | exact cv_mp (Nat.le_of_ble_eq_true rfl) rfl) | exact cv_own_new (Nat.le_of_ble_eq_true rfl) (by rw [hstep]; simp) (by rw [hstep, List.length_append, c5]; rfl) rfl
    · have ho : offerOf l x = Attr.zero := by simp [offerOf]; omega
      refine And.intro rfl ⟨ofE l es (i + 1), ofH n l es (i + 1), moveL [0, 4] rfl (by decide) ?_ ?_, hlt, rfl, rfl⟩
      · exact ⟨.inr ⟨_, rfl, cvO_box n.clean⟩, .inr ⟨_, rfl, cvO_own_as (by rw [hstep, ho]; rfl) (c3 _) (c4 _)⟩, trivial⟩
      · refine ⟨?_, ?_, ?_, ?_, ?_, ?_, trivial⟩ <;> first | (first | exact .cl _ rfl | exact .cl _ (by assumption) | exact cv_ptr (Nat.le_of_ble_eq_true rfl) rfl | exact .nilS | exact cv_own (Nat.le_of_ble_eq_true rfl) rfl | exact cv_row (Nat.le_of_ble_eq_true rfl) rfl | exact cv_mp (Nat.le_of_ble_eq_true rfl) rfl) | exact cv_own_new (Nat.le_of_ble_eq_true rfl) (by rw [hstep]; simp) (by rw [hstep, List.length_append, c5]; rfl) rfl
  · rintro E H ⟨hi, rfl, rfl⟩
    (repeat' first | refine t_seq ?_ | refine t_reg ?_ | refine t_skip ?_ | refine t_scope ?_ | refine t_ret ?_ | refine t_exit ?_ | refine lit_t rfl ?_ | refine lit_f rfl ?_ | refine And.intro (And.intro rfl (Nat.le_of_ble_eq_true rfl)) ?_ | refine c_t rfl ?_ | refine c_f rfl ?_ | (refine sp_t (fun h => ?_) (fun h => ?_) <;> (try simp only [List.length_map] at h)) | (refine sp_f (fun h => ?_) (fun h => ?_) <;> (try simp only [List.length_map] at h)) | refine sq_t (fun h => ?_) (fun h => ?_) | refine sq_f (fun h => ?_) (fun h => ?_) | refine sb_t (fun h => ?_) (fun h => ?_) | refine sb_f (fun h => ?_) (fun h => ?_) | (refine c_nd rfl (fun h => ?_) (fun h => ?_) <;> (try simp only [List.length_map] at h)) | (refine c_d rfl (fun h => ?_) (fun h => ?_) <;> (try simp only [List.length_map] at h)) | refine c_nq rfl (fun h => ?_) (fun h => ?_) | refine c_q rfl (fun h => ?_) (fun h => ?_) | refine c_nb rfl (fun h => ?_) (fun h => ?_) | refine c_b rfl (fun h => ?_) (fun h => ?_) | refine And.intro (by omega) (Exists.intro _ (And.intro (row_atN (by omega)) (And.intro rfl ?_))) | (first | refine mv_as (v := own (ofR l es (es.map Edg.cells).length) 1) rfl ?_) | refine And.intro rfl (Exists.intro _ (And.intro rfl ?_)) | refine Exists.intro _ (And.intro rfl ?_))
    rw [hM]
    refine (frz_own (rows := ofR l es (es.map Edg.cells).length) (esz := 4) rfl (c3 _)).trans ?_
    simp
end Go.Proofs.Ythpcjekmgohelaa.Ab

/- ABSTRACT RUNS, 33: rows of data. -/
namespace Go.Proofs.Ythpcjekmgohelaa.Ab
open Go Go.RowKit
set_option linter.unusedSimpArgs false
set_option linter.unusedVariables false

section
variable {σ : Nat → Nat} {ok : Nat → Prop} {H : Heap} {fr : Nat → Prop}
theorem cvO_row_as {rows rows' : List (List AVal)} {esz : Nat} {fz : Bool} (e : rows' = rows) (h : cleanLL rows' = true) (hr : ∀ r ∈ rows', r.length = esz) : CvO σ ok H fr (.row esz rows fz) (.row esz rows' fz) := e ▸ cvO_row h hr
theorem cv_row_as {id id' n n' : Nat} (h : ok id) (e : σ id = id') (en : n' = n) : Cv σ ok H fr (.row id' n) (.row id n') := by subst e; subst en; exact .row id _ h
/-- A row that is written no more, as a list. -/
theorem cv_frz {rows rows' : List (List AVal)} {esz id n : Nat} {fz : Bool} (ho : H[id]? = some (.row esz rows fz)) (hf : fr id) (e : rows' = rows) (hn : rows.length = n) (h : cleanLL rows' = true) (hr : ∀ r ∈ rows', r.length = esz) : Cv σ ok H fr (.row id n) (.sl rows') := by
  subst e; subst hn
  exact .frz id esz rows' rows' fz ho hf rfl hr (cv_rows h hr)
theorem cv_frz_own {rows rows' : List (List AVal)} {esz id : Nat} (ho : H[id]? = some (ownO esz rows)) (hf : fr id) (e : rows' = rows) (h : cleanLL rows' = true) (hr : ∀ r ∈ rows', r.length = esz) : Cv σ ok H fr (own rows id) (.sl rows') := by
  subst e
  cases rows' with
  | nil => exact .nil
  | cons r rs => exact cv_frz ho hf rfl rfl h hr
theorem cv_i {k : IntKind} {n n' : Int} (e : n' = n) : Cv σ ok H fr (.i k n) (.i k n') := e ▸ .cl _ rfl
theorem cv_b {n n' : Bool} (e : n' = n) : Cv σ ok H fr (.b n) (.b n') := e ▸ .cl _ rfl
theorem cv_as {a b : AVal} (e : b = a) (h : clean b = true) : Cv σ ok H fr a b := e ▸ .cl _ h
/-- A struct whose cells stand as they stood. -/
theorem cvO_box_as {cs cs' : List AVal} (e : cs' = cs) (h : cleanL cs' = true) : CvO σ ok H fr (.box cs) (.box cs') := e ▸ cvO_box h
end
theorem still_of {ids : List Nat} {H' : Heap} {id : Nat} (h : (ids.all fun i => !Nat.beq i id) = true) (hl : ids.length = H'.length) : still ids H' id := by
  intro j o' hj hm e
  have hlt := (List.getElem?_eq_some_iff.1 hj).1
  unfold sOf at e
  rw [List.getD_eq_getElem?_getD, List.getElem?_eq_getElem (by omega)] at e
  have := List.all_eq_true.1 h _ (List.getElem_mem (show j < ids.length by omega))
  simp only [Option.getD_some] at e
  rw [e] at this
  simp at this
theorem frz_row {H : Heap} {rows rows' : List (List AVal)} {esz id n : Nat} {fz : Bool} (ho : H[id]? = some (.row esz rows fz)) (e : rows = rows') (hn : rows'.length = n) (hc : cleanLL rows' = true) : frz H (.row id n) = some (.sl rows') := by
  subst e; subst hn
  have h1 : thaw H (.row id rows.length) = .sl rows := by simp only [thaw, ho, if_true]
  have h2 : clean (.sl rows) = true := by simpa only [clean] using hc
  unfold frz
  rw [show clean (.row id rows.length) = false by simp [clean], h1, thaw_clean _ _ h2, thaw_clean _ _ h2]
  simp only [h2, Bool.false_eq_true, if_false, if_true]
theorem set_map {α : Type} {f : α → List AVal} {xs : List α} {i : Nat} {v : α} : (xs.map f).set i (f v) = (xs.set i v).map f := by
  rw [List.map_set]
theorem getD_of {α : Type} {xs : List α} {i : Nat} {d : α} (h : i < xs.length) : xs.getD i d = xs[i] := by
  rw [List.getD_eq_getElem?_getD, List.getElem?_eq_getElem h]; rfl
end Go.Proofs.Ythpcjekmgohelaa.Ab
