/- ABSTRACT RUNS, 25: preconditions in a form that is quickly worked out: slots in a list, values worked out before they are kept, conditions side by side. -/
import Derived.Test.YthpcjekmgohelaaLib7
set_option linter.unusedVariables false
set_option linter.unusedSimpArgs false
namespace Go.Proofs.Ythpcjekmgohelaa.Ab
open Go Go.RowKit
set_option linter.unusedSimpArgs false
set_option linter.unusedVariables false

abbrev Slots := List (Nat × AVal)
def look : Slots → Nat → AVal
  | [], _ => .u
  | (k, v) :: r, t => bif Nat.beq k t then v else look r t
def gv (E : Slots) : LOpd → AVal
  | .t n => look E n
  | .c v => v
theorem gv_ev (E : Slots) (x : LOpd) : x.ev (look E) = gv E x := by cases x <;> rfl
theorem look_set (E : Slots) (d : Nat) (v : AVal) : look ((d, v) :: E) = Env.set (look E) (some d) v := by
  funext t
  simp only [look, Env.set]
  by_cases h : t = d
  · subst h; simp
  · have : Nat.beq d t = false := by
      cases hb : Nat.beq d t with
      | false => rfl
      | true => exact absurd (Nat.eq_of_beq_eq_true hb).symm h
    rw [this, if_neg h]; rfl
def put (E : Slots) (d : Option Nat) (v : AVal) : Slots :=
  match d with
  | some d => (d, v) :: E
  | none => E
theorem look_put (E : Slots) (d : Option Nat) (v : AVal) : look (put E d v) = Env.set (look E) d v := by
  cases d with
  | none => rfl
  | some d => exact look_set E d v

/-- A value, worked out as far as its head. -/
def frc (v : AVal) (K : AVal → Prop) : Prop :=
  match v with
  | .u => K .u
  | .b x => K (.b x)
  | .i k n => K (.i k n)
  | .s l => K (.s l)
  | .agg cs => K (.agg cs)
  | .tup vs => K (.tup vs)
  | .sl rows => K (.sl rows)
  | .nilS => K .nilS
  | .row id len => K (.row id len)
  | .ptr id off => K (.ptr id off)
  | .eptr id esz i off => K (.eptr id esz i off)
  | .cptr cs off => K (.cptr cs off)
  | .mp id => K (.mp id)
  | .nilM => K .nilM
  | .fn f cap => K (.fn f cap)
  | .nilF => K .nilF
  | .nilP => K .nilP
  | .nilI => K .nilI
  | .ifc t v => K (.ifc t v)
theorem frc_eq (v : AVal) (K : AVal → Prop) : frc v K = K v := by cases v <;> rfl
def frcL : List AVal → (List AVal → Prop) → Prop
  | [], K => K []
  | x :: xs, K => frc x fun x => frcL xs fun xs => K (x :: xs)
theorem frcL_eq : ∀ (l : List AVal) (K : List AVal → Prop), frcL l K = K l
  | [], K => rfl
  | x :: xs, K => by simp only [frcL, frc_eq, frcL_eq xs]
/-- A list, worked out as far as its length. -/
def frcLs : List AVal → (List AVal → Prop) → Prop
  | [], K => K []
  | x :: xs, K => frcLs xs fun xs => K (x :: xs)
theorem frcLs_eq : ∀ (l : List AVal) (K : List AVal → Prop), frcLs l K = K l
  | [], K => rfl
  | x :: xs, K => by simp only [frcLs, frcLs_eq xs]
/-- The cells of a value that is stored. -/
def frcC (vs : List AVal) (K : List AVal → Prop) : Prop :=
  match vs with
  | [x] => frc x fun x => K [x]
  | vs => frcLs vs K
theorem frcC_eq (vs : List AVal) (K : List AVal → Prop) : frcC vs K = K vs := by
  unfold frcC; split <;> simp only [frc_eq, frcLs_eq]
def frcLL : List (List AVal) → (List (List AVal) → Prop) → Prop
  | [], K => K []
  | x :: xs, K => frcL x fun x => frcLL xs fun xs => K (x :: xs)
theorem frcLL_eq : ∀ (l : List (List AVal)) (K : List (List AVal) → Prop), frcLL l K = K l
  | [], K => rfl
  | x :: xs, K => by simp only [frcLL, frcL_eq, frcLL_eq xs]
/-- A value and its cells. -/
def frcV (v : AVal) (K : AVal → Prop) : Prop :=
  match v with
  | .agg cs => frcLs cs fun cs => K (.agg cs)
  | .tup vs => frcL vs fun vs => K (.tup vs)
  | v => frc v K
theorem frcV_eq (v : AVal) (K : AVal → Prop) : frcV v K = K v := by
  cases v <;> simp only [frcV, frc_eq, frcL_eq, frcLs_eq]
/-- A heap, worked out as far as its length. -/
def frcH : Heap → (Heap → Prop) → Prop
  | [], K => K []
  | o :: os, K => frcH os fun os => K (o :: os)
theorem frcH_eq : ∀ (l : Heap) (K : Heap → Prop), frcH l K = K l
  | [], K => rfl
  | o :: os, K => by simp only [frcH, frcH_eq os]

def vcBin (op : BinOp) (ek : EK) (x y : AVal) (K : AVal → Prop) : Prop :=
  match x, y with
  | .i k a, .i k' b => match op with
    | .shl => 0 ≤ b ∧ K (.i k (k.wrap (a * 2 ^ (min b.toNat k.bits))))
    | .shr => 0 ≤ b ∧ K (.i k (a.fdiv (2 ^ (min b.toNat k.bits))))
    | .quo => k = k' ∧ b ≠ 0 ∧ K (.i k (k.wrap (a.tdiv b)))
    | .rem => k = k' ∧ b ≠ 0 ∧ K (.i k (a.tmod b))
    | op => match binA op ek (.i k a) (.i k' b) with
      | some v => K v
      | none => False
  | .s a, .s b => match op with
    | .add => ((a.length + b.length : Nat) : Int) ≤ 9223372036854775807 ∧ K (.s (a ++ b))
    | op => match strBin op a b with
      | some v => K v
      | none => False
  | x, y => match binA op ek x y with
    | some v => K v
    | none => False

theorem vcBin_sound {op : BinOp} {ek : EK} {x y : AVal} {K : AVal → Prop} (h : vcBin op ek x y K) : ∃ v, binA op ek x y = some v ∧ K v := by
  unfold vcBin at h
  split at h
  · rename_i k a k' b
    split at h
    · exact ⟨_, by simp only [binA]; rw [if_neg (by omega)], h.2⟩
    · exact ⟨_, by simp only [binA]; rw [if_neg (by omega)], h.2⟩
    · obtain ⟨rfl, h1, h2⟩ := h
      exact ⟨_, by simp [binA, intBin, h1], h2⟩
    · obtain ⟨rfl, h1, h2⟩ := h
      exact ⟨_, by simp [binA, intBin, h1], h2⟩
    · split at h
      · rename_i v hv; exact ⟨v, hv, h⟩
      · exact h.elim
  · rename_i a b
    split at h
    · exact ⟨_, by simp only [binA, strBin]; rw [if_pos h.1], h.2⟩
    · split at h
      · rename_i v hv; exact ⟨v, hv, h⟩
      · exact h.elim
  · split at h
    · rename_i v hv; exact ⟨v, hv, h⟩
    · exact h.elim

/-- Operations that look at nothing but their operands. -/
def vcP (E : Slots) (op : LOp) (K : AVal → Prop) : Prop :=
  match op with
  | .mv x => frc (gv E x) K
  | .pick c a b => match gv E c with
    | .b t => (t = true → frc (gv E a) K) ∧ (t = false → frc (gv E b) K)
    | _ => False
  | .bin op ek x y => vcBin op ek (gv E x) (gv E y) fun v => frc v K
  | .slc x lo hi => match gv E x with
    | .s l => match lowOf (look E) lo, highOf (look E) l.length hi with
      | some a, some b => (0 ≤ a ∧ a ≤ b ∧ b ≤ l.length) ∧ K (.s ((l.take b.toNat).drop a.toNat))
      | _, _ => False
    | _ => False
  | .sls esz x lo hi => match gv E x with
    | .sl rows => match lowOf (look E) lo, highOf (look E) rows.length hi with
      | some a, some b => (0 ≤ a ∧ a ≤ b ∧ b ≤ rows.length ∧ (rows.headD (List.replicate esz .u)).length = esz) ∧ K (.sl ((rows.take b.toNat).drop a.toNat))
      | _, _ => False
    | _ => False
  | .iad esz x i => match gv E x, gv E i with
    | .sl rows, .i _ n => 0 ≤ n ∧ ∃ r, rows[n.toNat]? = some r ∧ r.length = esz ∧ K (.cptr r 0)
    | .row id len, .i _ n => (0 ≤ n ∧ n < len) ∧ K (.eptr id esz n.toNat 0)
    | _, _ => False
  | .iaa esz len x i => match gv E x, gv E i with
    | .ptr id o, .i _ n => (0 ≤ n ∧ n < len) ∧ K (.ptr id (o + n.toNat * esz))
    | .eptr id es j o, .i _ n => (0 ≤ n ∧ n < len) ∧ K (.eptr id es j (o + n.toNat * esz))
    | .cptr cs o, .i _ n => (0 ≤ n ∧ n < len) ∧ K (.cptr cs (o + n.toNat * esz))
    | _, _ => False
  | .idx x i => match gv E x, gv E i with
    | .s l, .i _ n => 0 ≤ n ∧ ∃ c, l[n.toNat]? = some c ∧ K (.i .u8 c.toNat)
    | _, _ => False
  | .ida esz len ag x i => match gv E x, gv E i with
    | .agg cs, .i _ n => (0 ≤ n ∧ n < len) ∧ ∃ v, ldCells cs (n.toNat * esz) esz ag = some v ∧ frcV v K
    | _, _ => False
  | op => match evalP (look E) op with
    | some v => frcV v K
    | none => False

theorem vcP_sound {E : Slots} {op : LOp} {K : AVal → Prop} (h : vcP E op K) : ∃ v, evalP (look E) op = some v ∧ K v := by
  have dflt : (match evalP (look E) op with
      | some v => frcV v K
      | none => False) → ∃ v, evalP (look E) op = some v ∧ K v := by
    intro h
    split at h
    · rename_i v hv; exact ⟨v, hv, by rwa [frcV_eq] at h⟩
    · exact h.elim
  cases op
  case mv x =>
    simp only [vcP, frc_eq] at h
    exact ⟨_, by simp only [evalP, gv_ev], h⟩
  case pick c a b =>
    simp only [vcP, frc_eq] at h
    split at h
    · rename_i t heq
      cases t with
      | true => exact ⟨_, by simp only [evalP, gv_ev, heq], h.1 rfl⟩
      | false => exact ⟨_, by simp only [evalP, gv_ev, heq], h.2 rfl⟩
    · exact h.elim
  case bin op ek x y =>
    simp only [vcP, frc_eq] at h
    obtain ⟨v, h1, h2⟩ := vcBin_sound h
    exact ⟨v, by simp only [evalP, gv_ev, h1], h2⟩
  case slc x lo hi =>
    simp only [vcP] at h
    split at h
    · rename_i l heq
      split at h
      · rename_i a b ha hb
        exact ⟨_, by simp only [evalP, gv_ev, heq, ha, hb]; rw [if_pos h.1], h.2⟩
      · exact h.elim
    · exact h.elim
  case sls esz x lo hi =>
    simp only [vcP] at h
    split at h
    · rename_i l heq
      split at h
      · rename_i a b ha hb
        exact ⟨_, by simp only [evalP, gv_ev, heq, ha, hb]; rw [if_pos h.1], h.2⟩
      · exact h.elim
    · exact h.elim
  case iad esz x i =>
    simp only [vcP] at h
    split at h
    · rename_i rows k n h1 h2
      obtain ⟨g1, r, g2, g3, g4⟩ := h
      exact ⟨_, by simp only [evalP, gv_ev, h1, h2, g2, if_pos g1, if_pos g3], g4⟩
    · rename_i id len k n h1 h2
      exact ⟨_, by simp only [evalP, gv_ev, h1, h2]; rw [if_pos h.1], h.2⟩
    · exact h.elim
  case iaa esz len x i =>
    simp only [vcP] at h
    split at h
    · rename_i id o k n h1 h2
      exact ⟨_, by simp only [evalP, gv_ev, h1, h2]; rw [if_pos h.1], h.2⟩
    · rename_i id es j o k n h1 h2
      exact ⟨_, by simp only [evalP, gv_ev, h1, h2]; rw [if_pos h.1], h.2⟩
    · rename_i cs o k n h1 h2
      exact ⟨_, by simp only [evalP, gv_ev, h1, h2]; rw [if_pos h.1], h.2⟩
    · exact h.elim
  case idx x i =>
    simp only [vcP] at h
    split at h
    · rename_i l k n h1 h2
      obtain ⟨g1, c, g2, g3⟩ := h
      exact ⟨_, by simp only [evalP, gv_ev, h1, h2, if_pos g1, g2, Option.map_some], g3⟩
    · exact h.elim
  case ida esz len ag x i =>
    simp only [vcP] at h
    split at h
    · rename_i cs k n h1 h2
      obtain ⟨g1, v, g2, g3⟩ := h
      rw [frcV_eq] at g3
      exact ⟨v, by simp only [evalP, gv_ev, h1, h2, if_pos g1, g2], g3⟩
    · exact h.elim
  all_goals exact dflt h

theorem evalP_heapy {e : Env} {op : LOp} (h : op.heapy = true) : evalP e op = none := by
  cases op <;> simp only [LOp.heapy, reduceCtorEq] at h <;> rfl

/-- What append does. -/
def vcApp (esz bytes : Nat) (sv : AVal) (H : Heap) (new : List (List AVal)) (K : AVal → Heap → Prop) : Prop :=
  match sv with
  | .nilS => (new = [] → K .nilS H) ∧ (new ≠ [] → (new.length * bytes ≤ 140737488355328 ∧ new.length ≤ 9223372036854775807) ∧ frcH (H ++ [.row esz new false]) fun H' => K (.row H.length new.length) H')
  | .row id len => match H[id]? with
    | some (.row esz' rows false) => (esz = esz' ∧ rows.length = len ∧ (len + new.length) * bytes ≤ 140737488355328 ∧ len + new.length ≤ 9223372036854775807) ∧
        frcH (H.set id .dead ++ [.row esz (rows ++ new) false]) fun H' => K (.row H.length (len + new.length)) H'
    | _ => False
  | _ => False

/-- Operations that look at the heap. -/
def vcH (E : Slots) (H : Heap) (op : LOp) (K : AVal → Heap → Prop) : Prop :=
  match op with
  | .load n ag p => match gv E p with
    | .cptr cs o => ∃ v, ldCells cs o n ag = some v ∧ frcV v fun v => K v H
    | .ptr id o => match H[id]? with
      | some (.box cs) => match ldCells cs o n ag with
        | some v => frcV v fun v => K v H
        | none => False
      | _ => False
    | .eptr id esz i o => match H[id]? with
      | some (.row esz' rows _) => esz = esz' ∧ ∃ r, rows[i]? = some r ∧ ∃ v, ldCells r o n ag = some v ∧ frcV v fun v => K v H
      | _ => False
    | _ => False
  | .store n p x => match (gv E x).cells? with
    | some vs => match gv E p with
      | .ptr id o => match H[id]? with
        | some (.box cs) => (vs.length = n ∧ o + n ≤ cs.length) ∧ frcC vs fun vs => frcLs (setSeg cs o vs) fun cs' => frcH (H.set id (.box cs')) fun H' => K .u H'
        | _ => False
      | .eptr id esz i o => match H[id]? with
        | some (.row esz' rows false) => (vs.length = n ∧ esz = esz' ∧ o + n ≤ esz) ∧ ∃ r, rows[i]? = some r ∧ frcH (H.set id (.row esz (rows.set i (setSeg r o vs)) false)) fun H' => K .u H'
        | _ => False
      | _ => False
    | none => False
  | .msl esz bytes zero l c => match gv E l, gv E c with
    | .i _ n, .i _ m => (n = m ∧ 0 ≤ n ∧ n ≤ 9223372036854775807 ∧ bytes * n ≤ 281474976710656 ∧ zero.length = esz) ∧
        frcH (H ++ [.row esz (List.replicate n.toNat zero) false]) fun H' => K (.row H.length n.toNat) H'
    | _, _ => False
  | .app esz bytes s x => ∃ new, rowsOf H (gv E x) = some new ∧ (∀ r ∈ new, r.length = esz) ∧ vcApp esz bytes (gv E s) H new K
  | .cpy esz d s => ∃ new, rowsOf H (gv E s) = some new ∧ match gv E d with
    | .row id len => match H[id]? with
      | some (.row esz' rows false) => (esz = esz' ∧ rows.length = len ∧ ∀ r ∈ new, r.length = esz) ∧
          frcH (H.set id (.row esz (new.take len ++ rows.drop new.length) false)) fun H' => K (.i .i64 (min new.length len)) H'
      | _ => False
    | _ => False
  | .lkp kk zero ok m k => match gv E m with
    | .mp id => match H[id]? with
      | some (.map es) => ∃ res, findM kk (gv E k) es = some res ∧ (∀ v, res = some v → frcV (if ok then .tup [v, .b true] else v) fun v => K v H) ∧ (res = none → frcV (if ok then .tup [zero, .b false] else zero) fun v => K v H)
      | _ => False
    | _ => False
  | .mup kk m k x => match gv E m with
    | .mp id => match H[id]? with
      | some (.map es) => ∃ es', putM kk (gv E k) (gv E x) es = some es' ∧ frcH (H.set id (.map es')) fun H' => K .u H'
      | _ => False
    | _ => False
  | op => match evalH (look E) H op with
    | some (v, H') => frcV v fun v => frcH H' fun H' => K v H'
    | none => False

theorem vcH_sound {E : Slots} {H : Heap} {op : LOp} {K : AVal → Heap → Prop} (h : vcH E H op K) : ∃ v H', evalH (look E) H op = some (v, H') ∧ K v H' := by
  have dflt : (match evalH (look E) H op with
      | some (v, H') => frcV v fun v => frcH H' fun H' => K v H'
      | none => False) → ∃ v H', evalH (look E) H op = some (v, H') ∧ K v H' := by
    intro h
    split at h
    · rename_i v H' hv; exact ⟨v, H', hv, by rwa [frcV_eq, frcH_eq] at h⟩
    · exact h.elim
  have all_of : ∀ {new : List (List AVal)} {esz : Nat}, (∀ r ∈ new, r.length = esz) → new.all (fun r => r.length == esz) = true := fun h => List.all_eq_true.2 fun r hr => by simp [h r hr]
  cases op
  case load n ag p =>
    simp only [vcH, frcV_eq] at h
    split at h
    · rename_i cs o heq
      obtain ⟨v, h1, h2⟩ := h
      exact ⟨v, H, by simp only [evalH, gv_ev, heq, h1, Option.map_some], h2⟩
    · rename_i id o heq
      split at h
      · rename_i cs hob
        split at h
        · rename_i v hv
          exact ⟨v, H, by simp only [evalH, gv_ev, heq, hob, hv, Option.map_some], h⟩
        · exact h.elim
      · exact h.elim
    · rename_i id esz i o heq
      split at h
      · rename_i esz' rows fz hob
        obtain ⟨h1, r, h2, v, h3, h4⟩ := h
        exact ⟨v, H, by simp only [evalH, gv_ev, heq, hob, if_pos h1, h2, h3, Option.map_some], h4⟩
      · exact h.elim
    · exact h.elim
  case store n p x =>
    simp only [vcH, frcC_eq, frcLs_eq, frcH_eq] at h
    split at h
    · rename_i vs hvs
      split at h
      · rename_i id o heq
        split at h
        · rename_i cs hob
          exact ⟨_, _, by simp only [evalH, gv_ev, hvs, if_pos h.1.1, heq, hob, if_pos h.1.2], h.2⟩
        · exact h.elim
      · rename_i id esz i o heq
        split at h
        · rename_i esz' rows hob
          obtain ⟨⟨h1, h2, h3⟩, r, h4, h5⟩ := h
          subst h2
          exact ⟨_, _, by simp only [evalH, gv_ev, hvs, if_pos h1, heq, hob, h4]; rw [if_pos (by first | exact ⟨rfl, h3⟩ | exact ⟨trivial, h3⟩)], h5⟩
        · exact h.elim
      · exact h.elim
    · exact h.elim
  case msl esz bytes zero l c =>
    simp only [vcH, frcH_eq] at h
    split at h
    · rename_i k1 n k2 m h1 h2
      exact ⟨_, _, by simp only [evalH, gv_ev, h1, h2]; rw [if_pos h.1], h.2⟩
    · exact h.elim
  case app esz bytes s x =>
    simp only [vcH, vcApp, frcH_eq] at h
    obtain ⟨new, h1, h2, h3⟩ := h
    split at h3
    · rename_i heq
      by_cases hn : new = []
      · exact ⟨_, _, by simp only [evalH, gv_ev, h1, if_pos (all_of h2), heq, if_pos hn], h3.1 hn⟩
      · obtain ⟨h4, h5⟩ := h3.2 hn
        exact ⟨_, _, by simp only [evalH, gv_ev, h1, if_pos (all_of h2), heq, if_neg hn]; rw [if_pos h4], h5⟩
    · rename_i id len heq
      split at h3
      · rename_i esz' rows hob
        obtain ⟨h4, h5⟩ := h3
        exact ⟨_, _, by simp only [evalH, gv_ev, h1, if_pos (all_of h2), heq, hob]; rw [if_pos h4], h5⟩
      · exact h3.elim
    · exact h3.elim
  case cpy esz d s =>
    simp only [vcH, frcH_eq] at h
    obtain ⟨new, h1, h3⟩ := h
    split at h3
    · rename_i id len heq
      split at h3
      · rename_i esz' rows hob
        obtain ⟨⟨h4, h5, h6⟩, h7⟩ := h3
        exact ⟨_, _, by simp only [evalH, gv_ev, h1, heq, hob]; rw [if_pos ⟨h4, h5, all_of h6⟩], h7⟩
      · exact h3.elim
    · exact h3.elim
  case lkp kk zero ok m k =>
    simp only [vcH, frcV_eq] at h
    split at h
    · rename_i id heq
      split at h
      · rename_i es hob
        obtain ⟨res, h1, h2, h3⟩ := h
        cases res with
        | some v => exact ⟨_, _, by simp only [evalH, gv_ev, heq, hob, h1], h2 v rfl⟩
        | none => exact ⟨_, _, by simp only [evalH, gv_ev, heq, hob, h1], h3 rfl⟩
      · exact h.elim
    · exact h.elim
  case mup kk m k x =>
    simp only [vcH, frcH_eq] at h
    split at h
    · rename_i id heq
      split at h
      · rename_i es hob
        obtain ⟨es', h1, h2⟩ := h
        exact ⟨_, _, by simp only [evalH, gv_ev, heq, hob, h1], h2⟩
      · exact h.elim
    · exact h.elim
  all_goals exact dflt h

section
variable (P : Program) (G : GI)
def vcCall (mk : Bool) (f : FuncId) (args : List AVal) (H : Heap) (K : AVal → Heap → Prop) : Prop :=
  (∃ args' r, EvP P G f args' r ∧ frzAll H args = some args' ∧
    (((cleanAll args || flat r) = true ∧ frcV r fun r => K r H) ∨ ((cleanAll args || flat r) = false ∧ mk = true ∧ frcV r fun r => frcH (args.foldl fix H) fun H' => K r H'))) ∨
  (mk = true ∧ ∃ r H', EvS P G f args H r H' ∧ frcV r fun r => frcH H' fun H' => K r H')

def vcOp (E : Slots) (H : Heap) (op : LOp) (K : AVal → Heap → Prop) : Prop :=
  match op with
  | .call mk f args => vcCall P G mk f (args.map (gv E)) H K
  | .callv mk fx args => match gv E fx with
    | .fn f cap => callOk P f = true ∧ vcCall P G mk f (args.map (gv E) ++ cap) H K
    | _ => False
  | op => bif op.heapy then vcH E H op K else vcP E op fun v => K v H

def vcO (o : LOper) (E : Slots) (H : Heap) (K : Slots → Heap → Prop) : Prop :=
  match o.guard with
  | none => vcOp P G E H o.op fun v H' => K (put E o.dst v) H'
  | some (g, t) => match look E g with
    | .b t' => (t' = t → vcOp P G ((g, .b t) :: E) H o.op fun v H' => K (put ((g, .b t) :: E) o.dst v) H') ∧ (t' = !t → K (put ((g, .b !t) :: E) o.dst (.tup [])) H)
    | .tup _ => K (put E o.dst (.tup [])) H
    | _ => False

def vcR : List LOper → Slots → Heap → (Slots → Heap → Prop) → Prop
  | [], E, H, K => K E H
  | o :: os, E, H, K => vcO P G o E H fun E' H' => vcR os E' H' K
end

section
variable {P : Program} {G : GI}
theorem vcCall_sound {mk : Bool} {f : FuncId} {args : List AVal} {H : Heap} {K : AVal → Heap → Prop} (h : vcCall P G mk f args H K) : CallK P G mk f args H K := by
  rcases h with ⟨args', r, h1, h2, h3⟩ | ⟨h1, r, H', h2, h3⟩
  · refine .inl ⟨args', r, h2, h1, ?_⟩
    rcases h3 with ⟨h3, h4⟩ | ⟨h3, h4, h5⟩
    · rw [if_pos h3]; rwa [frcV_eq] at h4
    · rw [if_neg (by rw [h3]; decide)]; rw [frcV_eq, frcH_eq] at h5; exact ⟨h4, h5⟩
  · rw [frcV_eq, frcH_eq] at h3
    exact .inr ⟨h1, r, H', h2, h3⟩

theorem map_gv (E : Slots) (xs : List LOpd) : xs.map (fun x => x.ev (look E)) = xs.map (gv E) := List.map_congr_left fun x _ => gv_ev E x

theorem vcOp_sound {E : Slots} {H : Heap} {op : LOp} {K : AVal → Heap → Prop} (h : vcOp P G E H op K) : doOp P G (look E) H op K := by
  by_cases hcall : ∃ mk f args, op = .call mk f args
  · obtain ⟨mk, f, args, rfl⟩ := hcall
    simp only [doOp, map_gv]
    exact vcCall_sound h
  · by_cases hcallv : ∃ mk fx args, op = .callv mk fx args
    · obtain ⟨mk, fx, args, rfl⟩ := hcallv
      simp only [doOp, map_gv, gv_ev]
      simp only [vcOp] at h
      split at h
      · rename_i f cap heq; simp only [heq]; exact ⟨h.1, vcCall_sound h.2⟩
      · exact h.elim
    · have h1 : ∀ mk f args, op ≠ .call mk f args := fun mk f args e => hcall ⟨mk, f, args, e⟩
      have h2 : ∀ mk f args, op ≠ .callv mk f args := fun mk f args e => hcallv ⟨mk, f, args, e⟩
      rw [doOp_plain h1 h2]
      have h' : (bif op.heapy then vcH E H op K else vcP E op fun v => K v H) := by
        cases op <;> first | exact h | exact absurd rfl (h1 _ _ _) | exact absurd rfl (h2 _ _ _)
      unfold plainOp
      cases hh : op.heapy with
      | true =>
        rw [hh] at h'
        rw [evalP_heapy hh]
        obtain ⟨v, H', g1, g2⟩ := vcH_sound h'
        rw [g1]; exact g2
      | false =>
        rw [hh] at h'
        obtain ⟨v, g1, g2⟩ := vcP_sound h'
        rw [g1]; exact g2

theorem look_back {E : Slots} {g : Nat} {t : Bool} (h : look E g = .b t) : look ((g, .b t) :: E) = look E := by
  rw [look_set]
  funext j
  simp only [Env.set]
  by_cases e : j = g
  · subst e; rw [if_pos rfl, h]
  · rw [if_neg e]

theorem vcO_sound {o : LOper} {E : Slots} {H : Heap} {K : Slots → Heap → Prop} (h : vcO P G o E H K) : wpO P G o (look E) H fun e' H' => ∃ E', e' = look E' ∧ K E' H' := by
  obtain ⟨d, op, g⟩ := o
  cases g with
  | none =>
    simp only [vcO] at h
    simp only [wpO]
    obtain ⟨v, H', h1, h2⟩ := doOp_split.1 (vcOp_sound h)
    exact doOp_split.2 ⟨v, H', h1, _, (look_put _ _ _).symm, h2⟩
  | some p =>
    obtain ⟨g, t⟩ := p
    simp only [vcO] at h
    simp only [wpO]
    split at h
    · rename_i t' heq
      obtain ⟨h1, h2⟩ := h
      rw [heq]
      simp only
      by_cases ht : t' = t
      · subst ht
        rw [if_pos rfl]
        obtain ⟨v, H', g1, g2⟩ := doOp_split.1 (vcOp_sound (h1 rfl))
        rw [look_back heq] at g1
        exact doOp_split.2 ⟨v, H', g1, _, by rw [look_put, look_back heq], g2⟩
      · rw [if_neg ht]
        have ht' : t' = !t := by cases t' <;> cases t <;> simp_all
        subst ht'
        exact ⟨_, by rw [look_put, look_back heq], h2 rfl⟩
    · rename_i vs heq
      rw [heq]
      exact ⟨_, (look_put _ _ _).symm, h⟩
    · exact h.elim

theorem vcR_sound : ∀ {os : List LOper} {E : Slots} {H : Heap} {K : Slots → Heap → Prop}, vcR P G os E H K → wpR P G os (look E) H fun e' H' => ∃ E', e' = look E' ∧ K E' H'
  | [], E, H, K, h => ⟨E, rfl, h⟩
  | o :: os, E, H, K, h => by
    refine wpO_mono (vcO_sound h) ?_
    rintro e' H' ⟨E', rfl, hk⟩
    exact vcR_sound hk
end

/-! ### Regions with loads and stores of different variables -/
section
variable (P : Program) (G : GI)
def footV (o : LOper) (s : Nat) (E : Slots) : Prop :=
  match o.boxy with
  | some p => match gv E p with
    | .ptr s' _ => s' = s
    | _ => False
  | none => True
def vcRD : List (LOper × Nat) → Slots → Heap → (Slots → Heap → Prop) → Prop
  | [], E, H, K => K E H
  | (o, s) :: os, E, H, K => footV o s E ∧ vcO P G o E H fun E' H' => vcRD os E' H' K
end
def zipD : List LOper → List Nat → List (LOper × Nat)
  | [], _ => []
  | o :: os, [] => (o, 0) :: zipD os []
  | o :: os, s :: ss => (o, s) :: zipD os ss
theorem zipD_eq : ∀ (ops : List LOper) (s : List Nat), zipD ops s = (List.range ops.length).map fun i => (ops.getD i default, s.getD i 0)
  | [], s => rfl
  | o :: os, [] => by
    rw [List.length_cons, List.range_succ_eq_map, List.map_cons, List.map_map]
    simp only [zipD, zipD_eq os []]
    rfl
  | o :: os, s :: ss => by
    rw [List.length_cons, List.range_succ_eq_map, List.map_cons, List.map_map]
    simp only [zipD, zipD_eq os ss]
    rfl

theorem vcRD_sound {P : Program} {G : GI} : ∀ {os : List (LOper × Nat)} {E : Slots} {H : Heap} {K : Slots → Heap → Prop}, vcRD P G os E H K → wpRD P G os (look E) H fun e' H' => ∃ E', e' = look E' ∧ K E' H'
  | [], E, H, K, h => ⟨E, rfl, h⟩
  | (o, s) :: os, E, H, K, h => by
    refine ⟨fun p hp => ?_, wpO_mono (vcO_sound h.2) ?_⟩
    · have hf := h.1
      unfold footV at hf
      rw [hp] at hf
      simp only at hf
      split at hf
      · rename_i s' off heq
        subst hf
        exact ⟨off, by rw [gv_ev]; exact heq⟩
      · exact hf.elim
    · rintro e' H' ⟨E', rfl, hk⟩
      exact vcRD_sound hk
end Go.Proofs.Ythpcjekmgohelaa.Ab

/- ABSTRACT RUNS, 26: triples. -/
namespace Go.Proofs.Ythpcjekmgohelaa.Ab
open Go Go.RowKit
set_option linter.unusedSimpArgs false
set_option linter.unusedVariables false

mutual
/-- All numbers in it are below a bound. -/
def bel (m : Nat) : AVal → Bool
  | .row id _ => Nat.blt id m
  | .ptr id _ => Nat.blt id m
  | .eptr id _ _ _ => Nat.blt id m
  | .mp id => Nat.blt id m
  | .agg cs => belL m cs
  | .tup vs => belL m vs
  | .sl rows => belLL m rows
  | .cptr cs _ => belL m cs
  | .fn _ cap => belL m cap
  | .ifc _ v => bel m v
  | .u => true
  | .b _ => true
  | .i _ _ => true
  | .s _ => true
  | .nilS => true
  | .nilM => true
  | .nilF => true
  | .nilP => true
  | .nilI => true
def belL (m : Nat) : List AVal → Bool
  | [] => true
  | v :: vs => bel m v && belL m vs
def belLL (m : Nat) : List (List AVal) → Bool
  | [] => true
  | v :: vs => belL m v && belLL m vs
end
def belO (m : Nat) : AObj → Bool
  | .box cs => belL m cs
  | .row _ rows _ => belLL m rows
  | .map es => belL m (es.map (·.1)) && belL m (es.map (·.2))
  | .dead => true

theorem belL_all (m : Nat) : ∀ vs : List AVal, belL m vs = vs.all (bel m)
  | [] => by simp [belL]
  | v :: vs => by simp [belL, belL_all m vs]
theorem belLL_all (m : Nat) : ∀ vs : List (List AVal), belLL m vs = vs.all fun r => r.all (bel m)
  | [] => by simp [belLL]
  | v :: vs => by simp [belLL, belL_all, belLL_all m vs]

theorem Rel.bel {R R' : RP} {m : Nat} (hF : ∀ b, R.F b → R'.F b ∧ R'.w.heap[b]? = R.w.heap[b]?) (hβ : R'.β = R.β) (hκ : R'.κ = R.κ) (hN : ∀ id, id < m → id < R.N → id < R'.N) {v : Value} {a : AVal} (h : Rel R v a) : bel m a = true → Rel R' v a := by
  induction h with
  | u v => exact fun _ => .u v
  | b x => exact fun _ => .b x
  | i k n => exact fun _ => .i k n
  | s t => exact fun _ => .s t
  | agg vs cs hn hl _ ih => exact fun hc => .agg vs cs hn hl (fun j hj => ih j hj (all_getD (by rw [← belL_all]; simpa [Ab.bel] using hc) hj))
  | tup vs cs hn _ ih => exact fun hc => .tup vs cs hn (fun j hj => ih j hj (all_getD (by rw [← belL_all]; simpa [Ab.bel] using hc) hj))
  | sl A c rows esz blk o cv hc hA hr hl hcell _ ih =>
    intro hcl
    have hall : (rows.all fun r => r.all (Ab.bel m)) = true := by rw [← belLL_all]; simpa [Ab.bel] using hcl
    refine .sl A c rows esz blk o cv hc (fun hne => ⟨(hA hne).1, (hF _ (hA hne).2).1⟩) hr hl (fun i j hi hj => ?_) (fun i j hi hj => ih i j hi hj (all_getDD hall hr hi hj))
    have hne : rows ≠ [] := by intro e; subst e; simp at hi
    rw [cell_same (hF _ (hA hne).2).2]; exact hcell i j hi hj
  | nilS => exact fun _ => .nilS
  | row id len hid => exact fun hc => by rw [← hβ, ← hκ]; exact .row id len (hN id (by simpa [Ab.bel, Nat.blt_eq] using hc) hid)
  | ptr id off hid => exact fun hc => by rw [← hβ]; exact .ptr id off (hN id (by simpa [Ab.bel, Nat.blt_eq] using hc) hid)
  | eptr id esz i off hid => exact fun hc => by rw [← hβ]; exact .eptr id esz i off (hN id (by simpa [Ab.bel, Nat.blt_eq] using hc) hid)
  | cptr blk o cs off cv hF' hl hcell _ ih =>
    intro hc
    refine .cptr blk o cs off cv (hF _ hF').1 hl (fun j hj => ?_) (fun j hj => ih j hj (all_getD (by rw [← belL_all]; simpa [Ab.bel] using hc) hj))
    rw [cell_same (hF _ hF').2]; exact hcell j hj
  | mp id hid => exact fun hc => by rw [← hβ]; exact .mp id (hN id (by simpa [Ab.bel, Nat.blt_eq] using hc) hid)
  | nilM => exact fun _ => .nilM
  | fn f vs cs hn _ ih => exact fun hc => .fn f vs cs hn (fun j hj => ih j hj (all_getD (by rw [← belL_all]; simpa [Ab.bel] using hc) hj))
  | nilF => exact fun _ => .nilF
  | nilP => exact fun _ => .nilP
  | nilI => exact fun _ => .nilI
  | ifc t x v _ ih => exact fun hc => .ifc t x v (ih (by simpa [Ab.bel] using hc))

/-- Some slots are forgotten, and the heap's end. -/
structure Keep (m0 : Nat) (E : Slots) (H : Heap) (E' : Slots) (m : Nat) : Prop where
  le : m0 ≤ m
  sub : ∀ t, look E' t = look E t ∨ look E' t = .u
  bE : (E'.all fun p => bel m p.2) = true
  bH : ((H.take m).all (belO m)) = true

section
variable {G : GI} {F0 : Nat → Prop} {B0 : Nat} {w0 w : World} {β0 κ0 β κ : Nat → Nat} {H0 H : Heap} {nt : Nat} {a : Act} {E E' : Slots}

theorem look_mem (E : Slots) (t : Nat) : look E t = .u ∨ ∃ p ∈ E, p.2 = look E t := by
  induction E with
  | nil => exact .inl rfl
  | cons p E ih =>
    obtain ⟨k, v⟩ := p
    simp only [look]
    cases Nat.beq k t with
    | true => exact .inr ⟨(k, v), .head _, rfl⟩
    | false => rcases ih with h | ⟨p, h1, h2⟩
               · exact .inl h
               · exact .inr ⟨p, .tail _ h1, h2⟩

theorem take_get {H : Heap} {m id : Nat} {o : AObj} (h : (H.take m)[id]? = some o) : id < m ∧ H[id]? = some o := by
  have h1 := (List.getElem?_eq_some_iff.1 h).1
  rw [List.length_take] at h1
  have : id < m := by omega
  exact ⟨this, by rw [List.getElem?_take_of_lt this] at h; exact h⟩

theorem keep_inv {m : Nat} (hk : Keep H0.length E H E' m) (h : Inv G F0 B0 w0 β0 κ0 H0 nt a w (look E) H β κ) : Inv G F0 B0 w0 β0 κ0 H0 nt a w (look E') (H.take m) β κ := by
  have hmut : ∀ b, Mut β (H.take m) b → Mut β H b := fun b ⟨id, o, h1, h2, h3⟩ => ⟨id, o, (take_get h1).2, h2, h3⟩
  have hF : ∀ b, (RPof F0 B0 w β κ H).F b → (RPof F0 B0 w β κ (H.take m)).F b ∧ (RPof F0 B0 w β κ (H.take m)).w.heap[b]? = (RPof F0 B0 w β κ H).w.heap[b]? :=
    fun b hb => ⟨⟨hb.1, hb.2.1, fun hm => hb.2.2 (hmut b hm)⟩, rfl⟩
  have hN : ∀ id, id < m → id < (RPof F0 B0 w β κ H).N → id < (RPof F0 B0 w β κ (H.take m)).N := fun id h1 h2 => by
    simp only [RPof, List.length_take] at h2 ⊢; omega
  have tr : ∀ {v : Value} {x : AVal}, Rel (RPof F0 B0 w β κ H) v x → bel m x = true → Rel (RPof F0 B0 w β κ (H.take m)) v x := fun hr hb => Rel.bel hF rfl rfl hN hr hb
  have hs := h.adv.hs
  have hbo : ∀ id o, (H.take m)[id]? = some o → belO m o = true := fun id o ho => List.all_eq_true.1 hk.bH o (List.mem_of_getElem? ho)
  refine ⟨⟨⟨hs.gw, hs.ng, hs.b0, hs.f0, fun id o ho => ?_, fun id o ho hal => hs.lt id o (take_get ho).2 hal, fun id id' o o' h1 h2 => hs.inj id id' o o' (take_get h1).2 (take_get h2).2,
    fun id o ho hal => hs.al id o (take_get ho).2 hal⟩, h.adv.kept, fun b hb => h.adv.mt b (hmut b hb), ?_, h.adv.agree⟩, fun t => ?_, h.size, h.defers⟩
  · have hb := hbo id o ho
    have hor := hs.obj id o (take_get ho).2
    cases o with
    | box cs =>
      obtain ⟨vs, T, h1, h2⟩ := hor
      refine ⟨vs, T, h1, h2.1, fun j hj => ⟨(h2.2 j hj).1, tr (h2.2 j hj).2 (all_getD (by rw [← belL_all]; simpa [belO] using hb) hj)⟩⟩
    | row esz rows fz =>
      obtain ⟨vs, T, h1, h2, h3, h4, h5⟩ := hor
      have hall : (rows.all fun r => r.all (bel m)) = true := by rw [← belLL_all]; simpa [belO] using hb
      exact ⟨vs, T, h1, h2, h3, h4, fun i j hi hj => ⟨(h5 i j hi hj).1, tr (h5 i j hi hj).2 (all_getDD hall h4 hi hj)⟩⟩
    | map es =>
      obtain ⟨ents, clock, h1, h2, h3⟩ := hor
      simp only [belO, Bool.and_eq_true, belL_all] at hb
      refine ⟨ents, clock, h1, h2, fun j hj => ⟨tr (h3 j hj).1 ?_, tr (h3 j hj).2 ?_⟩⟩
      · have := all_getD hb.1 (j := j) (by simpa using hj)
        rw [List.getD_eq_getElem?_getD, List.getElem?_map] at this
        rw [List.getD_eq_getElem?_getD]
        rw [List.getElem?_eq_getElem hj] at this ⊢
        exact this
      · have := all_getD hb.2 (j := j) (by simpa using hj)
        rw [List.getD_eq_getElem?_getD, List.getElem?_map] at this
        rw [List.getD_eq_getElem?_getD]
        rw [List.getElem?_eq_getElem hj] at this ⊢
        exact this
    | dead => trivial
  · rw [List.length_take]
    have := hk.le
    have := h.adv.len
    omega
  · rcases hk.sub t with he | he
    · have hr := h.rel t
      rw [← he] at hr
      rcases look_mem E' t with hu | ⟨p, hp, hpe⟩
      · rw [hu]; exact .u _
      · refine tr hr ?_
        rw [← hpe]
        exact List.all_eq_true.1 hk.bE p hp
    · rw [he]; exact .u _
end

/-! ### Triples -/
/-- From such slots and such a heap, code ends as it is said to. -/
def Trip (P : Program) (G : GI) (m0 : Nat) (lc : LCode) (E : Slots) (H : Heap) (Q : AExit → Slots → Heap → Prop) : Prop :=
  ∀ (F0 : Nat → Prop) (B0 : Nat) (w0 : World) (β0 κ0 : Nat → Nat) (H0 : Heap) (nt : Nat) (c : Code), H0.length = m0 → cCode P nt c = some lc →
    ∀ (Qm : Exit → Act → World → Prop) (a : Act) (w : World) (β κ : Nat → Nat), Inv G F0 B0 w0 β0 κ0 H0 nt a w (look E) H β κ →
      (∀ x a' w' E' H' β' κ', Inv G F0 B0 w0 β0 κ0 H0 nt a' w' (look E') H' β' κ' → Q x E' H' → Qm (exOf x) a' w') → c.wp P Qm a w

section
variable {P : Program} {G : GI} {m0 : Nat} {E : Slots} {H : Heap} {Q Q' : AExit → Slots → Heap → Prop}

theorem t_mono {lc : LCode} (h : Trip P G m0 lc E H Q) (hq : ∀ x E H, Q x E H → Q' x E H) : Trip P G m0 lc E H Q' :=
  fun F0 B0 w0 β0 κ0 H0 nt c hl hc Qm a w β κ hi hp => h F0 B0 w0 β0 κ0 H0 nt c hl hc Qm a w β κ hi fun x a' w' E' H' β' κ' hi' hx => hp x a' w' E' H' β' κ' hi' (hq _ _ _ hx)

theorem t_keep {lc : LCode} {E' : Slots} {m : Nat} (hk : Keep m0 E H E' m) (h : Trip P G m0 lc E' (H.take m) Q) : Trip P G m0 lc E H Q := by
  intro F0 B0 w0 β0 κ0 H0 nt c hl hc Qm a w β κ hi hp
  subst hl
  exact h F0 B0 w0 β0 κ0 H0 nt c rfl hc Qm a w β κ (keep_inv hk hi) hp

theorem of_wpC {lc : LCode} (h : wpC P G lc (look E) H fun x e' H' => ∃ E', e' = look E' ∧ Q x E' H') : Trip P G m0 lc E H Q := by
  intro F0 B0 w0 β0 κ0 H0 nt c hl hc Qm a w β κ hi hp
  refine code_sound c lc hc _ Qm a w _ H β κ hi h ?_
  rintro x a' w' e' H' β' κ' hi' ⟨E', rfl, hx⟩
  exact hp x a' w' E' H' β' κ' hi' hx

theorem t_skip (h : Q .normal E H) : Trip P G m0 .skip E H Q := of_wpC ⟨E, rfl, h⟩
theorem t_exit {id : Nat} (h : Q (.exit id) E H) : Trip P G m0 (.exit id) E H Q := of_wpC ⟨E, rfl, h⟩
theorem t_ret (h : Q .ret E H) : Trip P G m0 .ret E H Q := of_wpC ⟨E, rfl, h⟩
theorem t_reg {ops : List LOper} (h : vcR P G ops E H (Q .normal)) : Trip P G m0 (.reg ops) E H Q := of_wpC (vcR_sound h)

theorem t_regD {ops : List LOper} {conf : List (Nat × Nat)} (s : List Nat) (hs : (conf.all fun p => !Nat.beq (s.getD p.1 0) (s.getD p.2 0)) = true) (h : vcRD P G (zipD ops s) E H (Q .normal)) : Trip P G m0 (.regD ops conf) E H Q := by
  refine of_wpC ⟨s, fun p hp he => ?_, by rw [← zipD_eq]; exact vcRD_sound h⟩
  have h1 := List.all_eq_true.1 hs p hp
  rw [he] at h1
  simp at h1

/-- What comes behind. -/
def andThen (next : Slots → Heap → Prop) (Q : AExit → Slots → Heap → Prop) : AExit → Slots → Heap → Prop
  | .normal, E, H => next E H
  | .exit id, E, H => Q (.exit id) E H
  | .ret, E, H => Q .ret E H

theorem inv_seq {nt : Nat} {c : Code} {x y : LCode} (h : cCode P nt c = some (.seq x y)) : ∃ cx cy, c = .seq cx cy ∧ cCode P nt cx = some x ∧ cCode P nt cy = some y := by
  cases c <;> simp only [cCode] at h <;> (try (repeat' split at h)) <;> simp_all [Option.map_eq_some_iff]
  exact ⟨_, _, ⟨rfl, rfl⟩, by assumption, by assumption⟩
theorem inv_cond {nt : Nat} {c : Code} {d : LOpd} {x y : LCode} (h : cCode P nt c = some (.cond d x y)) : ∃ cd cx cy, c = .cond cd cx cy ∧ cOpd cd = some d ∧ cCode P nt cx = some x ∧ cCode P nt cy = some y := by
  cases c <;> simp only [cCode] at h <;> (try (repeat' split at h)) <;> simp_all [Option.map_eq_some_iff]
  exact ⟨_, _, _, ⟨rfl, rfl, rfl⟩, by assumption, by assumption, by assumption⟩
theorem inv_block {nt : Nat} {c : Code} {id : Nat} {x : LCode} (h : cCode P nt c = some (.block id x)) : ∃ cx, c = .block id cx ∧ cCode P nt cx = some x := by
  cases c <;> simp only [cCode] at h <;> (try (repeat' split at h)) <;> simp_all [Option.map_eq_some_iff]
theorem inv_scope {nt : Nat} {c : Code} {x : LCode} (h : cCode P nt c = some (.scope x)) : ∃ cx, c = .scope cx ∧ cCode P nt cx = some x := by
  cases c <;> simp only [cCode] at h <;> (try (repeat' split at h)) <;> simp_all [Option.map_eq_some_iff]
theorem inv_loop {nt : Nat} {c : Code} {x : LCode} (h : cCode P nt c = some (.loop x)) : ∃ cx, c = .loop cx ∧ cCode P nt cx = some x := by
  cases c <;> simp only [cCode] at h <;> (try (repeat' split at h)) <;> simp_all [Option.map_eq_some_iff]

theorem t_seq {x y : LCode} (h : Trip P G m0 x E H (andThen (fun E' H' => Trip P G m0 y E' H' Q) Q)) : Trip P G m0 (.seq x y) E H Q := by
  intro F0 B0 w0 β0 κ0 H0 nt c hl hc Qm a w β κ hi hp
  obtain ⟨cx, cy, rfl, hx, hy⟩ := inv_seq hc
  refine wp_seq (h F0 B0 w0 β0 κ0 H0 nt cx hl hx _ a w β κ hi ?_)
  intro z a' w' E' H' β' κ' hi' hz
  cases z with
  | normal => exact hz F0 B0 w0 β0 κ0 H0 nt cy hl hy Qm a' w' β' κ' hi' hp
  | exit id => exact hp _ _ _ _ _ _ _ hi' hz
  | ret => exact hp _ _ _ _ _ _ _ hi' hz

/-- A test of a slot: what is known behind it is kept. -/
theorem t_cond {n : Nat} {t : Bool} {x y : LCode} (hb : look E n = .b t) (hx : t = true → Trip P G m0 x ((n, .b true) :: E) H Q) (hy : t = false → Trip P G m0 y ((n, .b false) :: E) H Q) : Trip P G m0 (.cond (.t n) x y) E H Q := by
  intro F0 B0 w0 β0 κ0 H0 nt c hl hc Qm a w β κ hi hp
  obtain ⟨cd, cx, cy, rfl, hd, hcx, hcy⟩ := inv_cond hc
  have r1 := opd_sound hi.rel hd
  have r2 : (LOpd.t n).ev (look E) = .b t := hb
  rw [r2] at r1
  refine wp_cond_split r1.inv_b (fun ht => ?_) (fun ht => ?_)
  · subst ht
    have hi' : Inv G F0 B0 w0 β0 κ0 H0 nt a w (look ((n, .b true) :: E)) H β κ := by rw [look_back hb]; exact hi
    exact hx rfl F0 B0 w0 β0 κ0 H0 nt cx hl hcx Qm a w β κ hi' hp
  · subst ht
    have hi' : Inv G F0 B0 w0 β0 κ0 H0 nt a w (look ((n, .b false) :: E)) H β κ := by rw [look_back hb]; exact hi
    exact hy rfl F0 B0 w0 β0 κ0 H0 nt cy hl hcy Qm a w β κ hi' hp

/-- A test of a constant. -/
theorem t_condc {t : Bool} {x y : LCode} (hx : t = true → Trip P G m0 x E H Q) (hy : t = false → Trip P G m0 y E H Q) : Trip P G m0 (.cond (.c (.b t)) x y) E H Q := by
  intro F0 B0 w0 β0 κ0 H0 nt c hl hc Qm a w β κ hi hp
  obtain ⟨cd, cx, cy, rfl, hd, hcx, hcy⟩ := inv_cond hc
  have r1 := opd_sound hi.rel hd
  refine wp_cond_split (Rel.inv_b r1) (fun ht => ?_) (fun ht => ?_)
  · exact hx ht F0 B0 w0 β0 κ0 H0 nt cx hl hcx Qm a w β κ hi hp
  · exact hy ht F0 B0 w0 β0 κ0 H0 nt cy hl hcy Qm a w β κ hi hp

/-- Behind a block. -/
def behind (id : Nat) (Q : AExit → Slots → Heap → Prop) : AExit → Slots → Heap → Prop
  | .normal, E, H => Q .normal E H
  | .exit j, E, H => bif Nat.beq j id then Q .normal E H else Q (.exit j) E H
  | .ret, E, H => Q .ret E H

theorem t_block {id : Nat} {x : LCode} (h : Trip P G m0 x E H (behind id Q)) : Trip P G m0 (.block id x) E H Q := by
  intro F0 B0 w0 β0 κ0 H0 nt c hl hc Qm a w β κ hi hp
  obtain ⟨cx, rfl, hx⟩ := inv_block hc
  refine wp_block (h F0 B0 w0 β0 κ0 H0 nt cx hl hx _ a w β κ hi ?_)
  intro z a' w' E' H' β' κ' hi' hz
  cases z with
  | normal => exact hp _ _ _ _ _ _ _ hi' hz
  | exit j =>
    simp only [behind] at hz
    simp only [exOf, Exit.inBlock]
    by_cases hj : j = id
    · subst hj; rw [if_pos rfl]; exact hp _ _ _ _ _ _ _ hi' (by simpa using hz)
    · have : Nat.beq j id = false := by
        cases hb : Nat.beq j id with
        | false => rfl
        | true => exact absurd (Nat.eq_of_beq_eq_true hb) hj
      rw [if_neg hj]; rw [this] at hz; exact hp _ _ _ _ _ _ _ hi' hz
  | ret => exact hp _ _ _ _ _ _ _ hi' hz

theorem t_scope {x : LCode} (h : Trip P G m0 x E H Q) : Trip P G m0 (.scope x) E H Q := by
  intro F0 B0 w0 β0 κ0 H0 nt c hl hc Qm a w β κ hi hp
  obtain ⟨cx, rfl, hx⟩ := inv_scope hc
  refine wp_scope_straight (h F0 B0 w0 β0 κ0 H0 nt cx hl hx _ a w β κ hi ?_)
  intro z a' w' E' H' β' κ' hi' hz
  have := hp z _ _ _ _ _ _ hi' hz
  cases z <;> exact this

/-- A loop: what holds at each round's begin, and a number that goes down. -/
theorem t_loop {x : LCode} (I : Nat → Slots → Heap → Prop) {n : Nat} (h0 : I n E H)
    (hr : ∀ n E H, I n E H → Trip P G m0 x E H (andThen (fun E' H' => ∃ n' E'' m, n' < n ∧ Keep m0 E' H' E'' m ∧ I n' E'' (H'.take m)) Q)) : Trip P G m0 (.loop x) E H Q := by
  intro F0 B0 w0 β0 κ0 H0 nt c hl hc Qm a w β κ hi hp
  obtain ⟨cx, rfl, hx⟩ := inv_loop hc
  subst hl
  let J : Act → World → Nat → Prop := fun a w n => ∃ E H β κ, Inv G F0 B0 w0 β0 κ0 H0 nt a w (look E) H β κ ∧ I n E H
  refine wp_loop (fun a w => ∃ n, J a w n) (fun a w => least (J a w)) ⟨n, E, H, β, κ, hi, h0⟩ ?_
  intro a w hJ
  have hsp := least_spec hJ
  generalize least (J a w) = k at hsp ⊢
  obtain ⟨E1, H1, β1, κ1, hi1, hI⟩ := hsp
  refine hr k E1 H1 hI F0 B0 w0 β0 κ0 H0 nt cx rfl hx _ a w β1 κ1 hi1 ?_
  intro z a' w' E' H' β' κ' hi' hz
  cases z with
  | normal =>
    obtain ⟨n', E'', m, hlt, hk, hI'⟩ := hz
    have hj : J a' w' n' := ⟨E'', H'.take m, β', κ', keep_inv hk hi', hI'⟩
    exact ⟨⟨n', hj⟩, Nat.lt_of_le_of_lt (least_le hj) hlt⟩
  | exit id => exact hp _ _ _ _ _ _ _ hi' hz
  | ret => exact hp _ _ _ _ _ _ _ hi' hz

/-! ### Functions -/
def ends : AExit → Bool
  | .exit _ => false
  | _ => true
def args0 : Nat → List AVal → Slots
  | _, [] => []
  | k, v :: vs => (k, v) :: args0 (k + 1) vs
theorem look_args0 : ∀ (vs : List AVal) (k t : Nat), look (args0 k vs) (k + t) = vs.getD t .u
  | [], k, t => rfl
  | v :: vs, k, t => by
    simp only [args0, look]
    cases t with
    | zero => simp
    | succ t =>
      have : Nat.beq k (k + (t + 1)) = false := by
        cases hb : Nat.beq k (k + (t + 1)) with
        | false => rfl
        | true => exact absurd (Nat.eq_of_beq_eq_true hb) (by omega)
      rw [this]
      have := look_args0 vs (k + 1) t
      rw [Nat.add_assoc, Nat.add_comm 1 t] at this
      simpa using this
theorem look_args (vs : List AVal) : look (args0 0 vs) = env0 vs := by
  funext t
  have := look_args0 vs 0 t
  rw [Nat.zero_add] at this
  exact this

theorem run_trip {f : FuncId} {lf : LFunc} {args : List AVal} {vals : Array Value} {F0 : Nat → Prop} {B0 : Nat} {w : World} {β κ : Nat → Nat} {R : Ending → World → Prop} (hc : cFunc P f = some lf) (hn : args.length = lf.np) (hs : HS G F0 B0 w β κ H)
    (hr : RelL (RPof F0 B0 w β κ H) vals args) (ht : Trip P G H.length lf.body (args0 0 args) H Q)
    (hQ : ∀ x w' E' H' β' κ', Adv G F0 B0 w β κ H w' β' κ' H' → Q x E' H' → ends x = true ∧ ∃ vs, resOf (look E') H' lf.res = some vs ∧ ∀ v, Rel (RPof F0 B0 w' β' κ' H') v (oneRes vs) → R (.returned v) w') :
    Calls P f vals w R := by
  unfold cFunc at hc
  split at hc
  · rename_i fn hfn
    split at hc
    · rename_i body hbody
      split at hc
      · rename_i c r hcc hcr
        unfold okb at hc
        split at hc
        · rename_i hle
          simp only [Option.some.injEq] at hc; subst hc
          simp only at hn ht hQ
          have hle' : fn.nfree + fn.params.size ≤ fn.ntmps := by simpa using hle
          have hsz : vals.size = args.length := hr.1
          refine calls_of_wp hfn hbody ?_
          have hi : Inv G F0 B0 w β κ H fn.ntmps { tmps := vals ++ Array.replicate (fn.ntmps - vals.size) undef, defers := [] } w (look (args0 0 args)) H β κ := by
            rw [look_args]
            refine ⟨Adv.refl hs, fun t => ?_, by simp; omega, rfl⟩
            simp only [env0]
            by_cases ht : t < args.length
            · rw [Array.getD_eq_getD_getElem?, Array.getElem?_append_left (by omega), ← Array.getD_eq_getD_getElem?]
              exact hr.2 t ht
            · rw [List.getD_eq_getElem?_getD, List.getElem?_eq_none (by omega)]
              exact .u _
          refine ht F0 B0 w β κ H fn.ntmps body rfl hcc _ _ w β κ hi ?_
          intro x a' w' E' H' β' κ' hi' hx
          obtain ⟨k1, vs, k2, k3⟩ := hQ x w' E' H' β' κ' hi'.adv hx
          obtain ⟨v, k4, k5⟩ := res_sound (P := P) hi'.adv.hs hi'.rel hcr k2
          cases x with
          | normal => exact ⟨hi'.defers, v, k4, k3 v k5⟩
          | ret => exact ⟨hi'.defers, v, k4, k3 v k5⟩
          | exit id => simp [ends] at k1
        · simp at hc
      · simp at hc
    · simp at hc
  · simp at hc

/-- How a run that works on a heap ends. -/
def endS (res : List (Nat × Option (Nat × Bool))) (r : AVal) (H' : Heap) (x : AExit) (E : Slots) (H : Heap) : Prop :=
  ends x = true ∧ ∃ vs, resOf (look E) H res = some vs ∧ oneRes vs = r ∧ H = H'
/-- How a run ends that hands back a value without numbers. -/
def endP (res : List (Nat × Option (Nat × Bool))) (r : AVal) (x : AExit) (E : Slots) (H : Heap) : Prop :=
  ends x = true ∧ ∃ vs, resOf (look E) H res = some vs ∧ frz H (oneRes vs) = some r

theorem evS {f : FuncId} {lf : LFunc} {args : List AVal} {r : AVal} {H' : Heap} (hc : cFunc P f = some lf) (hn : args.length = lf.np) (ht : Trip P G H.length lf.body (args0 0 args) H (endS lf.res r H')) : EvS P G f args H r H' := by
  intro F0 B0 w β κ vals hs hr
  refine run_trip hc hn hs hr ht ?_
  rintro x w' E' H'' β' κ' hadv ⟨h1, vs, h2, rfl, rfl⟩
  exact ⟨h1, vs, h2, fun v hv => ⟨v, β', κ', rfl, hadv.hs, hadv.kept, hadv.mt, hadv.len, hadv.agree, hv⟩⟩

theorem evP {f : FuncId} {lf : LFunc} {args : List AVal} {r : AVal} (hc : cFunc P f = some lf) (hn : args.length = lf.np) (ht : Trip P G 0 lf.body (args0 0 args) [] (endP lf.res r)) : EvP P G f args r := by
  intro F0 w vals hgw hng hf0 hr
  have hs : HS G F0 w.heap.size w id id [] := ⟨hgw, hng, Nat.le_refl _, hf0, fun id o h => by simp at h, fun id o h => by simp at h, fun id id' o o' h => by simp at h, fun id o h => by simp at h⟩
  refine run_trip hc hn hs hr ht ?_
  rintro x w' E' H'' β' κ' hadv ⟨h1, vs, h2, h3⟩
  refine ⟨h1, vs, h2, fun v hv => ⟨v, rfl, ?_, ?_⟩⟩
  · have hk := hadv.kept
    exact ⟨hk.os, hk.tape, hk.output, hk.size, fun b hb => hk.block b hb (fun ⟨i, o, h, _⟩ => by simp at h)⟩
  · obtain ⟨hfx, hfz⟩ := fixAll_fx [oneRes vs] H''
    have := frz_rel hadv.hs hfx hv h3 (hfz _ (.head _))
    have hle : (RPof (Fcall F0 w.heap.size w' β' ([oneRes vs].foldl fix H'')) w'.heap.size w' id id []).Le (RPof F0 w.heap.size w' id id []) := by
      refine ⟨fun b hb => ?_, fun _ _ => rfl, Nat.le_refl _, fun _ _ => rfl, fun _ _ => rfl⟩
      obtain ⟨q1, q2, q3⟩ := hb
      refine ⟨?_, q2, q3⟩
      rcases q1 with q1 | q1
      · exact q1.1
      · exact .inr (Nat.le_trans hadv.kept.size q1)
    exact this.le hle
end
end Go.Proofs.Ythpcjekmgohelaa.Ab

/- ABSTRACT RUNS, 27: tools for runs of single functions. -/
namespace Go.Proofs.Ythpcjekmgohelaa.Ab
open Go Go.Proofs
set_option linter.unusedVariables false
set_option linter.unusedSimpArgs false
/-! ### Tools -/
def keep (E : Slots) : List Nat → Slots
  | [] => []
  | k :: ks => (k, look E k) :: keep E ks
theorem keep_sub (E : Slots) : ∀ (ks : List Nat) (t : Nat), look (keep E ks) t = look E t ∨ look (keep E ks) t = .u
  | [], t => .inr rfl
  | k :: ks, t => by
    simp only [keep, look]
    cases h : Nat.beq k t with
    | true => have := Nat.eq_of_beq_eq_true h; subst this; exact .inl rfl
    | false => exact keep_sub E ks t
theorem lit_t {t t' : Bool} {A B : Prop} (e : t' = t) (h : A) : (t' = t → A) ∧ (t' = !t → B) := ⟨fun _ => h, fun h' => by { subst e; cases t' <;> cases h' }⟩
theorem lit_f {t t' : Bool} {A B : Prop} (e : t' = !t) (h : B) : (t' = t → A) ∧ (t' = !t → B) := ⟨fun h' => by { subst e; cases t <;> cases h' }, fun _ => h⟩
theorem w64 {n : Int} (h1 : -9223372036854775808 ≤ n) (h2 : n ≤ 9223372036854775807) : IntKind.i64.wrap n = n := by
  unfold IntKind.wrap
  simp [IntKind.bits, IntKind.signed]
  omega
theorem row_at {α : Type} {f : α → List AVal} {xs : List α} {i : Nat} (h : i < xs.length) : (xs.map f)[((i : Nat) : Int).toNat]? = some (f xs[i]) := by
  simp [h]
theorem row_atN {α : Type} {f : α → List AVal} {xs : List α} {n : Nat} (h : n < xs.length) : (xs.map f)[n]? = some (f xs[n]) := by
  rw [List.getElem?_map, List.getElem?_eq_getElem h]; rfl
theorem bel_rows {α : Type} {m : Nat} {f : α → List AVal} (h : ∀ x, belL m (f x) = true) : ∀ xs : List α, belLL m (xs.map f) = true
  | [] => rfl
  | x :: xs => by simp only [List.map_cons, belLL, h, bel_rows h xs, Bool.and_self]


mutual
theorem clean_bel (m : Nat) : ∀ v : AVal, clean v = true → bel m v = true
  | .u, h => by simp [clean] at h
  | .b _, _ => by simp [bel]
  | .i _ _, _ => by simp [bel]
  | .s _, _ => by simp [bel]
  | .agg cs, h => by simp only [clean] at h; simp only [bel]; exact cleanL_bel m cs h
  | .tup cs, h => by simp only [clean] at h; simp only [bel]; exact cleanL_bel m cs h
  | .sl rows, h => by simp only [clean] at h; simp only [bel]; exact cleanLL_bel m rows h
  | .nilS, _ => by simp [bel]
  | .row _ _, h => by simp [clean] at h
  | .ptr _ _, h => by simp [clean] at h
  | .eptr _ _ _ _, h => by simp [clean] at h
  | .cptr _ _, h => by simp [clean] at h
  | .mp _, h => by simp [clean] at h
  | .nilM, _ => by simp [bel]
  | .fn _ cap, h => by simp only [clean] at h; simp only [bel]; exact cleanL_bel m cap h
  | .nilF, _ => by simp [bel]
  | .nilP, _ => by simp [bel]
  | .nilI, _ => by simp [bel]
  | .ifc _ v, h => by simp only [clean] at h; simp only [bel]; exact clean_bel m v h
theorem cleanL_bel (m : Nat) : ∀ vs : List AVal, cleanL vs = true → belL m vs = true
  | [], _ => by simp [belL]
  | v :: vs, h => by
    simp only [cleanL, Bool.and_eq_true] at h
    simp only [belL, clean_bel m v h.1, cleanL_bel m vs h.2, Bool.and_self]
theorem cleanLL_bel (m : Nat) : ∀ vs : List (List AVal), cleanLL vs = true → belLL m vs = true
  | [], _ => by simp [belLL]
  | v :: vs, h => by
    simp only [cleanLL, Bool.and_eq_true] at h
    simp only [belLL, cleanL_bel m v h.1, cleanLL_bel m vs h.2, Bool.and_self]
end

theorem t_keepAs {P : Program} {G : GI} {m0 m : Nat} {lc : LCode} {E E'' : Slots} {H H'' : Heap} {Q : AExit → Slots → Heap → Prop} (ks : List Nat) (he : keep E ks = E'') (hh : H.take m = H'') (hle : m0 ≤ m)
    (hE : (E''.all fun p => bel m p.2) = true) (hH : (H''.all (belO m)) = true) (h : Trip P G m0 lc E'' H'' Q) : Trip P G m0 lc E H Q := by
  subst he; subst hh
  exact t_keep ⟨hle, keep_sub E ks, hE, hH⟩ h
theorem keepAs {m0 m : Nat} {E E'' : Slots} {H H'' : Heap} (ks : List Nat) (he : keep E ks = E'') (hh : H.take m = H'') (hle : m0 ≤ m)
    (hE : (E''.all fun p => bel m p.2) = true) (hH : (H''.all (belO m)) = true) : Keep m0 E H E'' m := by
  subst he; subst hh
  exact ⟨hle, keep_sub E ks, hE, hH⟩

end Go.Proofs.Ythpcjekmgohelaa.Ab
