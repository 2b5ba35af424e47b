/-
  The abstract machine, twenty-second part: simp lemmas for fewer blocks and slots, for what is handed over, and for rows.
-/
import Derived.Test.YtkbjimfganeooaaAb21
set_option linter.unusedSimpArgs false
set_option linter.unusedVariables false
namespace Go.Ab
open Go

theorem deep_eq : deep = 12 := rfl

theorem restrict_eq (ks live : List Nat) (s : Nat → AV) (h : Hp) : restrict ks live ⟨s, h⟩ = ⟨renS ks s live, ks.map fun b => renB ks (h.getD b .dead)⟩ := Eq.trans rfl rfl
theorem renS_nil (ks : List Nat) (s : Nat → AV) : renS ks s [] = fun _ => .junk := Eq.trans rfl rfl
theorem renS_cons (ks : List Nat) (s : Nat → AV) (i : Nat) (is : List Nat) : renS ks s (i :: is) = put (renS ks s is) i (ren ks deep (s i)) := Eq.trans rfl rfl
theorem renB_els (ks : List Nat) (e : Nat) (xs : List AV) : renB ks (.els e xs) = .els e (xs.map (ren ks deep)) := Eq.trans rfl rfl
theorem renB_cel (ks : List Nat) (xs : List AV) : renB ks (.cel xs) = .cel (xs.map (ren ks deep)) := Eq.trans rfl rfl
theorem renB_dead (ks : List Nat) : renB ks .dead = .dead := Eq.trans rfl rfl

section
variable (ks : List Nat)
theorem ren_bool (b : Bool) : ren ks deep (.bool b) = .bool b := Eq.trans rfl rfl
theorem ren_int (k : IntKind) (n : Int) : ren ks deep (.int k n) = .int k n := Eq.trans rfl rfl
theorem ren_str (s : List UInt8) : ren ks deep (.str s) = .str s := Eq.trans rfl rfl
theorem ren_nilp : ren ks deep .nilp = .nilp := Eq.trans rfl rfl
theorem ren_junk : ren ks deep .junk = .junk := Eq.trans rfl rfl
theorem ren_nilfn : ren ks deep .nilfn = .nilfn := Eq.trans rfl rfl
theorem ren_pro (cs : List AV) : ren ks deep (.pro cs) = .pro cs := Eq.trans rfl rfl
theorem ren_sl (e : Nat) (f : Bool) (xs : List AV) : ren ks deep (.sl e f xs) = .sl e f xs := Eq.trans rfl rfl
theorem ren_fn0 (f : Nat) : ren ks deep (.fn f []) = .fn f [] := Eq.trans rfl rfl
theorem ren_ptr (b o : Nat) : ren ks deep (.ptr b o) = (match ks.idxOf? b with | some b => .ptr b o | none => .junk) := Eq.trans rfl rfl
theorem ren_eptr (b i o : Nat) : ren ks deep (.eptr b i o) = (match ks.idxOf? b with | some b => .eptr b i o | none => .junk) := Eq.trans rfl rfl
theorem ren_row (e b o l : Nat) : ren ks deep (.row e b o l) = (match ks.idxOf? b with | some b => .row e b o l | none => .junk) := Eq.trans rfl rfl
theorem ren_arow (e b o l : Nat) : ren ks deep (.arow e b o l) = (match ks.idxOf? b with | some b => .arow e b o l | none => .junk) := Eq.trans rfl rfl
theorem ren_agg (cs : List AV) : ren ks deep (.agg cs) = .agg (cs.map (ren ks 11)) := Eq.trans rfl rfl
theorem ren_tup (cs : List AV) : ren ks deep (.tup cs) = .tup (cs.map (ren ks 11)) := Eq.trans rfl rfl
theorem ren_fn (f : Nat) (cs : List AV) : ren ks deep (.fn f cs) = .fn f (cs.map (ren ks 11)) := Eq.trans rfl rfl

/-- What has no address keeps its form. -/
theorem ren_plain : ∀ (n m : Nat) (v : AV), plain m v = true → m ≤ n → ren ks n v = v
  | 0, 0, v, hp, _ => by simp [plain] at hp
  | n + 1, 0, v, hp, _ => by simp [plain] at hp
  | 0, m + 1, v, _, hl => by omega
  | n + 1, m + 1, v, hp, hl => by
    have list : ∀ cs : List AV, cs.all (plain m) = true → cs.map (ren ks n) = cs := fun cs hc => by
      rw [List.all_eq_true] at hc
      conv => rhs; rw [← List.map_id cs]
      exact List.map_congr_left fun c hm => ren_plain n m c (hc c hm) (by omega)
    cases v <;> simp only [plain] at hp <;> first
      | (cases hp; done)
      | simp only [ren, list _ hp]
      | simp only [ren]

theorem map_ren {xs : List AV} (h : xs.all (plain deep) = true) : xs.map (ren ks deep) = xs := by
  rw [List.all_eq_true] at h
  conv => rhs; rw [← List.map_id xs]
  exact List.map_congr_left fun c hm => ren_plain ks deep deep c (h c hm) (Nat.le_refl _)
end

/-! ### Values without addresses, read as they are -/

theorem imm_plain (h : Hp) : ∀ (n m : Nat) (v : AV), plain m v = true → m ≤ n → imm h n v = some v
  | 0, 0, v, hp, _ => by simp [plain] at hp
  | n + 1, 0, v, hp, _ => by simp [plain] at hp
  | 0, m + 1, v, _, hl => by omega
  | n + 1, m + 1, v, hp, hl => by
    have list : ∀ cs : List AV, cs.all (plain m) = true → omap (imm h n) cs = some cs := fun cs hc => by
      induction cs with
      | nil => rfl
      | cons c cs ih =>
        simp only [List.all_cons, Bool.and_eq_true] at hc
        simp only [omap, imm_plain h n m c hc.1 (by omega), ih hc.2]
    cases v <;> simp only [plain] at hp <;> first
      | (cases hp; done)
      | simp only [imm, list _ hp, Option.map_some]
      | simp only [imm]

theorem omap_imm {h : Hp} {xs : List AV} (hp : xs.all (plain deep) = true) : omap (imm h deep) xs = some xs := by
  induction xs with
  | nil => rfl
  | cons c cs ih =>
    simp only [List.all_cons, Bool.and_eq_true] at hp
    simp only [omap, imm_plain h deep deep c hp.1 (Nat.le_refl _), ih hp.2]

theorem visits_plain {h : Hp} {xs : List AV} (hp : xs.all (plain deep) = true) : xs.flatMap (visit h deep) = [] := by
  rw [List.all_eq_true] at hp
  refine List.flatMap_eq_nil_iff.2 fun c hc => visit_plain deep deep c (hp c hc)

/-- A row of plain elements is handed over. -/
theorem hand_row {h : Hp} {e b : Nat} {xs : List AV} (hb : h[b]? = some (.els e xs)) (hp : xs.all (plain deep) = true) : handOver (some 0) h (.row e b 0 xs.length) = some (.fr e xs) := by
  simp only [handOver, handRow, hb]
  simp [visits_plain hp, omap_imm hp, omap]

theorem hand_tup {h : Hp} {e b : Nat} {xs : List AV} {v : AV} (hb : h[b]? = some (.els e xs)) (hp : xs.all (plain deep) = true) (hv : plain deep v = true) : handOver (some 0) h (.tup [.row e b 0 xs.length, v]) = some (.tup [.fr e xs, v]) := by
  have h1 : visit h deep v = [] := visit_plain deep deep v hv
  show (handRow h (.row e b 0 xs.length) [v]).map (fun p => AV.tup (p.2.insertIdx 0 p.1)) = _
  simp only [handRow, hb]
  simp [visits_plain hp, omap_imm hp, omap, h1, imm_plain h deep deep v hv (Nat.le_refl _)]

theorem hand_tupn {h : Hp} {e : Nat} {v : AV} (hv : plain deep v = true) : handOver (some 0) h (.tup [.sl e true [], v]) = some (.tup [.fr e [], v]) := by
  simp only [handOver, handRow]
  simp [omap, imm_plain h deep deep v hv (Nat.le_refl _)]

/-- Numbers as values. -/
abbrev I (n : Int) : AV := .int .i64 n

theorem plain_ints (k : IntKind) (ns : List Int) : (ns.map (AV.int k)).all (plain deep) = true := by
  rw [List.all_eq_true]
  intro c hc
  obtain ⟨n, _, rfl⟩ := List.mem_map.1 hc
  rfl

/-- One element more. -/
theorem append_row {h : Hp} {e b bytes n : Nat} {xs ys : List AV} {f : Bool} (hb : h[b]? = some (.els e xs)) (hn : n = xs.length) (h1 : (xs.length + ys.length) * bytes ≤ room) (h2 : xs.length + ys.length ≤ maxStr) :
    append h e bytes (.row e b 0 n) (.sl e f ys) = some (.row e h.length 0 (xs.length + ys.length), h.set b .dead ++ [.els e (xs ++ ys)]) := by
  subst hn
  simp [append, appendL, srcElems, hb, h1, h2]

theorem evV_mksl1 (s : Nat → AV) (h : Hp) (e : Nat) (z : AV) (x : Od) : evV s h (.mkslp e 1 z [(0, x)]) = (if (x.ev s).fits e = true ∧ plain deep (.tup [x.ev s]) = true then some (.sl e true [x.ev s], h) else none) := by
  simp only [evV, fillE, List.replicate, List.length_cons, List.length_nil, List.set_cons_zero]
  by_cases h1 : (x.ev s).fits e = true <;> simp [h1]

theorem evTs_mksl1 {F : CallF} {is : List Ins} {K : St → Prop} {s : Nat → AV} {h : Hp} {d : Option Nat} {e : Nat} {z : AV} {x : Od} :
    evTs F (Ins.mk d none (.mkslp e 1 z [(0, x)]) :: is) K ⟨s, h⟩ = (if (x.ev s).fits e = true ∧ plain deep (.tup [x.ev s]) = true then evTs F is K ⟨put? s d (.sl e true [x.ev s]), h⟩ else False) := by
  rw [evTs_gen rfl, evV_mksl1]
  split <;> rfl

theorem evTs_append {F : CallF} {is : List Ins} {K : St → Prop} {s : Nat → AV} {h : Hp} {d : Option Nat} {e bytes : Nat} {x y : Od} :
    evTs F (Ins.mk d none (.append e bytes x y) :: is) K ⟨s, h⟩ = rest F is K s d (append h e bytes (x.ev s) (y.ev s)) := by
  rw [evTs_gen rfl]
  rfl

theorem fits_int (k : IntKind) (n : Int) : (AV.int k n).fits 0 = true := Eq.trans rfl rfl
theorem fits_str (s : List UInt8) : (AV.str s).fits 0 = true := Eq.trans rfl rfl
theorem fits_bool (b : Bool) : (AV.bool b).fits 0 = true := Eq.trans rfl rfl
theorem plain_tup_int (k : IntKind) (n : Int) : plain deep (.tup [.int k n]) = true := Eq.trans rfl rfl
theorem plain_tup_str (s : List UInt8) : plain deep (.tup [.str s]) = true := Eq.trans rfl rfl

end Go.Ab
