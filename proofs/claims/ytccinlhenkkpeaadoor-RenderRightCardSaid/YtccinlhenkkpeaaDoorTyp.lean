/- How data of a type are read: integers, rows, structs. -/
import Derived.Test.YtccinlhenkkpeaaDoorLift
import Derived.Test.YtccinlhenkkpeaaDoorRunes
namespace Go.Proofs.YtccinlhenkkpeaaDoor.E
open Go

def tysOf (P : Program) (t : TypeId) : Option (List TypeId) := match P.underlying t with
  | some (.struct fs) => some (fs.toList.map (·.type))
  | _ => none

def elemOf (P : Program) (t : TypeId) : Option TypeId := match P.underlying t with
  | some (.slice e) => some e
  | _ => none

def intOf (P : Program) (t : TypeId) : Option IntKind := match P.underlying t with
  | some (.int k) => some k
  | _ => none

def boolOf (P : Program) (t : TypeId) : Bool := match P.underlying t with
  | some .bool => true
  | _ => false

def strOf (P : Program) (t : TypeId) : Bool := match P.underlying t with
  | some .string => true
  | _ => false

inductive TyL (P : Program) (d : Nat) : List TypeId → List D → Prop
  | nil : TyL P d [] []
  | cons {t ts p ds} : TyD P d t p → TyL P d ts ds → TyL P d (t :: ts) (p ++ ds)

section
variable {P : Program} {d : Nat} {t : TypeId} {ds : List D}

theorem ty_int {k : IntKind} (hu : intOf P t = some k) (h : TyD P (d + 1) t ds) : ∃ n, ds = [.int k n] ∧ (Lit.int k n).wf = true := by
  simp only [intOf] at hu
  split at hu <;> simp at hu
  rename_i k' e
  subst hu
  simpa only [TyD, e] using h

theorem ty_bool (hu : boolOf P t = true) (h : TyD P (d + 1) t ds) : ∃ b, ds = [.bool b] := by
  simp only [boolOf] at hu
  split at hu <;> simp at hu
  rename_i e
  simpa only [TyD, e] using h

theorem ty_str (hu : strOf P t = true) (h : TyD P (d + 1) t ds) : ∃ s, ds = [.str s] ∧ s.size ≤ maxLen := by
  simp only [strOf] at hu
  split at hu <;> simp at hu
  rename_i e
  simpa only [TyD, e] using h

theorem ty_parts {α : Type} {C : Cell α} {Q : α → Prop} {e : TypeId} (he : ∀ p, TyD P d e p → ∃ a, p = C.enc a ∧ Q a) : (parts : List (List D)) → (∀ p ∈ parts, TyD P d e p) → ∃ l : List α, parts.flatten = cells C l ∧ l.length = parts.length ∧ ∀ a ∈ l, Q a
  | [], _ => ⟨[], rfl, rfl, by simp⟩
  | p :: ps, h => by
    obtain ⟨a, e1, q1⟩ := he p (h p (by simp))
    obtain ⟨l, e2, n2, q2⟩ := ty_parts he ps fun p hp => h p (by simp [hp])
    refine ⟨a :: l, by simp [e1, e2], by simp [n2], fun b hb => ?_⟩
    rcases List.mem_cons.1 hb with rfl | hb
    · exact q1
    · exact q2 b hb

theorem ty_rowS {α : Type} {C : Cell α} {Q : α → Prop} {e : TypeId} (hu : elemOf P t = some e) (he : ∀ p, TyD P d e p → ∃ a, p = C.enc a ∧ Q a) (h : TyD P (d + 1) t ds) : ∃ l : List α, ds = [row C false l] ∧ (l.length ≤ maxLen ∧ l.length * P.bytesOf e ≤ reachBytes) ∧ ∀ a ∈ l, Q a := by
  simp only [elemOf] at hu
  split at hu <;> simp at hu
  rename_i e' hu'
  subst hu
  simp only [TyD, hu'] at h
  obtain ⟨parts, rfl, hn, hp⟩ := h
  obtain ⟨l, e1, n1, q1⟩ := ty_parts he parts hp
  exact ⟨l, by rw [e1, ← n1]; rfl, ⟨by rw [n1]; exact hn.1, by rw [n1]; exact hn.2⟩, q1⟩

theorem ty_row {α : Type} {C : Cell α} {Q : α → Prop} {e : TypeId} (hu : elemOf P t = some e) (he : ∀ p, TyD P d e p → ∃ a, p = C.enc a ∧ Q a) (h : TyD P (d + 1) t ds) : ∃ l : List α, ds = [row C false l] ∧ l.length ≤ maxLen ∧ ∀ a ∈ l, Q a := by
  obtain ⟨l, h1, h2, h3⟩ := ty_rowS hu he h
  exact ⟨l, h1, h2.1, h3⟩

theorem ty_fields : (fs : List Field) → (parts : List (List D)) → parts.length = fs.length → (∀ (i : Nat) f p, fs[i]? = some f → parts[i]? = some p → TyD P d f.type p) → TyL P d (fs.map (·.type)) parts.flatten
  | [], [], _, _ => .nil
  | f :: fs, p :: ps, hl, h => by
    rw [List.flatten_cons]
    exact .cons (h 0 f p rfl rfl) (ty_fields fs ps (by simpa using hl) fun i g q hg hq => h (i + 1) g q (by simpa using hg) (by simpa using hq))

theorem ty_struct {ts : List TypeId} (hu : tysOf P t = some ts) (h : TyD P (d + 1) t ds) : TyL P d ts ds := by
  simp only [tysOf] at hu
  split at hu <;> simp at hu
  rename_i fs hu'
  subst hu
  simp only [TyD, hu'] at h
  obtain ⟨parts, rfl, hn, hp⟩ := h
  exact ty_fields fs.toList parts hn hp

theorem tyL_nil (h : TyL P d [] ds) : ds = [] := by cases h; rfl

theorem tyL_cons {ts : List TypeId} (h : TyL P d (t :: ts) ds) : ∃ p r, ds = p ++ r ∧ TyD P d t p ∧ TyL P d ts r := by
  cases h with
  | cons h1 h2 => exact ⟨_, _, rfl, h1, h2⟩

theorem arg_one {x : D} (hn : tysOf P t = none) (h : ArgD P t x) : ∃ ds, TyD P 50 t ds ∧ x = ds.headD .nilp := by
  obtain ⟨ds, h1, h2⟩ := h
  refine ⟨ds, h1, ?_⟩
  rw [h2]
  simp only [tysOf] at hn
  split <;> first | rfl | simp_all

theorem arg_struct {x : D} {ts : List TypeId} (hn : tysOf P t = some ts) (h : ArgD P t x) : ∃ ds, x = .agg ds ∧ TyL P 49 ts ds := by
  obtain ⟨ds, h1, h2⟩ := h
  refine ⟨ds, ?_, ty_struct hn h1⟩
  rw [h2]
  simp only [tysOf] at hn
  split <;> simp_all

theorem args_nil {xs : List D} (h : ArgsD P [] xs) : xs = [] := by cases h; rfl

theorem args_cons {ts : List TypeId} {xs : List D} (h : ArgsD P (t :: ts) xs) : ∃ x r, xs = x :: r ∧ ArgD P t x ∧ ArgsD P ts r := by
  cases h with
  | cons h1 h2 => exact ⟨_, _, rfl, h1, h2⟩

theorem arg_int {x : D} {k : IntKind} (hi : intOf P t = some k) (h : ArgD P t x) : ∃ n, x = .int k n ∧ (Lit.int k n).wf = true := by
  obtain ⟨ds, h1, rfl⟩ := arg_one (by simp only [intOf] at hi; simp only [tysOf]; split at hi <;> simp_all) h
  obtain ⟨n, rfl, w⟩ := ty_int hi h1
  exact ⟨n, rfl, w⟩

theorem arg_bool {x : D} (hi : boolOf P t = true) (h : ArgD P t x) : ∃ b, x = .bool b := by
  obtain ⟨ds, h1, rfl⟩ := arg_one (by simp only [boolOf] at hi; simp only [tysOf]; split at hi <;> simp_all) h
  obtain ⟨b, rfl⟩ := ty_bool hi h1
  exact ⟨b, rfl⟩

theorem arg_str {x : D} (hi : strOf P t = true) (h : ArgD P t x) : ∃ s, x = .str s ∧ s.size ≤ maxLen := by
  obtain ⟨ds, h1, rfl⟩ := arg_one (by simp only [strOf] at hi; simp only [tysOf]; split at hi <;> simp_all) h
  obtain ⟨s, rfl, w⟩ := ty_str hi h1
  exact ⟨s, rfl, w⟩

theorem arg_row {α : Type} {C : Cell α} {Q : α → Prop} {e : TypeId} {x : D} (hu : elemOf P t = some e) (he : ∀ p, TyD P 49 e p → ∃ a, p = C.enc a ∧ Q a) (h : ArgD P t x) : ∃ l : List α, x = row C false l ∧ l.length ≤ maxLen ∧ ∀ a ∈ l, Q a := by
  obtain ⟨ds, h1, rfl⟩ := arg_one (by simp only [elemOf] at hu; simp only [tysOf]; split at hu <;> simp_all) h
  obtain ⟨l, rfl, w⟩ := ty_row hu he h1
  exact ⟨l, rfl, w⟩

/-- Is n of the kind i32? -/
def i32 (n : Int) : Prop := -2147483648 ≤ n ∧ n ≤ 2147483647

def i64 (n : Int) : Prop := -9223372036854775808 ≤ n ∧ n ≤ 9223372036854775807

theorem wf_i32 {n : Int} (h : (Lit.int .i32 n).wf = true) : i32 n := by
  simp only [Lit.wf, Bool.and_eq_true, decide_eq_true_eq] at h
  simpa [i32, IntKind.min, IntKind.max, IntKind.signed, IntKind.bits] using h

theorem wf_i64 {n : Int} (h : (Lit.int .i64 n).wf = true) : i64 n := by
  simp only [Lit.wf, Bool.and_eq_true, decide_eq_true_eq] at h
  simpa [i64, IntKind.min, IntKind.max, IntKind.signed, IntKind.bits] using h

theorem ty_rune {p : List D} (hi : intOf P t = some .i32) (h : TyD P (d + 1) t p) : ∃ a, p = runeC.enc a ∧ i32 a := by
  obtain ⟨n, rfl, w⟩ := ty_int hi h
  exact ⟨n, rfl, wf_i32 w⟩
end

end Go.Proofs.YtccinlhenkkpeaaDoor.E
