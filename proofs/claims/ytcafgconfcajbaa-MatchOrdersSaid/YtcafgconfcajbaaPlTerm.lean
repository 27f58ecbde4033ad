import Derived.Test.YtcafgconfcajbaaPslB
namespace PSL
open Go

/-- Terms, as data. -/
inductive Tm where
  | mk (k : Int) (s : ByteArray) (n : Int) (l : List Tm)

namespace Tm
def k : Tm → Int | mk k _ _ _ => k
def s : Tm → ByteArray | mk _ s _ _ => s
def n : Tm → Int | mk _ _ n _ => n
def l : Tm → List Tm | mk _ _ _ l => l

theorem ind {p : Tm → Prop} (h : ∀ t : Tm, (∀ x ∈ t.l, p x) → p t) (t : Tm) : p t :=
  Tm.rec (motive_1 := p) (motive_2 := fun l => ∀ x ∈ l, p x) (fun k s n l ih => h (.mk k s n l) ih) (by simp) (fun x r h1 h2 => by
    intro y hy
    rcases List.mem_cons.1 hy with rfl | hy
    · exact h1
    · exact h2 y hy) t

mutual
def rowM : Tm → List D
  | mk k s n l => [.v (.int .i64 k), .v (.string s), .v (.int .i64 n), .sl (rows l)]
def rows : List Tm → List (List D)
  | [] => []
  | t :: r => rowM t :: rows r
end

def row (t : Tm) : List D := [.v (.int .i64 t.k), .v (.string t.s), .v (.int .i64 t.n), .sl (rows t.l)]
theorem rowM_eq (t : Tm) : rowM t = row t := by cases t; simp only [rowM, row, k, s, n, l]

theorem rows_eq (l : List Tm) : rows l = l.map row := by
  induction l with
  | nil => rfl
  | cons x r ih => simp only [rows, rowM_eq, List.map_cons, ih]

theorem rows_length (l : List Tm) : (rows l).length = l.length := by rw [rows_eq]; simp
theorem rows_get {l : List Tm} {i : Nat} {x : Tm} (h : l[i]? = some x) : (rows l)[i]? = some (row x) := by rw [rows_eq, List.getElem?_map, h]; rfl

def av (t : Tm) : AV := .agg [.d (.v (.int .i64 t.k)), .d (.v (.string t.s)), .d (.v (.int .i64 t.n)), .d (.sl (rows t.l))]

mutual
def same : Tm → Tm → Bool
  | mk k s n l, mk k' s' n' l' => k == k' && n == n' && strEq s s' && sameL l l'
def sameL : List Tm → List Tm → Bool
  | [], [] => true
  | x :: r, y :: r' => same x y && sameL r r'
  | _, _ => false
end

theorem same_eq (a b : Tm) : same a b = (a.k == b.k && a.n == b.n && strEq a.s b.s && sameL a.l b.l) := by
  cases a; cases b; simp only [same, k, s, n, l]

theorem sameL_iff : ∀ (a b : List Tm), sameL a b = true ↔ a.length = b.length ∧ ∀ (i : Nat) (x y : Tm), a[i]? = some x → b[i]? = some y → same x y = true
  | [], [] => by simp [sameL]
  | [], _ :: _ => by simp [sameL]
  | _ :: _, [] => by simp [sameL]
  | x :: a, y :: b => by
    simp only [sameL, Bool.and_eq_true, sameL_iff a b, List.length_cons, Nat.add_right_cancel_iff]
    constructor
    · rintro ⟨h1, h2, h3⟩
      refine ⟨h2, fun i u v hu hv => ?_⟩
      cases i with
      | zero => simp at hu hv; subst hu; subst hv; exact h1
      | succ i => simp at hu hv; exact h3 i u v hu hv
    · rintro ⟨h2, h3⟩
      exact ⟨h3 0 x y rfl rfl, h2, fun i u v hu hv => h3 (i + 1) u v (by simpa using hu) (by simpa using hv)⟩
end Tm
end PSL
