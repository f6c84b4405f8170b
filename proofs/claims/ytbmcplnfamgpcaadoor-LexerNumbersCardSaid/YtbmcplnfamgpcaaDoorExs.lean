/- The examples of the chapter, reckoned. -/
import Derived.Test.YtbmcplnfamgpcaaDoorSh
namespace Go.Proofs.YtbmcplnfamgpcaaDoor
open Go Go.RowKit

/-- As lexW, but with fuel: closed texts are reckoned by it. -/
def lexF : Nat → Nat → List UInt8 → LexR
  | 0, k, s => ⟨[endT (k + s.length)], 0, 0⟩
  | m + 1, k, s => if skipB false s = [] then ⟨[endT (k + s.length)], 0, 0⟩ else
    match tok1 (skipB false s) with
    | .err e => ⟨[], (k + (s.length - (skipB false s).length) : Nat), e⟩
    | .ok kd n v => (lexF m (k + (s.length - (skipB false s).length) + n) ((skipB false s).drop n)).put ⟨kd, (k + (s.length - (skipB false s).length) : Nat), (skipB false s).take n, v⟩
theorem lexF_eq : ∀ (m k : Nat) (s : List UInt8), s.length ≤ m → lexF m k s = lexW k s
  | 0, k, s, h => by
    obtain rfl : s = [] := List.length_eq_zero_iff.1 (by omega)
    rw [lex_end rfl]; rfl
  | m + 1, k, s, h => by
    rw [lexF]
    by_cases h0 : skipB false s = []
    · rw [if_pos h0, lex_end h0]; rfl
    · rw [if_neg h0]
      cases ht : tok1 (skipB false s) with
      | err e => rw [lex_err h0 ht]
      | ok kd n v =>
        have hn := (tok1_len ht).1
        have hr := rest_lt h0 hn
        rw [lex_ok h0 ht hn]
        show (lexF m _ _).put _ = _
        rw [lexF_eq m _ _ (by omega)]
theorem lexT_of {s : List UInt8} {r : LexR} (h : lexF s.length 0 s = r) (hl : s.length ≤ 4000) : lexT s = r := by
  rw [lexT, if_neg (by omega), ← lexF_eq _ 0 s (Nat.le_refl _), h]
def exL : List Tk := [⟨1, 0, [105, 102], 0⟩, ⟨1, 3, [120, 49], 0⟩, ⟨4, 5, [60, 61], 0⟩, ⟨2, 7, [50, 48], 20⟩, ⟨0, 13, [], 0⟩]
def exD : List Tk := [⟨3, 0, [64, 48, 48, 48, 49, 45, 48, 49, 45, 48, 50], 1⟩, ⟨0, 11, [], 0⟩]
theorem exa : lexT [105, 102, 32, 120, 49, 60, 61, 50, 48, 32, 35, 32, 53] = ⟨exL, 0, 0⟩ := lexT_of (by kernel_rfl) (by decide)
theorem exb : lexT [64, 48, 48, 48, 49, 45, 48, 49, 45, 48, 50] = ⟨exD, 0, 0⟩ := lexT_of (by kernel_rfl) (by decide)
theorem exs : showP exL = [105, 102, 32, 120, 49, 32, 60, 61, 32, 50, 48] := by kernel_rfl
theorem exw0 : lexT [97, 32, 48, 48, 55] = ⟨[], 2, 20⟩ := lexT_of (by kernel_rfl) (by decide)
theorem exw1 : lexT [97, 32, 50, 49, 52, 55, 52, 56, 51, 54, 52, 56] = ⟨[], 2, 5⟩ := lexT_of (by kernel_rfl) (by decide)
theorem exw2 : lexT [64, 50, 48, 50, 54, 45, 48, 50, 45, 51, 48] = ⟨[], 0, 5⟩ := lexT_of (by kernel_rfl) (by decide)
theorem exw3 : lexT [64, 50, 48, 50, 54, 45, 50, 45, 51] = ⟨[], 0, 20⟩ := lexT_of (by kernel_rfl) (by decide)
theorem exw4 : lexT [120, 32, 33, 32, 121] = ⟨[], 2, 20⟩ := lexT_of (by kernel_rfl) (by decide)
theorem exw5 : lexT [97, 98, 99, 100, 101, 102, 103, 104, 105, 106, 107, 108, 109] = ⟨[], 0, 2⟩ := lexT_of (by kernel_rfl) (by decide)
theorem exw6 : lexT [97, 66] = ⟨[], 1, 20⟩ := lexT_of (by kernel_rfl) (by decide)
theorem SL.new {α : Type} {cf : α → List Value} {sz : Nat} (hcf : ∀ a, (cf a).length = sz) (w : World) (l : List α) (cs : Array Value) (hcs : cs.toList = gcells cf l) (t : TypeId) : SL cf sz (w.alloc (.cells cs t)) (some ⟨w.heap.size, 0, none⟩) l.length l := by
  refine ⟨rfl, fun _ => ⟨w.heap.size, 0, rfl, by simp, fun i a hi j u hu => ?_⟩⟩
  have hj : j < sz := by rw [← hcf a]; exact (List.getElem?_eq_some_iff.1 hu).1
  rw [cell_of_row _ w.heap.size _ _ t (0, 0) (heap_alloc_new w _)]
  rw [← gcells_at hcf l i a hi j hj, ← hcs] at hu
  simpa using hu
theorem want_sl (w : World) : SL tcf 4 (w.alloc (.cells #[.int .i64 1, .int .i64 0, .string ⟨#[105, 102]⟩, .int .i64 0, .int .i64 1, .int .i64 3, .string ⟨#[120, 49]⟩, .int .i64 0, .int .i64 4, .int .i64 5, .string ⟨#[60, 61]⟩, .int .i64 0, .int .i64 2, .int .i64 7, .string ⟨#[50, 48]⟩, .int .i64 20, .int .i64 0, .int .i64 13, .string ⟨#[]⟩, .int .i64 0] 36)) (some ⟨w.heap.size, 0, none⟩) 5 exL :=
  SL.new (cf := tcf) tcf_len w exL #[.int .i64 1, .int .i64 0, .string ⟨#[105, 102]⟩, .int .i64 0, .int .i64 1, .int .i64 3, .string ⟨#[120, 49]⟩, .int .i64 0, .int .i64 4, .int .i64 5, .string ⟨#[60, 61]⟩, .int .i64 0, .int .i64 2, .int .i64 7, .string ⟨#[50, 48]⟩, .int .i64 20, .int .i64 0, .int .i64 13, .string ⟨#[]⟩, .int .i64 0] rfl 36
/-- The tokens of a text that is known. -/
def LexPost (l : List Tk) (o x : Int) (w : World) (e : Ending) (w' : World) : Prop := ∃ A c, e = .returned (.tuple #[.slice A l.length c, .int .i64 o, .int .i64 x]) ∧ Hid (SL tcf 4 w' A l.length l) ∧ Ext w w'
theorem lex_known (s : ByteArray) (l : List Tk) (o x : Int) (h : lexT s.data.toList = ⟨l, o, x⟩) (hs : s.size ≤ 281474976710656) (X : World) (hE : EnvT X) : Calls Tryd.prog 14 #[.string s] X (LexPost l o x X) := by
  refine (tokens_any s X hs hE.1 hE.2).mono ?_
  rintro e w' ⟨A, c, rfl, hsl, hx, _⟩
  rw [h] at hsl ⊢
  exact ⟨A, c, rfl, Lib.hid hsl, hx⟩
end Go.Proofs.YtbmcplnfamgpcaaDoor
