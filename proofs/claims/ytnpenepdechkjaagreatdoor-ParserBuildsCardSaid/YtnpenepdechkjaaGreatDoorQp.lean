/- What Print prints is parsed as the rules; what Show shows as the tree. -/
import Derived.Test.YtnpenepdechkjaaGreatDoorQo
import Derived.Test.YtnpenepdechkjaaGreatDoorQr
import Derived.Test.YtnpenepdechkjaaGreatDoorMf
namespace Go.Proofs.YtnpenepdechkjaaGreatDoor
open Go

theorem LxA.catA {x y : List UInt8} {ts us : List Tk} (h : LxA x ts) (k : LxA y us) : LxA (x ++ y) (ts ++ us) := fun u => by
  obtain ⟨a1, a2⟩ := k u
  obtain ⟨b1, b2⟩ := h (y ++ u)
  rw [List.append_assoc, List.map_append, List.append_assoc]
  exact ⟨b1.trans a1, fun h0 => by rw [b2 (a1.trans h0), a2 h0]⟩
theorem Lx.catA {x y : List UInt8} {c : UInt8} {ts us : List Tk} (h : Lx x ts) (hc : sepc c = true) (k : LxA (c :: y) us) : LxA (x ++ c :: y) (ts ++ us) := fun u => by
  obtain ⟨a1, a2⟩ := k u
  obtain ⟨b1, b2⟩ := h (c :: y ++ u) (fun d hd => by
    obtain rfl : c = d := by simpa using hd
    exact hc)
  rw [List.append_assoc, List.map_append, List.append_assoc]
  exact ⟨b1.trans a1, fun h0 => by rw [b2 (a1.trans h0), a2 h0]⟩
theorem LxA.blank {y : List UInt8} {us : List Tk} (k : LxA y us) : LxA (32 :: y) us := (lx_blank (c := 32) (.inl rfl)).catA k
theorem Lx.spA {x y : List UInt8} {ts us : List Tk} (h : Lx x ts) (k : LxA y us) : LxA (x ++ 32 :: y) (ts ++ us) := h.catA (by decide) k.blank
/-- Tokens of rules. -/
def optK (w s : List UInt8) : List Tk := if s = [] then [] else [wd w, wd s, sy wSemi]
def ifK (t : Tr) : List Tk := if trK t = 2 ∧ trN t = 1 then [] else wd wIf :: (tkT t ++ [sy wSemi])
def tkR (x : Rl) : List Tk :=
  wd wRule :: wd x.name :: wd wFrom :: ⟨3, 0, 64 :: prL x.from_.toNat, x.from_⟩ :: sy wBrace :: wd wOn :: wd x.on_ :: sy wSemi :: (ifK x.if_ ++ (wd wDue :: (tkT x.due ++ (sy wSemi :: (optK wUnless x.unless_ ++ (optK wElse x.else_ ++ [sy wBraceE]))))))
theorem lx_line {w s : List UInt8} {ts : List Tk} (hw : w ∈ reserved) (h : Lx s ts) (hs : s ≠ []) : LxA (lineL w s) (wd w :: (ts ++ [sy wSemi])) := by
  have h1 : LxA (59 :: [10]) [sy wSemi] := (lx_sym (c := 59) (by decide)).catA (lx_blank (c := 10) (.inr rfl))
  have h2 := ((lx_word hw).spA (h.catA (by decide) h1)).blank.blank
  unfold lineL
  rw [if_neg hs]
  simpa using h2
theorem nm_lx {s : List UInt8} (h : NmOK s) : Lx s [wd s] ∧ s ≠ [] := ⟨lx_tok (t := wd s) h.1, h.1.1⟩
theorem show_ne {t : Tr} (h : GT t) : showT t ≠ [] := by
  cases h with
  | num n h =>
    rw [show showT (.nd 1 n [] []) = Lib.itoa n by simp [showT, showN]]
    obtain ⟨m, rfl⟩ := Int.eq_ofNat_of_zero_le h.1
    rw [itoa_nat]
    exact (dec_all m m (Nat.le_refl _)).2.2.1
  | bool n h =>
    rw [show showT (.nd 2 n [] []) = if n = 1 then wTrue else wFalse by simp [showT, showN]]
    split <;> decide
  | day n h => rw [show showT (.nd 3 n [] []) = 64 :: prL n.toNat by simp [showT, showN]]; simp
  | field s h => rw [show showT (.nd 4 0 s []) = s by simp [showT, showN]]; exact (words_ok s (res_of (.inr (.inl h)))).2
  | una s a h ha =>
    by_cases hs : s = wNot
    · simp [showT, showTs, showN, hs]
    · simp [showT, showTs, showN, hs]
  | bin s a b h ha hb => simp [showT, showTs, showN]
  | aft k s a b hk h ha hb => rw [shw_aft _ _ _ _ hk]; simp
  | ite a b c ha hb hc => simp [showT, showTs, showN]
  | call1 s a h hs ha => simp [showT, showTs, showN]
  | call2 s a b h hs ha hb => simp [showT, showTs, showN]
theorem lx_opt {w s : List UInt8} (hw : w ∈ reserved) (h : s = [] ∨ NmOK s) : LxA (lineL w s) (optK w s) := by
  rcases h with rfl | h
  · exact LxA.nil
  · have := lx_line hw (nm_lx h).1 (nm_lx h).2
    unfold optK
    rw [if_neg (nm_lx h).2]
    exact this
theorem lx_rule {x : Rl} (h : GQ x) : LxA (ruleL x) (tkR x) := by
  have h1 := lx_line (w := wOn) (by decide) (nm_lx h.on_).1 (nm_lx h.on_).2
  have h2 : LxA (ifL x.if_) (ifK x.if_) := by
    unfold ifL ifK
    split
    · exact LxA.nil
    · exact lx_line (w := wIf) (by decide) (lx_show h.if_.gt) (show_ne h.if_.gt)
  have h3 := lx_line (w := wDue) (by decide) (lx_show h.due.gt) (show_ne h.due.gt)
  have h4 := lx_opt (w := wUnless) (by decide) h.un
  have h5 := lx_opt (w := wElse) (by decide) h.el
  have h6 : LxA (125 :: [10]) [sy wBraceE] := (lx_sym (c := 125) (by decide)).catA (lx_blank (c := 10) (.inr rfl))
  have h7 : LxA (123 :: [10]) [sy wBrace] := (lx_sym (c := 123) (by decide)).catA (lx_blank (c := 10) (.inr rfl))
  have h0 := (lx_word (s := wRule) (by decide)).spA ((nm_lx h.nm).1.spA ((lx_word (s := wFrom) (by decide)).spA ((lx_day h.fr).spA h7)))
  have h9 := h0.catA (h1.catA (h2.catA (h3.catA (h4.catA (h5.catA h6)))))
  have e1 : ruleL x = wRule ++ 32 :: (x.name ++ 32 :: (wFrom ++ 32 :: (64 :: prL x.from_.toNat ++ 32 :: 123 :: [10]))) ++ (lineL wOn x.on_ ++ (ifL x.if_ ++ (lineL wDue (showT x.due) ++ (lineL wUnless x.unless_ ++ (lineL wElse x.else_ ++ 125 :: [10]))))) := by
    simp [ruleL, wRule, wFrom, wOn, wDue, wUnless, wElse]
  have e2 : tkR x = [wd wRule] ++ ([wd x.name] ++ ([wd wFrom] ++ ([⟨3, 0, 64 :: prL x.from_.toNat, x.from_⟩] ++ [sy wBrace]))) ++ (wd wOn :: ([wd x.on_] ++ [sy wSemi]) ++ (ifK x.if_ ++ (wd wDue :: (tkT x.due ++ [sy wSemi]) ++ (optK wUnless x.unless_ ++ (optK wElse x.else_ ++ [sy wBraceE]))))) := by
    simp [tkR]
  rw [e1, e2]
  exact h9
theorem lx_rules : ∀ {l : List Rl}, (∀ x ∈ l, GQ x) → LxA (printL l) (l.flatMap tkR)
  | [], _ => LxA.nil
  | x :: _, h => (lx_rule (h x (List.mem_cons_self ..))).catA (lx_rules fun y hy => h y (List.mem_cons_of_mem _ hy))
/-! ### Parsing -/
theorem EX_tk {t : Tr} (h : GD 12 t) (x : Tk) (r : List Tk) (h1 : lvOf x.tx = 0) (h2 : x.tx ∉ units) : EX (tkT t ++ x :: r) = .ok t (x :: r) :=
  (tree_tk h).1 1 0 40000 (x :: r) (Nat.le_refl _) (GT.lv h.gt).1 (by decide) (by unfold FU; decide) (by rw [hdc, h1]; decide) (fun _ => by rw [hdc]; exact h2)
theorem name_tk {s : List UInt8} (h : NmOK s) (r : List Tk) : nameP (wd s :: r) = .ok s r := by
  unfold nameP tokP
  rw [hdc, if_neg (show ¬ (wd s).tx ∈ reserved from h.2), if_pos (wd_kd s)]; rfl
theorem tok_tk (k : Int) (t : Tk) (r : List Tk) (h : t.kd = k) : tokP k (t :: r) = .ok t r := by unfold tokP; rw [hdc, if_pos h]; rfl
theorem opt_tk {w s : List UInt8} (h : s = [] ∨ NmOK s) (r : List Tk) (hr : (hd r).tx ≠ w) : partP w [] nameP (optK w s ++ r) = .ok s r := by
  unfold optK
  rcases h with rfl | h
  · rw [if_pos rfl, List.nil_append]
    unfold partP
    rw [if_neg hr]
  · rw [if_neg (nm_lx h).2]
    show partP w [] nameP (wd w :: wd s :: sy wSemi :: r) = _
    unfold partP
    rw [hdc, if_pos (wd_tx w), List.tail_cons, name_tk h, PR.bind_ok, must_eq _ _ _ (sy_tx wSemi), PR.bind_ok]
theorem true_of {B : Nat} {t : Tr} (h : GD B t) (hk : trK t = 2 ∧ trN t = 1) : t = trTrue := by
  obtain ⟨h1, h2⟩ := hk
  cases h with
  | num => exact absurd h1 (show ¬ (1 : Int) = 2 by decide)
  | bool _ n h => have h2' : n = 1 := h2
                  rw [h2']; rfl
  | day => exact absurd h1 (show ¬ (3 : Int) = 2 by decide)
  | field => exact absurd h1 (show ¬ (4 : Int) = 2 by decide)
  | una => exact absurd h1 (show ¬ (5 : Int) = 2 by decide)
  | bin => exact absurd h1 (show ¬ (6 : Int) = 2 by decide)
  | aft _ k s a b hk h hA hB ha hb => have h1' : k = 2 := h1
                                      omega
  | ite => exact absurd h1 (show ¬ (9 : Int) = 2 by decide)
  | call1 => exact absurd h1 (show ¬ (10 : Int) = 2 by decide)
  | call2 => exact absurd h1 (show ¬ (10 : Int) = 2 by decide)
theorem if_tk {t : Tr} (h : GD 12 t) (r : List Tk) (hr : (hd r).tx ≠ wIf) : partP wIf trTrue EX (ifK t ++ r) = .ok t r := by
  unfold ifK
  split
  · rename_i hc
    rw [List.nil_append, true_of h hc]
    unfold partP
    rw [if_neg hr]
  · have e : wd wIf :: (tkT t ++ [sy wSemi]) ++ r = wd wIf :: (tkT t ++ sy wSemi :: r) := by simp
    rw [e]
    unfold partP
    rw [hdc, if_pos (wd_tx wIf), List.tail_cons, EX_tk h _ _ (by decide) (by decide), PR.bind_ok, must_eq _ _ _ (sy_tx wSemi), PR.bind_ok]
theorem rule_tk {x : Rl} (h : GQ x) (r : List Tk) : ruleP EX (tkR x ++ r) = .ok x r := by
  have e : tkR x ++ r = wd wRule :: wd x.name :: wd wFrom :: ⟨3, 0, 64 :: prL x.from_.toNat, x.from_⟩ :: sy wBrace :: wd wOn :: wd x.on_ :: sy wSemi :: (ifK x.if_ ++ (wd wDue :: (tkT x.due ++ (sy wSemi :: (optK wUnless x.unless_ ++ (optK wElse x.else_ ++ sy wBraceE :: r)))))) := by simp [tkR]
  have h9 : (hd (optK wElse x.else_ ++ sy wBraceE :: r)).tx ≠ wUnless := by
    unfold optK
    split
    · rw [List.nil_append, hdc]; decide
    · rw [List.cons_append, hdc]; decide
  rw [e]
  unfold ruleP
  rw [must_eq _ _ _ (wd_tx wRule), PR.bind_ok, name_tk h.nm, PR.bind_ok, must_eq _ _ _ (wd_tx wFrom), PR.bind_ok, tok_tk 3 _ _ rfl, PR.bind_ok, must_eq _ _ _ (sy_tx wBrace), PR.bind_ok, must_eq _ _ _ (wd_tx wOn), PR.bind_ok, name_tk h.on_, PR.bind_ok, must_eq _ _ _ (sy_tx wSemi), PR.bind_ok,
    if_tk h.if_ _ (by rw [hdc]; decide), PR.bind_ok, must_eq _ _ _ (wd_tx wDue), PR.bind_ok, EX_tk h.due _ _ (by decide) (by decide), PR.bind_ok, must_eq _ _ _ (sy_tx wSemi), PR.bind_ok, opt_tk h.un _ h9, PR.bind_ok, opt_tk h.el _ (by rw [hdc]; decide), PR.bind_ok, must_eq _ _ _ (sy_tx wBraceE), PR.bind_ok]
theorem rules_tk : ∀ (l acc : List Rl), (∀ x ∈ l, GQ x) → RP EX acc (l.flatMap tkR ++ [endT 0]) = .ok (acc ++ l) [endT 0]
  | [], acc, _ => by
    rw [RP_eq loc_EX]
    show (if (0 : Int) = 0 then PR.ok acc [endT 0] else _) = _
    rw [if_pos rfl, List.append_nil]
  | x :: l, acc, h => by
    have e : (x :: l).flatMap tkR ++ [endT 0] = tkR x ++ (l.flatMap tkR ++ [endT 0]) := by simp
    rw [RP_eq loc_EX, e, if_neg (by unfold tkR; rw [List.cons_append, hdc]; decide), rule_tk (h x (List.mem_cons_self ..)), PR.bind_ok, rules_tk l _ (fun y hy => h y (List.mem_cons_of_mem _ hy)), List.append_assoc]; rfl
theorem lexTs_of {x : List UInt8} {ts : List Tk} (hx : Lx x ts) (hl : x.length ≤ 4000) : (lexT x).e = 0 ∧ (lexT x).l.map tri = (ts ++ [endT 0]).map tri := by
  have h0 : eX [] = 0 ∧ tX [] = [endP] := by unfold eX tX; rw [lex_end (k := 0) (s := []) rfl]; exact ⟨rfl, rfl⟩
  obtain ⟨a1, a2⟩ := hx [] (fun c h => by cases h)
  rw [List.append_nil] at a1 a2
  have e : lexT x = lexW 0 x := by rw [lexT, if_neg (by omega)]
  rw [e]
  refine ⟨a1.trans h0.1, ?_⟩
  have := a2 h0.1
  rw [h0.2] at this
  rw [List.map_append]
  exact this
theorem hd_end {r : List Tk} (h : r.map tri = [endT 0].map tri) : (hd r).kd = 0 := by
  cases r with
  | nil => rfl
  | cons a b =>
    simp only [List.map_cons, List.cons.injEq] at h
    exact congrArg (fun x => x.1) h.1
theorem print_parse {l : List Rl} (h : ∀ x ∈ l, GQ x) (hl : (printL l).length ≤ 4000) : parseR (printL l) = (l, 0, 0) := by
  obtain ⟨he, hm⟩ := lexTs_of (lx_rules h).lx hl
  obtain ⟨r', h1, h2⟩ := loc_RP [] hm
  rw [rules_tk l [] h] at h1 h2
  unfold parseR parseG
  rw [if_pos he, h1]
  show (if (hd r').kd = 0 then (([] : List Rl) ++ l, (0 : Int), (0 : Int)) else _) = _
  rw [if_pos (hd_end h2)]; rfl
theorem nm_len {s : List UInt8} (h : NmOK s) : s.length ≤ 12 := (word_nm (t := ⟨1, 0, s, 0⟩) h.1 rfl).2
theorem GQ.gr {x : Rl} (h : GQ x) (h1 : tsz x.if_ ≤ 100000) (h2 : tsz x.due ≤ 100000) : GR x := by
  have b1 := shB_tsz h.if_.gt
  have b2 := shB_tsz h.due.gt
  have n1 := nm_len h.nm
  have n2 := nm_len h.on_
  have n3 : x.unless_.length ≤ 12 := by rcases h.un with e | e; (rw [e]; simp); exact nm_len e
  have n4 : x.else_.length ≤ 12 := by rcases h.el with e | e; (rw [e]; simp); exact nm_len e
  exact ⟨h.fr, h.if_.gt, h.due.gt, by omega, by omega, by omega, by omega, by omega, by omega⟩
end Go.Proofs.YtnpenepdechkjaaGreatDoor
