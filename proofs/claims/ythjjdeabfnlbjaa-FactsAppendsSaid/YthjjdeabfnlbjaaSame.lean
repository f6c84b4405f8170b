/- The contracts of rollbookref18.SameFacts and SameVersions. -/
import Derived.Test.YthjjdeabfnlbjaaDelF
namespace Go.Proofs.Ythjjdeabfnlbjaa
open Go Go.RowKit

theorem stood30 : Try.prog.stoodInHeld 30 = false := by kernel_rfl
theorem stood32 : Try.prog.stoodInHeld 32 = false := by kernel_rfl
theorem str30 : Try.prog.underlying 30 = some (.struct (Try.prog.fieldsOf 30)) := by kernel_rfl
theorem str32 : Try.prog.underlying 32 = some (.struct (Try.prog.fieldsOf 32)) := by kernel_rfl
theorem eqF (f g : Fc) (w : World) : (Op.equalIn 10000 30 (.agg #[.int .i64 f.en, .string f.kd, .int .i64 f.day, .int .i64 f.byy, .int .i64 f.too, .int .i64 f.am]) (.agg #[.int .i64 g.en, .string g.kd, .int .i64 g.day, .int .i64 g.byy, .int .i64 g.too, .int .i64 g.am])).run Try.prog w = .ok (decide (f = g)) w := by
  rw [run_equalIn_struct w 9999 30 _ _ str30 stood30]
  have hk : f.kd.toList = g.kd.toList ↔ f.kd = g.kd := by
    rw [ByteArray.toList_eq, ByteArray.toList_eq]
    exact ⟨fun h => WideShapes.bytes_inj h, fun h => by rw [h]⟩
  have hd : decide (f = g) = decide (f.en = g.en ∧ f.kd = g.kd ∧ f.day = g.day ∧ f.byy = g.byy ∧ f.too = g.too ∧ f.am = g.am) := by
    rw [decide_eq_decide]; cases f; cases g; simp
  rw [hd]
  simp [go_sem, hk]
  by_cases h1 : f.en = g.en <;> by_cases h2 : f.kd = g.kd <;> by_cases h3 : f.day = g.day <;> by_cases h4 : f.byy = g.byy <;> by_cases h5 : f.too = g.too <;> by_cases h6 : f.am = g.am <;> simp [h1, h2, h3, h4, h5, h6]
theorem eqV (f g : Vr) (w : World) : (Op.equalIn 10000 32 (.agg #[.int .i64 f.op, .bool f.st, .int .i64 f.fc.en, .string f.fc.kd, .int .i64 f.fc.day, .int .i64 f.fc.byy, .int .i64 f.fc.too, .int .i64 f.fc.am]) (.agg #[.int .i64 g.op, .bool g.st, .int .i64 g.fc.en, .string g.fc.kd, .int .i64 g.fc.day, .int .i64 g.fc.byy, .int .i64 g.fc.too, .int .i64 g.fc.am])).run Try.prog w = .ok (decide (f = g)) w := by
  rw [run_equalIn_struct w 9999 32 _ _ str32 stood32]
  have hk : f.fc.kd.toList = g.fc.kd.toList ↔ f.fc.kd = g.fc.kd := by
    rw [ByteArray.toList_eq, ByteArray.toList_eq]
    exact ⟨fun h => WideShapes.bytes_inj h, fun h => by rw [h]⟩
  have hd : decide (f = g) = decide (f.op = g.op ∧ f.st = g.st ∧ f.fc.en = g.fc.en ∧ f.fc.kd = g.fc.kd ∧ f.fc.day = g.fc.day ∧ f.fc.byy = g.fc.byy ∧ f.fc.too = g.fc.too ∧ f.fc.am = g.fc.am) := by
    rw [decide_eq_decide]; obtain ⟨a1, a2, ⟨a3, a4, a5, a6, a7, a8⟩⟩ := f; obtain ⟨b1, b2, ⟨b3, b4, b5, b6, b7, b8⟩⟩ := g; simp
  rw [hd]
  simp [go_sem, hk]
  by_cases h7 : f.op = g.op
  · by_cases h8 : f.st = g.st
    · by_cases h1 : f.fc.en = g.fc.en <;> by_cases h2 : f.fc.kd = g.fc.kd <;> by_cases h3 : f.fc.day = g.fc.day <;> by_cases h4 : f.fc.byy = g.fc.byy <;> by_cases h5 : f.fc.too = g.fc.too <;> by_cases h6 : f.fc.am = g.fc.am <;> simp [h1, h2, h3, h4, h5, h6, h7, h8]
    · simp [h7, h8]
  · simp [h7]

theorem ext_fat {l l' : List Fc} (hn : l.length = l'.length) (h : ∀ j, j < l.length → fat l j = fat l' j) : l = l' := by
  apply List.ext_getElem hn
  intro i h1 h2
  have := h i h1
  simpa [fat, h1, h2] using this
set_option maxRecDepth 100000 in
set_option maxHeartbeats 1000000 in
theorem sameF_any (A A' : Option Addr) (n n' c c' : Nat) (l l' : List Fc) (w : World) (hl : n ≤ 1000) (hl' : n' ≤ 1000) (h : SF w w.heap.size A n l) (h' : SF w w.heap.size A' n' l') :
    Calls Try.prog 19 #[.slice A n c, .slice A' n' c'] w fun e w' => e = .returned (.bool (decide (l = l'))) ∧ Ext w w' := by
  obtain rfl : l.length = n := h.1
  obtain rfl : l'.length = n' := h'.1
  have HS := Lib.hid h; clear h
  have HS' := Lib.hid h'; clear h'
  by_cases hlen : l.length = l'.length
  · have hne : ((l.length : Int) == l'.length) = true := by simp [hlen]
    have hne2 : ((l.length : Int) != l'.length) = false := by simp [hlen]
    have HL := Lib.hid hlen; clear hlen
    go_enter Try.func19, Try.ntmps19
    go_wp2
    clear hne hne2
    go_loopw [5] (fun i wr => ∃ k : Nat, k ≤ l.length ∧ i = .int .i64 k ∧ (∀ j, j < k → fat l j = fat l' j) ∧ Ext w wr) (fun i _ => l.length - (intOf i).toNat)
    case atStart => exact ⟨0, Nat.zero_le _, rfl, fun j h => absurd h (by omega), Ext.refl _⟩
    case round =>
      obtain ⟨k, hk, rfl, hno, hx⟩ := hrel
      have HN := Lib.hid hno; clear hno
      by_cases hlt : k < l.length
      · have hlt' : (k : Int) < l.length := by omega
        have hlt2 : k < l'.length := by rw [← HL.out]; exact hlt
        have hlt3 : (k : Int) < l'.length := by omega
        obtain ⟨b, off, rfl, hb, c0, c1, c2, c3, c4, c5⟩ := SF.at_ (SF.lift HS.out (Nat.le_refl _) hx) (k := k) hlt
        obtain ⟨b', off', rfl, hb', d0, d1, d2, d3, d4, d5⟩ := SF.at_ (SF.lift HS'.out (Nat.le_refl _) hx) (k := k) hlt2
        have hcmp := fun W => eqF (fat l k) (fat l' k) W
        cases hd : decide (fat l k = fat l' k)
        · rw [hd] at hcmp
          have HD := Lib.hid (of_decide_eq_false hd)
          clear hd
          go_wp2
          go_quiet (fail)
          go_wp2
          go_ret
          exact ⟨ret_bool (by rw [eq_comm, decide_eq_false_iff_not]; exact fun e => HD.out (by rw [e])), hx.drewN _⟩
        · rw [hd] at hcmp
          have HD := Lib.hid (of_decide_eq_true hd)
          clear hd
          go_wp2
          go_quiet (fail)
          go_wp2
          exact ⟨⟨k + 1, by omega, by go_num, fun j h => (by
            by_cases e : j = k
            · subst e; exact HD.out
            · exact HN.out j (by omega)), hx.drewN _⟩, by simp [intOf]; omega⟩
      · obtain rfl : k = l.length := by omega
        go_wp2
        go_ret
        exact ⟨ret_bool (by rw [eq_comm, decide_eq_true_eq]; exact ext_fat HL.out HN.out), hx⟩
  · have hne : ((l.length : Int) == l'.length) = false := by rw [beq_eq_false_iff_ne]; omega
    have hne2 : ((l.length : Int) != l'.length) = true := by rw [bne_iff_ne]; omega
    have HL := Lib.hid hlen; clear hlen
    go_enter Try.func19, Try.ntmps19
    go_wp2
    go_ret
    exact ⟨ret_bool (by rw [eq_comm, decide_eq_false_iff_not]; exact fun e => HL.out (by rw [e])), Ext.refl _⟩

theorem ext_vat {l l' : List Vr} (hn : l.length = l'.length) (h : ∀ j, j < l.length → vat l j = vat l' j) : l = l' := by
  apply List.ext_getElem hn
  intro i h1 h2
  have := h i h1
  simpa [vat, h1, h2] using this
set_option maxRecDepth 100000 in
set_option maxHeartbeats 1000000 in
theorem sameV_any (A A' : Option Addr) (n n' c c' : Nat) (l l' : List Vr) (w : World) (hl : n ≤ 1000) (hl' : n' ≤ 1000) (h : SV w w.heap.size A n l) (h' : SV w w.heap.size A' n' l') :
    Calls Try.prog 18 #[.slice A n c, .slice A' n' c'] w fun e w' => e = .returned (.bool (decide (l = l'))) ∧ Ext w w' := by
  obtain rfl : l.length = n := h.1
  obtain rfl : l'.length = n' := h'.1
  have HS := Lib.hid h; clear h
  have HS' := Lib.hid h'; clear h'
  by_cases hlen : l.length = l'.length
  · have hne : ((l.length : Int) == l'.length) = true := by simp [hlen]
    have hne2 : ((l.length : Int) != l'.length) = false := by simp [hlen]
    have HL := Lib.hid hlen; clear hlen
    go_enter Try.func18, Try.ntmps18
    go_wp2
    clear hne hne2
    go_loopw [5] (fun i wr => ∃ k : Nat, k ≤ l.length ∧ i = .int .i64 k ∧ (∀ j, j < k → vat l j = vat l' j) ∧ Ext w wr) (fun i _ => l.length - (intOf i).toNat)
    case atStart => exact ⟨0, Nat.zero_le _, rfl, fun j h => absurd h (by omega), Ext.refl _⟩
    case round =>
      obtain ⟨k, hk, rfl, hno, hx⟩ := hrel
      have HN := Lib.hid hno; clear hno
      by_cases hlt : k < l.length
      · have hlt' : (k : Int) < l.length := by omega
        have hlt2 : k < l'.length := by rw [← HL.out]; exact hlt
        have hlt3 : (k : Int) < l'.length := by omega
        obtain ⟨b, off, rfl, hb, c0, c1, c2, c3, c4, c5, c6, c7⟩ := SV.at_ (SV.lift HS.out (Nat.le_refl _) hx) (k := k) hlt
        obtain ⟨b', off', rfl, hb', d0, d1, d2, d3, d4, d5, d6, d7⟩ := SV.at_ (SV.lift HS'.out (Nat.le_refl _) hx) (k := k) hlt2
        have hcmp := fun W => eqV (vat l k) (vat l' k) W
        cases hd : decide (vat l k = vat l' k)
        · rw [hd] at hcmp
          have HD := Lib.hid (of_decide_eq_false hd)
          clear hd
          go_wp2
          go_quiet (fail)
          go_wp2
          go_ret
          exact ⟨ret_bool (by rw [eq_comm, decide_eq_false_iff_not]; exact fun e => HD.out (by rw [e])), hx.drewN _⟩
        · rw [hd] at hcmp
          have HD := Lib.hid (of_decide_eq_true hd)
          clear hd
          go_wp2
          go_quiet (fail)
          go_wp2
          exact ⟨⟨k + 1, by omega, by go_num, fun j h => (by
            by_cases e : j = k
            · subst e; exact HD.out
            · exact HN.out j (by omega)), hx.drewN _⟩, by simp [intOf]; omega⟩
      · obtain rfl : k = l.length := by omega
        go_wp2
        go_ret
        exact ⟨ret_bool (by rw [eq_comm, decide_eq_true_eq]; exact ext_vat HL.out HN.out), hx⟩
  · have hne : ((l.length : Int) == l'.length) = false := by rw [beq_eq_false_iff_ne]; omega
    have hne2 : ((l.length : Int) != l'.length) = true := by rw [bne_iff_ne]; omega
    have HL := Lib.hid hlen; clear hlen
    go_enter Try.func18, Try.ntmps18
    go_wp2
    go_ret
    exact ⟨ret_bool (by rw [eq_comm, decide_eq_false_iff_not]; exact fun e => HL.out (by rw [e])), Ext.refl _⟩
end Go.Proofs.Ythjjdeabfnlbjaa
