/- All operations that change memory. -/
import Derived.Test.YtndbccpaccflcaaGreatDmEf
set_option linter.unusedVariables false
set_option linter.unusedSimpArgs false
set_option linter.unusedSectionVars false
namespace Go.Proofs.YtndbccpaccflcaaGreat.Dm
open Go

section
variable {P : Program} {ty : Ty} (hty : TyOk P ty) {ι : Io} {ρ : Env} {R : Operand → Value} (he : ER ι ρ R) {w : World} {h h' : Heap} (rep : Rep ι w h) {o : Oper} {v : AV}
include hty he rep

set_option maxHeartbeats 1000000 in
theorem e_call {c : Call} (ho : o.op = .call c) (hq : eop ty ρ h (.call c) = some (v, h')) (hf : Free ι h.next h'.next) : EOk P ι h h' w R o v := by
  simp only [eop] at hq
  split at hq
  · rename_i b hc
    split at hq
    · rename_i s x ha
      obtain ⟨x1, x2, hx, hr1, hr2⟩ := two_args hty he rep ha
      have hargs := arr_two hty he rep hx
      split at hq
      · rename_i st xt h0 h1
        split at hq
        · rename_i ti tx ht htx
          split at hq
          · cases hq
          · rename_i e hk hni
            split at hq
            · rename_i te hte
              cases hz : zeroFits te with
              | false => rw [hz] at hq; cases hq
              | true =>
                rw [hz] at hq; simp only [cnd_true] at hq
                split at hq
                · rename_i n xr hsrc
                  exact e_append hty he rep ho hc hargs hr1 hr2 h0 h1 ht htx hk hni hte hz hsrc hf hq
                · cases hq
            · cases hq
          · cases hq
        · cases hq
      · cases hq
    · rename_i d x ha
      obtain ⟨x1, x2, hx, hr1, hr2⟩ := two_args hty he rep ha
      have hargs := arr_two hty he rep hx
      split at hq
      · rename_i st h0
        split at hq
        · rename_i ti ht
          split at hq
          · rename_i e hk
            split at hq
            · rename_i te hte
              split at hq
              · rename_i n xr hsrc
                exact e_copy hty he rep ho hc hargs hr1 hr2 h0 ht hk hte hsrc hq
              · cases hq
            · cases hq
          · cases hq
        · cases hq
      · cases hq
    · rename_i x kv ha
      obtain ⟨x1, x2, hx, hr1, hr2⟩ := two_args hty he rep ha
      have hargs := arr_two hty he rep hx
      split at hq
      · rename_i t h0
        split at hq
        · rename_i ti ht
          split at hq
          · rename_i kt et hk
            cases hkey : keyV ty 12 kt kv with
            | false => rw [hkey] at hq; cases hq
            | true =>
              rw [hkey] at hq; simp only [cnd_true] at hq
              exact e_delete hty he rep ho hc hargs hr1 hr2 h0 ht hk hkey hq
          · cases hq
        · cases hq
      · cases hq
    · rename_i x ha
      obtain ⟨x1, hx, hr1⟩ := one_arg hty he rep ha
      have hargs := arr_one hty he rep hx
      split at hq
      · rename_i t h0
        split at hq
        · rename_i ti ht
          exact e_clear hty he rep ho hc hargs hr1 h0 ht hq
        · cases hq
      · cases hq
    · cases hq
  · cases hq

theorem eop_sound (hq : eop ty ρ h o.op = some (v, h')) (hf : Free ι h.next h'.next) : EOk P ι h h' w R o v := by
  cases ho : o.op <;> rw [ho] at hq
  case store => exact e_store hty he rep ho hq
  case mapUpdate => exact e_mapUpdate hty he rep ho hq
  case mapEntry => exact e_mapEntry hty he rep ho hq
  case entryStore => exact e_entryStore hty he rep ho hq
  case range => exact e_range hty he rep ho hq hf
  case next => exact e_next hty he rep ho hq
  case convert => exact e_convert hty he rep ho hq hf
  case call => exact e_call hty he rep ho hq hf
  all_goals (simp only [eop] at hq; cases hq)

end
end Go.Proofs.YtndbccpaccflcaaGreat.Dm
