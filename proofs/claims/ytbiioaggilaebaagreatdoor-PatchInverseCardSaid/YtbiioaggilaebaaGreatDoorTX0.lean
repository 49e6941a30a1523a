/- A short word for hiding a fact from the walk. -/
import Derived.Lib.Hide
theorem Go.lh {p : Prop} (h : p) : Go.RowKit.Hid p := h
