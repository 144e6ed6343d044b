/- The pure law GatherOrder. Conditions: none. -/
import Derived.Test.YteajgbkgijaebaaPf
