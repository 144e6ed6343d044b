/- The pure law GatherOnce. Conditions: none. -/
import Derived.Test.YteajgbkgijaebaaPg
