/- The pure law BeatRises. Conditions: none. -/
import Derived.Test.YtckoficjcnaedaaPd
